/- The law TarWrites. -/
import Derived.Test.YtpheifdpjcppdaaGreatDoorTbMO
namespace Go.Proofs.YtpheifdpjcppdaaGreatDoor
open Go.RowKit
/-- math/bits.deBruijn64tab, as the row lists it. -/
def debL : List Int := [0, 1, 56, 2, 57, 49, 28, 3, 61, 58, 42, 50, 38, 29, 17, 4, 62, 47, 59, 36, 45, 43, 51, 22, 53, 39, 33, 30, 24, 18, 12, 5, 63, 55, 48, 27, 60, 41, 37, 16, 46, 35, 44, 21, 52, 32, 23, 11, 54, 26, 40, 15, 34, 20, 31, 10, 25, 14, 19, 9, 13, 8, 7, 6]
theorem deb_of_tab {W : World} (h : Lib.TabIs Tryz.prog W "math/bits.deBruijn64tab" .u8 debL) : Deb W := by
  unfold Deb
  rw [World.var?_cell (show Tryz.prog.globalNamed "math/bits.deBruijn64tab" = some 3 by kernel_rfl) h 7]
  rfl
theorem light_lb12 {l : List En} (h : lightE 12 l = true) : LB l ∧ l.length ≤ 50 := ⟨light_lb 12 (by omega) l h, by have := (light_eb 12 l h).1; omega⟩
theorem Row8.sl8 {w0 w : World} {R0 : Option Nat} {base : Nat} {v : Value} {l : List UInt8} (h : Row8 w0 R0 base 5 w v l) : Sl 1 Rbyte nowhere w v l := own_sl8 h.own
set_option maxRecDepth 20000 in
set_option maxHeartbeats 8000000 in
theorem law_tarwrites (v : Value) (l : List En) (st : Int) (w : World) (hsl : Sl 10 Rent nowhere w v l) (_ : -9223372036854775808 ≤ st ∧ st ≤ 9223372036854775807) (hT : Tab w) (hD : Deb w) :
    Calls Tryz.prog 3 #[v, .int .i64 st] w fun r w' => r = .returned (.bool true) ∧ Below w.heap.size w w' := by
  obtain ⟨A, cap, rfl, hc1, hc2⟩ := hsl.form
  have HT := Lib.hid (fun W (hb : Below w.heap.size w W) => (⟨hT.below hb, hD.below hb⟩ : Tab W ∧ Deb W))
  have haw := awakeT w hD hT
  clear hT hD
  go_enter Tryz.func3, Tryz.ntmps3
  go_wp2_with fail
  refine (haw).mono ?_
  rintro e w1 ⟨rfl, hb1⟩
  have hs1 := Below.sl good_ent hb1 hsl
  clear haw
  go_wp2_with fail
  refine (rlight_any l 12 _ nowhere _ hs1 (by omega)).mono ?_
  rintro e w2 ⟨rfl, hb2⟩
  have hs2 := Below.sl good_ent hb2 hs1
  have q2 := hb1.trans (hb2.mono hb1.size)
  clear hsl hs1 hb1 hb2
  cases hlt : lightE 12 l with
  | false =>
    clear hlt
    go_wp2_with fail
    go_ret
    exact ⟨rfl, q2⟩
  | true =>
    obtain ⟨hLB, hln⟩ := light_lb12 hlt
    clear hlt
    have hwr := twrite_any st l _ nowhere w2 hs2 hLB hln (HT.out w2 q2).2 (HT.out w2 q2).1
    have HRW := Lib.hid (fun (W : World) (h : Sl 10 Rent nowhere W (.slice A l.length cap) l) => rtwrite_any st l _ nowhere W h hLB hln)
    obtain ⟨ce, HCE⟩ : ∃ c, Hid (tarErr st l = c) := ⟨_, Lib.hid rfl⟩
    obtain ⟨RR, HRR⟩ : ∃ R, Hid (tarOut st l = R) := ⟨_, Lib.hid rfl⟩
    rw [HCE.out, HRR.out] at hwr
    clear HT hln hLB
    go_wp2_with (first
      | (go_at_call 9; refine hwr.mono ?_; clear hwr; rintro e W4 ⟨v4, rfl, hr4⟩; have hb4 : Below w2.heap.size w2 W4 := hr4.bel (fun _ h => by cases h); have hsl4 := hr4.sl8; clear hr4; have hs4 := Below.sl good_ent hb4 hs2; have hrw := HRW.out W4 hs4; rw [HCE.out, HRR.out] at hrw)
      | (go_at_call 10; refine hrw.mono ?_; clear hrw; rintro e W5 ⟨v5, rfl, hb5, hsl5⟩; obtain ⟨A4, k4, rfl, _, _⟩ := hsl4.form; obtain ⟨A5, k5, rfl, _, _⟩ := hsl5.form; have hst4 := str8 (Below.sl good_byte hb5 hsl4).sb8; have hst5 := str8 hsl5.sb8))
    go_ret
    exact ⟨by simp, (q2.trans (hb4.mono q2.size)).trans (hb5.mono (q2.trans (hb4.mono q2.size)).size)⟩
end Go.Proofs.YtpheifdpjcppdaaGreatDoor

/- The walk of vmap's Translate. -/
import Derived.Test.YtdfpdmddiapnmaaDoorVmF
namespace Go.Proofs.YtdfpdmddiapnmaaDoor
open Go.RowKit
set_option maxRecDepth 100000 in
set_option maxHeartbeats 8000000 in
theorem vtrans_any (a b : Int) (s : List UInt8) (w : World) (hl : s.length ≤ 2000) (hw : Words w) (ht : Tab w) (hp : Pres w) :
    Calls Tryd.prog 8 #[.int .i64 a, .int .i64 b, .string (bs s)] w fun e w' => e = .returned (.tuple #[.string (bs (trC a b s).1), .int .i64 (trC a b s).2]) ∧ Below w.heap.size w w' := by
  have HP : Hid (trC a b s = if fmtOk a = true ∧ fmtOk b = true then (if (paC a s).2 = 0 then prC b (paC a s).1 else ([], (paC a s).2)) else ([], 9)) := Lib.hid rfl
  go_enter Tryd.func8, Tryd.ntmps8
  go_wp2_with fail
  refine (none_any a _).mono ?_
  rintro e wq ⟨rfl, rfl⟩
  cases ha : fmtOk a with
  | false =>
    have HV : Hid (trC a b s = ([], 9)) := Lib.hid (by rw [HP.out, if_neg (by rw [ha]; simp)])
    go_wp2_with fail
    go_ret2
    exact ⟨by rw [HV.out]; rfl, Below.refl _ _⟩
  | true =>
    go_wp2_with fail
    refine (none_any b _).mono ?_
    rintro e wq ⟨rfl, rfl⟩
    cases hb : fmtOk b with
    | false =>
      have HV : Hid (trC a b s = ([], 9)) := Lib.hid (by rw [HP.out, if_neg (by rw [hb]; simp)])
      go_wp2_with fail
      go_ret2
      exact ⟨by rw [HV.out]; rfl, Below.refl _ _⟩
    | true =>
      have HP2 : Hid (trC a b s = if (paC a s).2 = 0 then prC b (paC a s).1 else ([], (paC a s).2)) := Lib.hid (by rw [HP.out, if_pos ⟨ha, hb⟩])
      have HZ : Hid (CoZ (paC a s).1) := Lib.hid (paC_z a s)
      clear HP ha hb
      obtain ⟨⟨c, y⟩, Hp⟩ : ∃ p, Hid (paC a s = p) := ⟨_, Lib.hid rfl⟩
      have hpa := vparse_any a s w hl hw ht hp
      rw [Hp.out] at hpa HP2 HZ
      go_wp2_with fail
      refine hpa.mono ?_
      rintro e w1 ⟨nv, rfl, hsl, hb1⟩
      obtain ⟨A, cap, rfl, hc1, hc2⟩ := hsl.form
      unfold maxLen at hc2
      unfold coV
      obtain ⟨t0, hb0, hz0⟩ := chk0_cb w1 c (.slice A c.nums.length cap)
      have hlt0 : w1.heap.size < (chk0 w1 c (.slice A c.nums.length cap)).heap.size := by omega
      clear hz0
      by_cases hy : y = 0
      · subst hy
        have HP3 : Hid (trC a b s = prC b c) := Lib.hid (by rw [HP2.out, if_pos rfl])
        clear HP2
        go_upto_region 4 with fail
        have hW : chk0 w1 c (.slice A c.nums.length cap) = w1.alloc (.cells #[.int .i64 c.epoch, .slice A c.nums.length cap, .string (bs c.letter), .string (bs c.pre), .int .i64 c.preNum, .int .i64 c.rev] 30) := rfl
        rw [← hW]
        clear hW
        generalize chk0 w1 c (.slice A c.nums.length cap) = w2 at t0 hb0 hlt0 ⊢
        obtain ⟨d0, d1, d2, d3, d4, d5⟩ := t0.cells
        have hb02 := hb1.trans (hb0.mono (by have := hb1.size; omega))
        go_wp2_with fail
        refine (vprint_any b c _ _ _ (Below.sl good_int hb0 hsl) HZ.out (ht.below hb02) (hp.below hb02)).mono ?_
        rintro e w3 ⟨rfl, hb3⟩
        go_wp2_with fail
        go_ret2
        exact ⟨by rw [HP3.out]; rfl, hb02.trans (hb3.mono (by have := hb02.size; omega))⟩
      · have HV : Hid (trC a b s = ([], y)) := Lib.hid (by rw [HP2.out, if_neg hy])
        have b1 : (y != 0) = true := by simpa using hy
        clear hy
        go_wp2_with fail
        go_ret2
        exact ⟨by rw [HV.out]; rfl, hb1.trans (hb0.mono (by have := hb1.size; omega))⟩
end Go.Proofs.YtdfpdmddiapnmaaDoor

/- The walks of slices.EqualFunc at entries and of entry.Same. -/
import Derived.Test.YtjhikglgaoncjaaDoorEoL
namespace Go.Proofs.YtjhikglgaoncjaaDoor
open Go.RowKit
set_option maxRecDepth 20000 in
set_option maxHeartbeats 16000000 in
theorem eqf_any (a b : List En) (v u : Value) (X Y : Nat → Prop) (w : World) (ha : Sl 10 Rent X w v a) (hb : Sl 10 Rent Y w u b) (hla : a.length ≤ 1000000) :
    Calls Tryd.prog 43 #[v, u, .func (.func 44) #[] #[]] w fun e w' => e = .returned (.bool (sameL a b)) ∧ Below w.heap.size w w' := by
  obtain ⟨A, capa, rfl, _, _⟩ := ha.form
  obtain ⟨A2, capb, rfl, _, _⟩ := hb.form
  have HX : Hid (sameL a b = if a.length = b.length then sameFrom a b else false) := Lib.hid rfl
  generalize sameL a b = res at HX
  by_cases hl : a.length = b.length
  rotate_left
  · have hd : ((a.length : Int) == (b.length : Int)) = false := by rw [beq_eq_false_iff_ne]; omega
    have hd' : ((a.length : Int) != (b.length : Int)) = true := by simp; omega
    have HV := Lib.hid (HX.out.trans (if_neg hl))
    clear hl HX
    go_enter Tryd.func43, Tryd.ntmps43
    go_wp2_with fail
    go_ret
    exact ⟨by rw [HV.out]; rfl, Below.refl _ _⟩
  have HE : Hid (res = sameFrom (a.drop 0) (b.drop 0)) := Lib.hid (HX.out.trans (if_pos hl))
  obtain ⟨N, hN⟩ : ∃ N, b.length = N := ⟨_, rfl⟩
  rw [hN] at hl hb ⊢
  rw [hl]
  have HN := Lib.hid hN
  have HL := Lib.hid hl
  have hlN : N ≤ 1000000 := by omega
  rw [hl] at ha
  clear HX hl hN hla
  have hd : ((N : Int) == (N : Int)) = true := by simp
  have hd' : ((N : Int) != (N : Int)) = false := by simp
  go_enter Tryd.func43, Tryd.ntmps43
  go_wp2_with fail
  go_loopg [17] N (fun G s17 wr => ∃ k : Nat, k ≤ N ∧ G = N - k ∧ s17 = .int .i64 k ∧ Below w.heap.size w wr ∧ Hid (res = sameFrom (a.drop k) (b.drop k)))
  case atStart => exact ⟨0, Nat.zero_le _, rfl, rfl, Below.refl _ _, HE⟩
  case round =>
    clear HE hd hd'
    obtain ⟨k, hk, rfl, rfl, hbw, HE⟩ := hrel
    by_cases hlt : k < N
    rotate_left
    · have HV : Hid (res = true) := Lib.hid (HE.out.trans (same_end a b k (by rw [HL.out]; omega)))
      clear HE
      go_wp2_with fail
      go_ret
      exact ⟨by rw [HV.out]; rfl, hbw⟩
    obtain ⟨b1, o1, rfl, _, hca⟩ := (ha.keep good_ent (Kept.of_below hbw X)).ent (by omega)
    obtain ⟨b2, o2, rfl, _, hcb⟩ := (hb.keep good_ent (Kept.of_below hbw Y)).ent (by omega)
    obtain ⟨dx, hax, hdx⟩ := hca k (by rw [HL.out]; exact hlt)
    obtain ⟨dy, hay, hdy⟩ := hcb k (by rw [HN.out]; exact hlt)
    have HST := Lib.hid (HE.out.trans (same_step a b k (by rw [HL.out]; exact hlt) (by rw [HN.out]; exact hlt)))
    clear HE hca hcb
    obtain ⟨x, hx⟩ : ∃ x, a[k]'(by rw [HL.out]; exact hlt) = x := ⟨_, rfl⟩
    obtain ⟨y, hy⟩ : ∃ y, b[k]'(by rw [HN.out]; exact hlt) = y := ⟨_, rfl⟩
    rw [hx] at hax hdx HST
    rw [hy] at hay hdy HST
    clear hx hy
    obtain ⟨Ax, cx, rfl, _, _⟩ := hdx.form
    obtain ⟨Ay, cy, rfl, _, _⟩ := hdy.form
    obtain ⟨x0, x1, x2, x3, x4, x5, x6, x7, x8, x9⟩ := hax
    have i1 : (0 : Int) ≤ (k : Int) := by omega
    have i2 : (k : Int) < (N : Int) := by omega
    go_upto_region 6 with fail
    have ha1 : Below wr.heap.size wr (wr.alloc (.cells #[.string (bs x.path), .int .i64 x.kind, .int .i64 x.mode, .int .i64 x.uid, .int .i64 x.gid, .string (bs x.owner), .string (bs x.group), .int .i64 x.mtime, .string (bs x.link), .slice Ax x.data.length cx] tE)) := (Below.refl _ _).alloc (Nat.le_refl _) _
    have bX := Blk.new wr tE #[.string (bs x.path), .int .i64 x.kind, .int .i64 x.mode, .int .i64 x.uid, .int .i64 x.gid, .string (bs x.owner), .string (bs x.group), .int .i64 x.mtime, .string (bs x.link), .slice Ax x.data.length cx]
    have hay := hay.below ha1
    have hdx := Below.sl good_byte ha1 hdx
    have hdy := Below.sl good_byte ha1 hdy
    have q1 := below_trans hbw ha1
    clear ha1 x0 x1 x2 x3 x4 x5 x6 x7 x8 x9
    generalize wr.alloc (.cells #[.string (bs x.path), .int .i64 x.kind, .int .i64 x.mode, .int .i64 x.uid, .int .i64 x.gid, .string (bs x.owner), .string (bs x.group), .int .i64 x.mtime, .string (bs x.link), .slice Ax x.data.length cx] tE) = W1 at bX hay hdx hdy q1 ⊢
    generalize wr.heap.size = g1 at bX ⊢
    obtain ⟨y0, y1, y2, y3, y4, y5, y6, y7, y8, y9⟩ := hay
    go_upto_region 7 with fail
    have ha2 : Below W1.heap.size W1 (W1.alloc (.cells #[.string (bs y.path), .int .i64 y.kind, .int .i64 y.mode, .int .i64 y.uid, .int .i64 y.gid, .string (bs y.owner), .string (bs y.group), .int .i64 y.mtime, .string (bs y.link), .slice Ay y.data.length cy] tE)) := (Below.refl _ _).alloc (Nat.le_refl _) _
    have bY := Blk.new W1 tE #[.string (bs y.path), .int .i64 y.kind, .int .i64 y.mode, .int .i64 y.uid, .int .i64 y.gid, .string (bs y.owner), .string (bs y.group), .int .i64 y.mtime, .string (bs y.link), .slice Ay y.data.length cy]
    have bX := bX.below ha2 bX.lt
    have hdx := Below.sl good_byte ha2 hdx
    have hdy := Below.sl good_byte ha2 hdy
    have q2 := below_trans q1 ha2
    clear ha2 q1 y0 y1 y2 y3 y4 y5 y6 y7 y8 y9
    generalize W1.alloc (.cells #[.string (bs y.path), .int .i64 y.kind, .int .i64 y.mode, .int .i64 y.uid, .int .i64 y.gid, .string (bs y.owner), .string (bs y.group), .int .i64 y.mtime, .string (bs y.link), .slice Ay y.data.length cy] tE) = W2 at bX bY hdx hdy q2 ⊢
    generalize W1.heap.size = g2 at bY ⊢
    have a0 := bX.cell 0
    have b0 := bY.cell 0
    have a1 := bX.cell 1
    have b1_ := bY.cell 1
    have a2 := bX.cell 2
    have b2_ := bY.cell 2
    have a3 := bX.cell 3
    have b3 := bY.cell 3
    have a4 := bX.cell 4
    have b4 := bY.cell 4
    have a5 := bX.cell 5
    have b5 := bY.cell 5
    have a6 := bX.cell 6
    have b6 := bY.cell 6
    have a7 := bX.cell 7
    have b7 := bY.cell 7
    have a8 := bX.cell 8
    have b8 := bY.cell 8
    have a9 := bX.cell 9
    have b9 := bY.cell 9
    simp at a0 a1 a2 a3 a4 a5 a6 a7 a8 a9 b0 b1_ b2_ b3 b4 b5 b6 b7 b8 b9
    go_wp2_with fail
    refine (psame1_any x y _ _ _ _ _ hdx hdy).mono ?_
    rintro r W3 ⟨rfl, hb3⟩
    have q3 := below_trans q2 hb3
    clear bX bY hb3 hdx hdy a0 a1 a2 a3 a4 a5 a6 a7 a8 a9 b0 b1_ b2_ b3 b4 b5 b6 b7 b8 b9
    cases hse : sameE x y with
    | false =>
      have HV : Hid (res = false) := Lib.hid (by rw [HST.out, hse]; rfl)
      clear HST hse
      go_wp2_with fail
      go_ret
      exact ⟨by rw [HV.out]; rfl, q3⟩
    | true =>
      have HV : Hid (res = sameFrom (a.drop (k + 1)) (b.drop (k + 1))) := Lib.hid (by rw [HST.out, hse]; rfl)
      clear HST hse
      go_wp2_with fail
      go_roundg (N - (k + 1))
      case measure => omega
      case rel => exact ⟨k + 1, by omega, rfl, by simp, q3, HV⟩
theorem psame_any (a b : List En) (v u : Value) (X Y : Nat → Prop) (w : World) (ha : Sl 10 Rent X w v a) (hb : Sl 10 Rent Y w u b) (hla : a.length ≤ 1000000) :
    Calls Tryd.prog 24 #[v, u] w fun e w' => e = .returned (.bool (sameL a b)) ∧ Below w.heap.size w w' := by
  obtain ⟨A, capa, rfl, _, _⟩ := ha.form
  obtain ⟨A2, capb, rfl, _, _⟩ := hb.form
  go_enter Tryd.func24, Tryd.ntmps24
  go_wp2_with fail
  refine (eqf_any a b _ _ _ _ _ ha hb hla).mono ?_
  rintro r w1 ⟨rfl, hb1⟩
  go_wp2_with fail
  go_ret
  exact ⟨rfl, hb1⟩
end Go.Proofs.YtjhikglgaoncjaaDoor

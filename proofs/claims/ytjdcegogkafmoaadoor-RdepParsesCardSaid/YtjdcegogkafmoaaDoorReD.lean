/- The walks of rdep.Print and of what the document tells ahead of each law. -/
import Derived.Test.YtjdcegogkafmoaaDoorReC
namespace Go.Proofs.YtjdcegogkafmoaaDoor
open Go.RowKit
theorem sg_len (n : Nat) : (signsR.getD n []).length ≤ 2 := by
  unfold signsR
  match n with
  | 0 | 1 | 2 | 3 | 4 | 5 => decide
  | n + 6 => simp
mutual
theorem txt_len : ∀ (d : Rdp), txR d → (txtR d).length + 5000 ≤ 20000 * szR d
  | .mk op name aop ver kids, h => by
    rw [txR] at h
    obtain ⟨⟨h1, h2, h3⟩, h4⟩ := h
    rw [szR]
    cases op with
    | nil =>
      rw [txtR_at _ rfl]
      have := sg_len aop.toNat
      by_cases haz : (Rdp.mk [] name aop ver kids).aop = 0
      · rw [if_pos haz]
        show name.length + 5000 ≤ _
        omega
      · rw [if_neg haz]
        show (name ++ [32] ++ signsR.getD aop.toNat [] ++ [32] ++ ver).length + 5000 ≤ _
        simp only [List.length_append, List.length_cons, List.length_nil]
        omega
    | cons c t =>
      rw [txtR_in _ (by simp [Rdp.op])]
      simp only [Rdp.op, Rdp.kids, List.length_append, List.length_cons, List.length_nil]
      have := txts_len kids h4 (c :: t) h1 0
      omega
theorem txts_len : ∀ (l : List Rdp), txRs l → ∀ (op : List UInt8), op.length ≤ 4000 → ∀ i, (txtRs op i l).length ≤ 20000 * szRs l
  | [], _, op, _, i => by simp [txtRs]
  | d :: l, h, op, ho, i => by
    rw [txRs] at h
    have h1 := txt_len d h.1
    have h2 := txts_len l h.2 op ho (i + 1)
    have h3 : (sepR op i).length ≤ 4006 := by
      unfold sepR
      split
      · simp
      · split
        · simp [elseL]
        · simp; omega
    rw [txtRs, szRs]
    simp only [List.length_append]
    omega
end
set_option maxRecDepth 20000 in
set_option maxHeartbeats 16000000 in
theorem print_any (d : Rdp) (kv : Value) (X : Nat → Prop) (m : Nat) (w : World) (hs : Sk 5 (Rr m) X w kv d.kids) (hm : m ≤ 1000) (hsz : szR d ≤ 100000) (hT : TT w) (htx : txR d) :
    Calls Tryd.prog 10 #[richV d kv] w fun e w' => e = .returned (.tuple #[.string (bs (if chkA d = 0 then txtR d else [])), .int .i64 (chkA d)]) ∧ Below w.heap.size w w' := by
  obtain ⟨A, cap, rfl, hc1, hc2⟩ := hs.form
  have hln := txt_len d htx
  have hca := fun W (h : Below w.heap.size w W) => checkA_any d _ X m W (Below.sk (good_rich m) h hs) hm (by omega) (hT.below h) htx
  have HCZ := Lib.hid (fun (h : chkA d = 0) => show chkR d = 0 by
    unfold chkA at h
    split at h
    · exact absurd h (by decide)
    split at h
    · exact absurd h (by decide)
    exact h)
  simp only [richV, richC] at hca ⊢
  generalize hcc : chkA d = c at hca HCZ ⊢
  clear hcc
  obtain ⟨T, HT⟩ : ∃ T, Hid (T = if c = 0 then txtR d else []) := ⟨_, Lib.hid rfl⟩
  rw [← HT.out]
  go_enter Tryd.func10, Tryd.ntmps10
  go_upto_region 1 with fail
  have bk := Blk.new w 27 #[.string (bs d.op), .string (bs d.name), .int .i64 d.aop, .string (bs d.ver), .slice A d.kids.length cap]
  have hb1 := (Below.refl w.heap.size w).alloc (Nat.le_refl _) (.cells #[.string (bs d.op), .string (bs d.name), .int .i64 d.aop, .string (bs d.ver), .slice A d.kids.length cap] 27)
  generalize w.alloc (.cells #[.string (bs d.op), .string (bs d.name), .int .i64 d.aop, .string (bs d.ver), .slice A d.kids.length cap] 27) = W1 at bk hb1 ⊢
  generalize w.heap.size = gk at bk ⊢
  obtain ⟨k0, k1, k2, k3, k4⟩ := outs5 bk
  have hca := hca W1 hb1
  go_upto_region 2 with (go_at_call 11; refine hca.mono ?_; clear hca k0 k1 k2 k3 k4; rintro rr W2 ⟨rfl, hb2⟩)
  have bk2 := bk.below hb2 bk.lt
  have hbw := hb1.trans (hb2.mono hb1.size)
  obtain ⟨k0, k1, k2, k3, k4⟩ := outs5 bk2
  by_cases hz : c = 0
  · have q : (c == 0) = true := by simpa using hz
    have hx := text_all m d _ X W2 (Below.sk (good_rich m) hbw hs) (hT.below hbw) (HCZ.out hz) (by omega)
    simp only [richV, richC] at hx
    rw [← show T = txtR d by rw [HT.out, if_pos hz]] at hx
    clear HCZ HT
    subst hz
    go_wp2_with (go_at_call 20; refine hx.mono ?_; clear hx k0 k1 k2 k3 k4; rintro rr W3 ⟨rfl, hb3⟩)
    go_ret2
    exact ⟨rfl, hbw.trans (hb3.mono hbw.size)⟩
  · have q : (c == 0) = false := by simpa using hz
    have hTn : T = [] := by rw [HT.out, if_neg hz]
    subst hTn
    clear HCZ hz HT
    go_wp2_with fail
    go_ret2
    exact ⟨rfl, hbw⟩
theorem tx0 : txR d0A := by simp [txR, txRs, d0A]
theorem awR_list : (bs t0A).toList = [40, 97, 32, 62, 61, 32, 49, 45, 49, 32, 111, 114, 32, 40, 98, 32, 97, 110, 100, 32, 99, 41, 41] := by decide +kernel
set_option maxRecDepth 20000 in
set_option maxHeartbeats 16000000 in
theorem awakeRd (w : World) (hT : TT w) : Calls Tryd.prog 5 #[] w fun e w' => e = .returned (.bool true) ∧ Below w.heap.size w w' := by
  obtain ⟨ts0, n0, hp0⟩ := parse0
  go_enter Tryd.func5, Tryd.ntmps5
  go_wp2_with fail
  refine (rparse_any s0A _ (by decide) hT).mono ?_
  unfold ParseR
  rw [hp0]
  rintro e w1 ⟨⟨kv, rfl, hkv⟩, hb1⟩
  obtain ⟨A, cap, rfl, _, _⟩ := hkv.form
  simp only [richV, richC]
  obtain ⟨W1, gK, gE, hW1, hgK, hgE, bK, bE, hb2, _, _⟩ := two_alloc w1 #[.string (bs d0A.op), .string (bs d0A.name), .int .i64 d0A.aop, .string (bs d0A.ver), .slice A d0A.kids.length cap] #[.string ⟨#[]⟩, .int .i64 0, .int .i64 0]
  have q1 := hb1.trans (hb2.mono hb1.size)
  have T1 := hT.below q1
  have hk1 := Below.sk (good_rich 40) hb2 hkv
  obtain ⟨k0, k1, k2, k3, k4⟩ := outs5 bK
  go_upto_region 2 with fail
  rw [← hW1, ← hgE, ← hgK]
  clear hW1 hgE hgK hb1 hb2 hkv
  have hpr := print_any d0A _ _ 40 W1 hk1 (by decide) (by decide) T1 tx0
  simp only [richV, richC] at hpr
  rw [chk0, if_pos rfl, txt0] at hpr
  go_upto_region 3 with (go_at_call 10; refine hpr.mono ?_; clear hpr k0 k1 k2 k3 k4; rintro rr W2 ⟨rfl, hb2⟩)
  have T2 := T1.below hb2
  have bK2 := bK.below hb2 bK.lt
  have bE2 := bE.below hb2 bE.lt
  have q2 := q1.trans (hb2.mono q1.size)
  have hk2 := Below.sk (good_rich 40) hb2 hk1
  go_wp2_with fail
  refine (rparse_any s1A _ (by decide) T2).mono ?_
  unfold ParseR
  rw [parse1]
  rintro e w3 ⟨⟨_, rfl⟩, hb3⟩
  obtain ⟨W3, gK3, gE3, hW3, hgK3, hgE3, bK3, bE3, hb4, _, _⟩ := two_alloc w3 #[.string ⟨#[]⟩, .string ⟨#[]⟩, .int .i64 0, .string ⟨#[]⟩, .slice none 0 0] #[.string ⟨#[]⟩, .int .i64 9, .int .i64 3]
  have hb5 := hb3.trans (hb4.mono hb3.size)
  have q3 := q2.trans (hb5.mono q2.size)
  have bK4 := bK2.below hb5 bK2.lt
  have bE4 := bE2.below hb5 bE2.lt
  have hk3 := Below.sk (good_rich 40) hb5 hk2
  go_upto_region 4 with fail
  rw [← hW3, ← hgE3, ← hgK3]
  clear hW3 hgE3 hgK3 hb3 hb4 hb5 bK2 bE2 hk2 hk1 bK bE hb2
  obtain ⟨k0, k1, k2, k3, k4⟩ := outs5 bK4
  have x0 := bE4.cell 0
  have x1 := bE4.cell 1
  have x2 := bE4.cell 2
  have y0 := bE3.cell 0
  have y1 := bE3.cell 1
  have y2 := bE3.cell 2
  simp at x0 x1 x2 y0 y1 y2
  have hdp := depth_any d0A _ _ 40 W3 hk3 (by decide) (by decide)
  simp only [richV, richC] at hdp
  rw [dep0] at hdp
  have hnm := fun W => name_any [112, 101, 114, 108, 40, 88, 41] W (by decide)
  have hnm : ∀ W, Calls Tryd.prog 13 #[.string ⟨#[112, 101, 114, 108, 40, 88, 41]⟩] W fun e w' => e = .returned (.bool true) ∧ W = w' := fun W => by
    have := hnm W
    rw [nm0] at this
    exact this
  have eT := awR_list
  go_wp2_with (first
    | (go_at_call 12; refine hdp.mono ?_; clear hdp; rintro rr W5 ⟨rfl, hb6⟩; have bF := bE3.below hb6 bE3.lt; have y0 := bF.cell 0; have y1 := bF.cell 1; have y2 := bF.cell 2; simp at y0 y1 y2)
    | (go_at_call 13; refine (hnm _).mono ?_; rintro rr Ww ⟨rfl, rfl⟩))
  go_ret
  exact ⟨rfl, q3.trans (hb6.mono q3.size)⟩
end Go.Proofs.YtjdcegogkafmoaaDoor

/- The walk of rdep's reader.dependency, over group's contract. Printed by gen_rdh.py. -/
import Derived.Test.YtjdcegogkafmoaaDoorRdG
namespace Go.Proofs.YtjdcegogkafmoaaDoor
open Go.RowKit
theorem outs2 {W : World} {gA gF : Nat} (bA : Blk W gA 27 #[.string ⟨#[]⟩, .string ⟨#[]⟩, .int .i64 0, .string ⟨#[]⟩, .slice none 0 0]) (bF : Blk W gF 30 #[.string ⟨#[]⟩, .int .i64 0, .int .i64 0]) :
    W.cell? ⟨gA, 0, none⟩ = some (.string ⟨#[]⟩) ∧ W.cell? ⟨gA, 1, none⟩ = some (.string ⟨#[]⟩) ∧ W.cell? ⟨gA, 2, none⟩ = some (.int .i64 0) ∧ W.cell? ⟨gA, 3, none⟩ = some (.string ⟨#[]⟩) ∧ W.cell? ⟨gA, 4, none⟩ = some (.slice none 0 0) ∧
      W.cell? ⟨gF, 0, none⟩ = some (.string ⟨#[]⟩) ∧ W.cell? ⟨gF, 1, none⟩ = some (.int .i64 0) ∧ W.cell? ⟨gF, 2, none⟩ = some (.int .i64 0) ∧ (∀ i, W.frozen? ⟨gA, i, none⟩ = false) ∧ (∀ i, W.frozen? ⟨gF, i, none⟩ = false) := by
  have a0 := bA.cell 0
  have a1 := bA.cell 1
  have a2 := bA.cell 2
  have a3 := bA.cell 3
  have a4 := bA.cell 4
  have f0 := bF.cell 0
  have f1 := bF.cell 1
  have f2 := bF.cell 2
  simp at a0 a1 a2 a3 a4 f0 f1 f2
  exact ⟨a0, a1, a2, a3, a4, f0, f1, f2, fun i => bA.frozen i, fun i => bF.frozen i⟩
def DepK (B k : Nat) : Prop := ∀ (ts : List Tk) (n ar gr : Nat) (W : World), RS B W gr ts n → WfT ts → (∀ t ∈ ts, t.1.length ≤ 1000000) → n ≤ 64 → ar ≤ 32 → TT W → 4 ≤ gr → B ≤ W.heap.size → ts.length ≤ 1000000 → 2 * ts.length + 1 ≤ k →
  Calls Tryd.prog 15 #[.pointer (some ⟨gr, 0, none⟩), .int .i64 (ar : Int)] W (DepR B W gr (40 - ar) ts.length (depP k ts n ar))
def GrpK (B k : Nat) : Prop := ∀ (ts : List Tk) (n a gr : Nat) (W : World), RS B W gr ts n → WfT ts → (∀ t ∈ ts, t.1.length ≤ 1000000) → n ≤ 64 → 1 ≤ a → a ≤ 32 → TT W → 4 ≤ gr → B ≤ W.heap.size → ts.length ≤ 1000000 → 2 * ts.length + 2 ≤ k →
  Calls Tryd.prog 28 #[.pointer (some ⟨gr, 0, none⟩), .int .i64 (a : Int)] W (DepR B W gr (41 - a) (ts.length + 1) (groupP k [] [] ts n a))
set_option maxRecDepth 20000 in
set_option maxHeartbeats 16000000 in
theorem dependency_any (B k : Nat) (HG : GrpK B k) : DepK B (k + 1) := by
  intro ts n ar gr W h hwf hbd hn har hT hgr hB hln hfu
  obtain ⟨p, r, rfl⟩ := hwf.ne
  have HP : Hid (depP (k + 1) (p :: r) n ar = if p.1 = [] ∨ p.1 = [41] then .err p.2 3 else if p.1 = [40] then (if ar = 32 then .err p.2 4 else groupP k [] [] r n (ar + 1)) else atomP (p :: r) n) := Lib.hid rfl
  have hlp : p.1.length ≤ 1000000 := hbd p (by simp)
  have HBD := Lib.hid hbd
  have HBD2 := Lib.hid fun t ht => hbd t (List.mem_cons_of_mem _ ht)
  have HGK := Lib.hid HG
  have HFU := Lib.hid hfu
  have HLN := Lib.hid hln
  clear hbd HG hfu hln
  have hgW := h.lt
  obtain ⟨R, HR⟩ : ∃ R, Hid (depP (k + 1) (p :: r) n ar = R) := ⟨_, Lib.hid rfl⟩
  rw [HR.out] at HP ⊢
  obtain ⟨W1, gA, gF, hW1, hgA, hgF, bA, bF, hb1, hA, hF⟩ := init2 W
  go_enter Tryd.func15, Tryd.ntmps15
  go_upto_region 1 with fail
  rw [← hW1, ← hgF, ← hgA]
  clear hW1 hgA hgF
  have h1 := h.below hb1
  obtain ⟨b, off, c, z0, z1, t0, t1, _⟩ := h1.first
  go_upto_region 2 with fail
  have hq : Below W1.heap.size W1 (W1.alloc (.cells #[.string (bs p.1), .int .i64 (p.2 : Int)] 48)) := (Below.refl _ _).alloc (Nat.le_refl _) _
  have at0 : AT B W gr gA gF W1.heap.size p (p :: r) n (W1.alloc (.cells #[.string (bs p.1), .int .i64 (p.2 : Int)] 48)) :=
    ⟨(Kept.of_below hb1 _).trans (Kept.of_below hq _), h1.below hq, bA.below hq bA.lt, bF.below hq bF.lt, Blk.new W1 _ _, hA, hF, hb1.size, hB⟩
  have hAF : gA ≠ gF := blkNe bA bF (by decide)
  have hFA : gF ≠ gA := fun e => hAF e.symm
  clear hq h1 z0 z1 t0 t1 bA bF hb1
  generalize W1.alloc (.cells #[.string (bs p.1), .int .i64 (p.2 : Int)] 48) = W2 at at0 ⊢
  generalize W1.heap.size = gp at at0 ⊢
  obtain ⟨b, off, c, z0, z1, t0, t1, zf⟩ := at0.rs.first
  obtain ⟨y0, y1⟩ := at0.tok
  have hsp := bs_size p.1
  have q1 := eqS p.1 []
  have q1b : (bs p.1).toList.isEmpty = decide (p.1 = []) := by rw [toList_bs, Bool.eq_iff_iff]; simp
  have q2 := eqS p.1 [40]
  have q3 := eqS p.1 [41]
  by_cases hp0 : p.1 = []
  · have HV : Hid (R = .err p.2 3) := Lib.hid (by rw [HP.out, if_pos (.inl hp0)])
    rw [decide_eq_true hp0] at q1 q1b
    clear HP hp0
    go_wp2_with (go_at_call 16; refine (fault_any p.1 p.2 (3) _).mono ?_; rintro rr W8 ⟨rfl, hb8⟩; have at8 := at0.below hb8; obtain ⟨e0, e1, e2, e3, e4, f0, f1, f2, eA, eF⟩ := at8.outs; have eA0 := eA 0; have eA1 := eA 1; have eA2 := eA 2; have eA3 := eA 3; have eA4 := eA 4; have eF0 := eF 0; have eF1 := eF 1; have eF2 := eF 2)

    obtain ⟨W9, hW9, c1, c2, k9⟩ := ret_mem at8.bA at8.bF (.string ⟨#[]⟩) (.string ⟨#[]⟩) (.int .i64 0) (.string ⟨#[]⟩) (.slice none 0 0) (.string ⟨#[]⟩) (.int .i64 (p.2 : Int)) (.int .i64 (3))
    rw [← hW9]
    have hk9 : Kept (fun k => k = gr) W W9 := (at8.kept).cutR k9 fun i hi => .inr (hi.elim (fun e => by rw [e]; exact hA) (fun e => by rw [e]; exact hF))
    have k0 := c1.cell 0
    have k1 := c1.cell 1
    have k2 := c1.cell 2
    have k3 := c1.cell 3
    have k4 := c1.cell 4
    have m0 := c2.cell 0
    have m1 := c2.cell 1
    have m2 := c2.cell 2
    simp at k0 k1 k2 k3 k4 m0 m1 m2
    refine bodyPost_ret (v := .tuple #[.agg #[.string ⟨#[]⟩, .string ⟨#[]⟩, .int .i64 0, .string ⟨#[]⟩, .slice none 0 0], .agg #[.string ⟨#[]⟩, .int .i64 (p.2 : Int), .int .i64 (3)]]) (by simp [results, Tryd.results15, go_sem, k0, k1, k2, k3, k4, m0, m1, m2]) rfl ?_

    rw [HV.out]
    exact And.intro hk9 (And.intro (by decide) rfl)
  rw [decide_eq_false hp0] at q1 q1b
  by_cases hp1 : p.1 = [41]
  · have HV : Hid (R = .err p.2 3) := Lib.hid (by rw [HP.out, if_pos (.inr hp1)])
    rw [decide_eq_true hp1] at q3
    have HP0 := Lib.hid hp0
    clear HP hp0 hp1
    go_wp2_with (go_at_call 16; refine (fault_any p.1 p.2 (3) _).mono ?_; rintro rr W8 ⟨rfl, hb8⟩; have at8 := at0.below hb8; obtain ⟨e0, e1, e2, e3, e4, f0, f1, f2, eA, eF⟩ := at8.outs; have eA0 := eA 0; have eA1 := eA 1; have eA2 := eA 2; have eA3 := eA 3; have eA4 := eA 4; have eF0 := eF 0; have eF1 := eF 1; have eF2 := eF 2)

    obtain ⟨W9, hW9, c1, c2, k9⟩ := ret_mem at8.bA at8.bF (.string ⟨#[]⟩) (.string ⟨#[]⟩) (.int .i64 0) (.string ⟨#[]⟩) (.slice none 0 0) (.string ⟨#[]⟩) (.int .i64 (p.2 : Int)) (.int .i64 (3))
    rw [← hW9]
    have hk9 : Kept (fun k => k = gr) W W9 := (at8.kept).cutR k9 fun i hi => .inr (hi.elim (fun e => by rw [e]; exact hA) (fun e => by rw [e]; exact hF))
    have k0 := c1.cell 0
    have k1 := c1.cell 1
    have k2 := c1.cell 2
    have k3 := c1.cell 3
    have k4 := c1.cell 4
    have m0 := c2.cell 0
    have m1 := c2.cell 1
    have m2 := c2.cell 2
    simp at k0 k1 k2 k3 k4 m0 m1 m2
    refine bodyPost_ret (v := .tuple #[.agg #[.string ⟨#[]⟩, .string ⟨#[]⟩, .int .i64 0, .string ⟨#[]⟩, .slice none 0 0], .agg #[.string ⟨#[]⟩, .int .i64 (p.2 : Int), .int .i64 (3)]]) (by simp [results, Tryd.results15, go_sem, k0, k1, k2, k3, k4, m0, m1, m2]) rfl ?_

    rw [HV.out]
    exact And.intro hk9 (And.intro (by decide) rfl)
  rw [decide_eq_false hp1] at q3
  have HP2 := Lib.hid (HP.out.trans (if_neg (fun h => h.elim hp0 hp1)))
  have hwr := hwf.next hp0
  have HP0 := Lib.hid hp0
  clear HP hp1 hp0
  by_cases hp2 : p.1 = [40]
  · rw [decide_eq_true hp2] at q2
    have HP3 := Lib.hid (HP2.out.trans (if_pos hp2))
    clear HP2 hp2
    by_cases h32 : ar = 32
    · have q32 : ((ar : Int) == 32) = true := by rw [beq_iff_eq]; omega
      have HV : Hid (R = .err p.2 4) := Lib.hid (by rw [HP3.out, if_pos h32])
      clear HP3 h32
      go_wp2_with (go_at_call 16; refine (fault_any p.1 p.2 (4) _).mono ?_; rintro rr W8 ⟨rfl, hb8⟩; have at8 := at0.below hb8; obtain ⟨e0, e1, e2, e3, e4, f0, f1, f2, eA, eF⟩ := at8.outs; have eA0 := eA 0; have eA1 := eA 1; have eA2 := eA 2; have eA3 := eA 3; have eA4 := eA 4; have eF0 := eF 0; have eF1 := eF 1; have eF2 := eF 2)

      obtain ⟨W9, hW9, c1, c2, k9⟩ := ret_mem at8.bA at8.bF (.string ⟨#[]⟩) (.string ⟨#[]⟩) (.int .i64 0) (.string ⟨#[]⟩) (.slice none 0 0) (.string ⟨#[]⟩) (.int .i64 (p.2 : Int)) (.int .i64 (4))
      rw [← hW9]
      have hk9 : Kept (fun k => k = gr) W W9 := (at8.kept).cutR k9 fun i hi => .inr (hi.elim (fun e => by rw [e]; exact hA) (fun e => by rw [e]; exact hF))
      have k0 := c1.cell 0
      have k1 := c1.cell 1
      have k2 := c1.cell 2
      have k3 := c1.cell 3
      have k4 := c1.cell 4
      have m0 := c2.cell 0
      have m1 := c2.cell 1
      have m2 := c2.cell 2
      simp at k0 k1 k2 k3 k4 m0 m1 m2
      refine bodyPost_ret (v := .tuple #[.agg #[.string ⟨#[]⟩, .string ⟨#[]⟩, .int .i64 0, .string ⟨#[]⟩, .slice none 0 0], .agg #[.string ⟨#[]⟩, .int .i64 (p.2 : Int), .int .i64 (4)]]) (by simp [results, Tryd.results15, go_sem, k0, k1, k2, k3, k4, m0, m1, m2]) rfl ?_

      rw [HV.out]
      exact And.intro hk9 (And.intro (by decide) rfl)
    have q32 : ((ar : Int) == 32) = false := by simpa using (show ¬ (ar : Int) = 32 by omega)
    have HV : Hid (R = groupP k [] [] r n (ar + 1)) := Lib.hid (by rw [HP3.out, if_neg h32])
    have har2 : ar + 1 ≤ 32 := by omega
    clear HP3 h32
    have w1 : IntKind.i64.wrap ((ar : Int) + 1) = (ar : Int) + 1 := i64_in _ (by omega) (by omega)
    have hnx := next_any B gr n p r W2 at0.rs
    go_upto_region 10 with (go_at_call 27; refine hnx.mono ?_; clear hnx; rintro rr W4 ⟨rfl, hr4, hk4⟩)
    have at4 := at0.next hr4 hk4 hgW
    have TTW := hT.keep at4.kept (fun i hi e => by omega)
    have hcall0 := HGK.out r n (ar + 1) gr W4 at4.rs hwr HBD2.out hn (by omega) har2 TTW hgr (Nat.le_trans hB at4.kept.size) (by have := HLN.out; simp only [List.length_cons] at this; omega) (by have := HFU.out; simp at this; omega)
    have hcall : Calls Tryd.prog 28 #[.pointer (some ⟨gr, 0, none⟩), .int .i64 ((ar : Int) + 1)] W4 (DepR B W4 gr (40 - ar) (r.length + 1) (groupP k [] [] r n (ar + 1))) := by
      have e1 : 41 - (ar + 1) = 40 - ar := by omega
      rw [e1] at hcall0
      exact hcall0
    clear hcall0 at0 hr4 hk4 z0 z1 t0 t1 zf y0 y1 q1 q1b q2 q3 TTW HGK HFU HBD HBD2
    have hWA : gA < W4.heap.size := at4.bA.lt
    have hWF : gF < W4.heap.size := at4.bF.lt
    have hgA2 : gA ≠ gr := fun e => by omega
    have hgF2 : gF ≠ gr := fun e => by omega
    have hkept := at4.kept
    have bA4 := at4.bA
    have bF4 := at4.bF
    obtain ⟨PRr, HPR⟩ : ∃ x, Hid (groupP k [] [] r n (ar + 1) = x) := ⟨_, Lib.hid rfl⟩
    rw [HPR.out] at hcall HV
    cases PRr with
    | err ea ec =>
      go_wp2_with (go_at_call 28; refine hcall.mono ?_; clear hcall; rintro rr W5 ⟨hk5, hec, rfl⟩; have bA5 := hk5.blk bA4 hgA2; have bF5 := hk5.blk bF4 hgF2; obtain ⟨e0, e1, e2, e3, e4, f0, f1, f2, eA, eF⟩ := outs2 bA5 bF5; have eA0 := eA 0; have eA1 := eA 1; have eA2 := eA 2; have eA3 := eA 3; have eA4 := eA 4; have eF0 := eF 0; have eF1 := eF 1; have eF2 := eF 2)
      obtain ⟨W9, hW9, c1, c2, k9⟩ := ret_mem bA5 bF5 (.string ⟨#[]⟩) (.string ⟨#[]⟩) (.int .i64 0) (.string ⟨#[]⟩) (.slice none 0 0) (.string ⟨#[]⟩) (.int .i64 (ea : Int)) (.int .i64 ec)
      rw [← hW9]
      have hk9 : Kept (fun k => k = gr) W W9 := (hkept.trans hk5).cutR k9 fun i hi => .inr (hi.elim (fun e => by rw [e]; exact hA) (fun e => by rw [e]; exact hF))
      have k0 := c1.cell 0
      have k1 := c1.cell 1
      have k2 := c1.cell 2
      have k3 := c1.cell 3
      have k4 := c1.cell 4
      have m0 := c2.cell 0
      have m1 := c2.cell 1
      have m2 := c2.cell 2
      simp at k0 k1 k2 k3 k4 m0 m1 m2
      refine bodyPost_ret (v := .tuple #[.agg #[.string ⟨#[]⟩, .string ⟨#[]⟩, .int .i64 0, .string ⟨#[]⟩, .slice none 0 0], .agg #[.string ⟨#[]⟩, .int .i64 (ea : Int), .int .i64 ec]]) (by simp [results, Tryd.results15, go_sem, k0, k1, k2, k3, k4, m0, m1, m2]) rfl ?_

      rw [HV.out]
      exact And.intro hk9 (And.intro hec rfl)
    | ok dd tt nn =>
      obtain ⟨dop, dname, daop, dver, dkids⟩ := dd
      go_wp2_with (go_at_call 28; refine hcall.mono ?_; clear hcall; rintro rr W5 ⟨hk5, ⟨kv, rfl, hkv⟩, hwf5, hlen5, hrs5, hn5⟩; obtain ⟨Ak, ck, rfl, _, _⟩ := hkv.form; simp only [richV, richC, Rdp.op, Rdp.name, Rdp.aop, Rdp.ver, Rdp.kids] at hkv ⊢; have bA5 := hk5.blk bA4 hgA2; have bF5 := hk5.blk bF4 hgF2; obtain ⟨e0, e1, e2, e3, e4, f0, f1, f2, eA, eF⟩ := outs2 bA5 bF5; have eA0 := eA 0; have eA1 := eA 1; have eA2 := eA 2; have eA3 := eA 3; have eA4 := eA 4; have eF0 := eF 0; have eF1 := eF 1; have eF2 := eF 2)
      obtain ⟨W9, hW9, c1, c2, k9⟩ := ret_mem bA5 bF5 (.string (bs dop)) (.string (bs dname)) (.int .i64 daop) (.string (bs dver)) (.slice Ak dkids.length ck) (.string ⟨#[]⟩) (.int .i64 0) (.int .i64 0)
      rw [← hW9]
      have hk9 : Kept (fun k => k = gr) W W9 := (hkept.trans hk5).cutR k9 fun i hi => .inr (hi.elim (fun e => by rw [e]; exact hA) (fun e => by rw [e]; exact hF))
      have k0 := c1.cell 0
      have k1 := c1.cell 1
      have k2 := c1.cell 2
      have k3 := c1.cell 3
      have k4 := c1.cell 4
      have m0 := c2.cell 0
      have m1 := c2.cell 1
      have m2 := c2.cell 2
      simp at k0 k1 k2 k3 k4 m0 m1 m2
      refine bodyPost_ret (v := .tuple #[.agg #[.string (bs dop), .string (bs dname), .int .i64 daop, .string (bs dver), .slice Ak dkids.length ck], .agg #[.string ⟨#[]⟩, .int .i64 0, .int .i64 0]]) (by simp [results, Tryd.results15, go_sem, k0, k1, k2, k3, k4, m0, m1, m2]) rfl ?_

      rw [HV.out]
      have hkv9 : Sk 5 (Rr (40 - ar)) (fun k => k < W.heap.size) W9 (.slice Ak dkids.length ck) dkids := (hkv.keep (good_rich _) (k9.mono fun i _ hi => hi.elim (fun e => by rw [e]; exact hWA) (fun e => by rw [e]; exact hWF))).mono (good_rich _) (by omega) fun i _ hi => Nat.lt_of_lt_of_le hi hkept.size
      have hrs9 := hrs5.keepB k9 fun i hi => hi.elim (fun e => ⟨fun e2 => hgA2 (e.symm.trans e2), by rw [e]; exact Nat.le_trans hB hA⟩) (fun e => ⟨fun e2 => hgF2 (e.symm.trans e2), by rw [e]; exact Nat.le_trans hB hF⟩)
      exact And.intro hk9 ⟨⟨_, rfl, hkv9⟩, hwf5, by first | exact hlen5 | (simp only [List.length_cons] at hlen5 ⊢; omega) | (simp only [List.length_cons]; omega), hrs9, hn5⟩
  · rw [decide_eq_false hp2] at q2
    have HV : Hid (R = atomP (p :: r) n) := Lib.hid (by rw [HP2.out, if_neg hp2])
    clear HP2 hp2
    have TTW := hT.keep at0.kept (fun i hi e => by omega)
    have hcall := atom_any p r B n gr (40 - ar) W2 (Nat.le_trans hB at0.kept.size) at0.rs hwf HP0.out HBD.out hn TTW hgr
    clear z0 z1 t0 t1 zf TTW HGK HFU HBD HBD2 y1
    go_upto_region 11 with fail
    clear y0 q1 q1b q2 q3
    have hWA : gA < W2.heap.size := at0.bA.lt
    have hWF : gF < W2.heap.size := at0.bF.lt
    have hgA2 : gA ≠ gr := fun e => by omega
    have hgF2 : gF ≠ gr := fun e => by omega
    have hkept := at0.kept
    have bA4 := at0.bA
    have bF4 := at0.bF
    obtain ⟨PRr, HPR⟩ : ∃ x, Hid (atomP (p :: r) n = x) := ⟨_, Lib.hid rfl⟩
    rw [HPR.out] at hcall HV
    cases PRr with
    | err ea ec =>
      go_wp2_with (go_at_call 29; refine hcall.mono ?_; clear hcall; rintro rr W5 ⟨hk5, hec, rfl⟩; have bA5 := hk5.blk bA4 hgA2; have bF5 := hk5.blk bF4 hgF2; obtain ⟨e0, e1, e2, e3, e4, f0, f1, f2, eA, eF⟩ := outs2 bA5 bF5; have eA0 := eA 0; have eA1 := eA 1; have eA2 := eA 2; have eA3 := eA 3; have eA4 := eA 4; have eF0 := eF 0; have eF1 := eF 1; have eF2 := eF 2)
      obtain ⟨W9, hW9, c1, c2, k9⟩ := ret_mem bA5 bF5 (.string ⟨#[]⟩) (.string ⟨#[]⟩) (.int .i64 0) (.string ⟨#[]⟩) (.slice none 0 0) (.string ⟨#[]⟩) (.int .i64 (ea : Int)) (.int .i64 ec)
      rw [← hW9]
      have hk9 : Kept (fun k => k = gr) W W9 := (hkept.trans hk5).cutR k9 fun i hi => .inr (hi.elim (fun e => by rw [e]; exact hA) (fun e => by rw [e]; exact hF))
      have k0 := c1.cell 0
      have k1 := c1.cell 1
      have k2 := c1.cell 2
      have k3 := c1.cell 3
      have k4 := c1.cell 4
      have m0 := c2.cell 0
      have m1 := c2.cell 1
      have m2 := c2.cell 2
      simp at k0 k1 k2 k3 k4 m0 m1 m2
      refine bodyPost_ret (v := .tuple #[.agg #[.string ⟨#[]⟩, .string ⟨#[]⟩, .int .i64 0, .string ⟨#[]⟩, .slice none 0 0], .agg #[.string ⟨#[]⟩, .int .i64 (ea : Int), .int .i64 ec]]) (by simp [results, Tryd.results15, go_sem, k0, k1, k2, k3, k4, m0, m1, m2]) rfl ?_

      rw [HV.out]
      exact And.intro hk9 (And.intro hec rfl)
    | ok dd tt nn =>
      obtain ⟨dop, dname, daop, dver, dkids⟩ := dd
      go_wp2_with (go_at_call 29; refine hcall.mono ?_; clear hcall; rintro rr W5 ⟨hk5, ⟨kv, rfl, hkv⟩, hwf5, hlen5, hrs5, hn5⟩; obtain ⟨Ak, ck, rfl, _, _⟩ := hkv.form; simp only [richV, richC, Rdp.op, Rdp.name, Rdp.aop, Rdp.ver, Rdp.kids] at hkv ⊢; have bA5 := hk5.blk bA4 hgA2; have bF5 := hk5.blk bF4 hgF2; obtain ⟨e0, e1, e2, e3, e4, f0, f1, f2, eA, eF⟩ := outs2 bA5 bF5; have eA0 := eA 0; have eA1 := eA 1; have eA2 := eA 2; have eA3 := eA 3; have eA4 := eA 4; have eF0 := eF 0; have eF1 := eF 1; have eF2 := eF 2)
      obtain ⟨W9, hW9, c1, c2, k9⟩ := ret_mem bA5 bF5 (.string (bs dop)) (.string (bs dname)) (.int .i64 daop) (.string (bs dver)) (.slice Ak dkids.length ck) (.string ⟨#[]⟩) (.int .i64 0) (.int .i64 0)
      rw [← hW9]
      have hk9 : Kept (fun k => k = gr) W W9 := (hkept.trans hk5).cutR k9 fun i hi => .inr (hi.elim (fun e => by rw [e]; exact hA) (fun e => by rw [e]; exact hF))
      have k0 := c1.cell 0
      have k1 := c1.cell 1
      have k2 := c1.cell 2
      have k3 := c1.cell 3
      have k4 := c1.cell 4
      have m0 := c2.cell 0
      have m1 := c2.cell 1
      have m2 := c2.cell 2
      simp at k0 k1 k2 k3 k4 m0 m1 m2
      refine bodyPost_ret (v := .tuple #[.agg #[.string (bs dop), .string (bs dname), .int .i64 daop, .string (bs dver), .slice Ak dkids.length ck], .agg #[.string ⟨#[]⟩, .int .i64 0, .int .i64 0]]) (by simp [results, Tryd.results15, go_sem, k0, k1, k2, k3, k4, m0, m1, m2]) rfl ?_

      rw [HV.out]
      have hkv9 : Sk 5 (Rr (40 - ar)) (fun k => k < W.heap.size) W9 (.slice Ak dkids.length ck) dkids := (hkv.keep (good_rich _) (k9.mono fun i _ hi => hi.elim (fun e => by rw [e]; exact hWA) (fun e => by rw [e]; exact hWF))).mono (good_rich _) (by omega) fun i _ hi => Nat.lt_of_lt_of_le hi hkept.size
      have hrs9 := hrs5.keepB k9 fun i hi => hi.elim (fun e => ⟨fun e2 => hgA2 (e.symm.trans e2), by rw [e]; exact Nat.le_trans hB hA⟩) (fun e => ⟨fun e2 => hgF2 (e.symm.trans e2), by rw [e]; exact Nat.le_trans hB hF⟩)
      exact And.intro hk9 ⟨⟨_, rfl, hkv9⟩, hwf5, by first | exact hlen5 | (simp only [List.length_cons] at hlen5 ⊢; omega) | (simp only [List.length_cons]; omega), hrs9, hn5⟩
end Go.Proofs.YtjdcegogkafmoaaDoor

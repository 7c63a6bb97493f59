/- The document's dependencies of all tokens; the walk of the document's Parse. Printed by gen_rdq.py. -/
import Derived.Test.YtjdcegogkafmoaaDoorRdP
namespace Go.Proofs.YtjdcegogkafmoaaDoor
open Go.RowKit
theorem depD_all : ∀ k, ∀ j, j ≤ k → DepDK j
  | 0, j, hj => by
    have : j = 0 := by omega
    subst this
    intro ts n ar gx s W _ _ _ _ _ _ hfu
    omega
  | k + 1, j, hj => by
    by_cases h : j ≤ k
    · exact depD_all k j h
    · have : j = k + 1 := by omega
      subst this
      exact rdep_any k fun i hi => depD_all k i (by omega)
set_option maxRecDepth 20000 in
set_option maxHeartbeats 16000000 in
theorem rrparse_any (s : List UInt8) (w : World) (hs : s.length ≤ 900000) : Calls Tryd.prog 7 #[.string (bs s)] w (ParseR w s) := by
  obtain ⟨hwf, hlen⟩ := tkR_wf s (by omega) s.length 0 (by omega) (Nat.zero_le _)
  have HP : Hid (parseP s = match depP (2 * s.length + 3) (tkR s 0) 0 0 with | .err a c => .err a c | .ok d ts n => if (hdT ts).1 = [] then .ok d ts n else .err (hdT ts).2 3) := Lib.hid rfl
  obtain ⟨R, HR⟩ : ∃ R, Hid (parseP s = R) := ⟨_, Lib.hid rfl⟩
  rw [HR.out] at HP
  obtain ⟨W1, gA, gF, hW1, hgA, hgF, bA, bF, hb1, hA, hF⟩ := init2 w
  go_enter Tryd.func7, Tryd.ntmps7
  go_upto_region 1 with fail
  rw [← hW1, ← hgF, ← hgA]
  clear hW1 hgA hgF
  go_upto_region 2 with fail
  have bX := Blk.new W1 52 #[.string (bs s), .int .i64 0, .string ⟨#[]⟩, .int .i64 0, .int .i64 0, .int .i64 0]
  have hq : Below W1.heap.size W1 (W1.alloc (.cells #[.string (bs s), .int .i64 0, .string ⟨#[]⟩, .int .i64 0, .int .i64 0, .int .i64 0] 52)) := (Below.refl _ _).alloc (Nat.le_refl _) _
  have hbw := hb1.trans (hq.mono hb1.size)
  have bA3 := bA.below hq bA.lt
  have bF3 := bF.below hq bF.lt
  have hXA : W1.heap.size ≠ gA := fun e => by have := bA.lt; omega
  have hXF : W1.heap.size ≠ gF := fun e => by have := bF.lt; omega
  have hXw : w.heap.size ≤ W1.heap.size := hb1.size
  have hAF : gA ≠ gF := blkNe bA bF (by decide)
  have hFA : gF ≠ gA := fun e => hAF e.symm
  clear hq bA bF hb1
  generalize W1.alloc (.cells #[.string (bs s), .int .i64 0, .string ⟨#[]⟩, .int .i64 0, .int .i64 0, .int .i64 0] 52) = W3 at bX hbw bA3 bF3 ⊢
  generalize W1.heap.size = gx at bX hXA hXF hXw ⊢
  have ds : DS W3 gx s (tkR s 0) 0 := ⟨0, Nat.zero_le _, rfl, bX⟩
  have hdep := depD_all (2 * s.length + 3) _ (Nat.le_refl _) (tkR s 0) 0 0 gx s W3 ds hwf (by omega) (by omega) hs (by omega) (by omega)
  generalize tkR s 0 = ts at hwf hlen HP hdep
  have hdep : Calls Tryd.prog 17 #[.pointer (some ⟨gx, 0, none⟩), .int .i64 0] W3 (DepD gx s 40 W3 ts.length (depP (2 * s.length + 3) ts 0 0)) := hdep
  obtain ⟨PRr, HPRr⟩ : ∃ x, Hid (depP (2 * s.length + 3) ts 0 0 = x) := ⟨_, Lib.hid rfl⟩
  rw [HPRr.out] at hdep HP
  have hX3x : gx < W3.heap.size := bX.lt
  have hA3 := bA3.lt
  have hF3 := bF3.lt
  have hws := hbw.size
  clear ds hwf hlen HPRr bX
  cases PRr with
  | err ea ec =>
    go_upto_region 3 with (go_at_call 17; refine hdep.mono ?_; clear hdep; rintro rr W5 ⟨hk5, hec, ⟨dd, A8, n8, c8, rfl⟩, p8, m8, hx8⟩; simp only [richV, richC])
    have HV : Hid (R = .err ea ec) := HP
    have HEC : Hid (ec ≠ 0) := Lib.hid hec
    have hq : Below W5.heap.size W5 (W5.alloc (.cells #[.string (bs dd.op), .string (bs dd.name), .int .i64 dd.aop, .string (bs dd.ver), .slice A8 n8 c8] 27)) := (Below.refl _ _).alloc (Nat.le_refl _) _
    have bA6 := (hk5.blk bA3 (fun e => hXA e.symm)).below hq (hk5.blk bA3 (fun e => hXA e.symm)).lt
    have bF6 := (hk5.blk bF3 (fun e => hXF e.symm)).below hq (hk5.blk bF3 (fun e => hXF e.symm)).lt
    have bX6 := hx8.below hq hx8.lt
    have hb5 := hbw.trans (hk5.below hbw.size fun k _ e => by rw [e]; exact hXw)
    have hbl6 := hb5.trans (hq.mono hb5.size)
    have x4 := bX6.cell 4
    simp at x4
    have qec : (ec != 0) = true := by simpa using hec
    clear hq hx8 hk5 bA3 bF3 hb5 HP hec
    generalize W5.alloc (.cells #[.string (bs dd.op), .string (bs dd.name), .int .i64 dd.aop, .string (bs dd.ver), .slice A8 n8 c8] 27) = W6 at bA6 bF6 bX6 hbl6 x4 ⊢
    obtain ⟨e0, e1, e2, e3, e4, f0, f1, f2, eA, eF⟩ := outs2 bA6 bF6
    have eA0 := eA 0
    have eA1 := eA 1
    have eA2 := eA 2
    have eA3 := eA 3
    have eA4 := eA 4
    have eF0 := eF 0
    have eF1 := eF 1
    have eF2 := eF 2
    have x0 := bX6.cell 2
    have x1 := bX6.cell 3
    have x2 := bX6.cell 4
    simp at x0 x1 x2
    go_upto_region 4 with fail
    refine wp_region_plan (fun W => W.cell? ⟨gx, 2, none⟩ = some (.string ⟨#[]⟩) ∧ W.cell? ⟨gx, 3, none⟩ = some (.int .i64 ((ea : Int))) ∧ W.cell? ⟨gx, 4, none⟩ = some (.int .i64 (ec))) [(false, 0), (false, 1), (false, 2), (false, 3), (false, 4), (true, 5), (true, 6)] (by kernel_rfl) (by kernel_rfl) (⟨x0, x1, x2⟩) ?_
    simp only [planOps, List.map, List.getD_cons_zero, List.getD_cons_succ]
    iterate 5 ((first | refine plan_quiet (v := ?_) rfl rfl (fun w' hw' => ?_) ?_ | refine plan_calm (v := ?_) (tt_of) rfl (fun w' hw' => ?_) ?_); rotate_left; (focus (go_simp <;> (first | with_reducible rfl | (rw [if_neg (by simp [undef])]; try rfl) | omega))); simp only [Act.put, List.setIfInBounds_toArray, List.set_cons_zero, List.set_cons_succ])
    refine plan_loud rfl (fun K hK => ?_)
    go_simp
    have kS := (kept_set5 W6 gA (.string ⟨#[]⟩) (.string ⟨#[]⟩) (.int .i64 0) (.string ⟨#[]⟩) (.slice none 0 0)).drew
    refine hK _ _ (⟨kS.cell x0 hXA, kS.cell x1 hXA, kS.cell x2 hXA⟩) ?_
    clear hK K
    (try simp only [Act.put, List.setIfInBounds_toArray, List.set_cons_zero, List.set_cons_succ])
    refine plan_loud rfl (fun K hK => ?_)
    go_simp
    have kT := kept_set53 W6 gA gF (.string ⟨#[]⟩) (.string ⟨#[]⟩) (.int .i64 0) (.string ⟨#[]⟩) (.slice none 0 0) (.string ⟨#[]⟩) (.int .i64 ((ea : Int))) (.int .i64 (ec))
    have kT := kT.drew
    have hEE : ¬ (gx = gA ∨ gx = gF) := fun h => h.elim hXA hXF
    refine hK _ _ (⟨kT.cell x0 hEE, kT.cell x1 hEE, kT.cell x2 hEE⟩) ?_
    clear hK K
    (try simp only [Act.put, List.setIfInBounds_toArray, List.set_cons_zero, List.set_cons_succ])
    refine plan_end ?_
    clear kS kT x0 x1 x2
    go_wp2_with fail

    obtain ⟨W9, hW9, c1, c2, k9⟩ := ret_mem bA6 bF6 (.string ⟨#[]⟩) (.string ⟨#[]⟩) (.int .i64 0) (.string ⟨#[]⟩) (.slice none 0 0) (.string ⟨#[]⟩) (.int .i64 ((ea : Int))) (.int .i64 (ec))
    rw [← hW9]
    have hk9 : Below w.heap.size w W9.drew := (hbl6.trans (k9.below (Nat.le_trans (Nat.le_refl _) hbl6.size) fun k _ h => h.elim (fun e => by rw [e]; exact hA) (fun e => by rw [e]; exact hF))).drew
    have k0 := c1.cell 0
    have k1 := c1.cell 1
    have k2 := c1.cell 2
    have k3 := c1.cell 3
    have k4 := c1.cell 4
    have m0 := c2.cell 0
    have m1 := c2.cell 1
    have m2 := c2.cell 2
    simp at k0 k1 k2 k3 k4 m0 m1 m2
    refine bodyPost_ret (v := .tuple #[.agg #[.string ⟨#[]⟩, .string ⟨#[]⟩, .int .i64 0, .string ⟨#[]⟩, .slice none 0 0], .agg #[.string ⟨#[]⟩, .int .i64 ((ea : Int)), .int .i64 (ec)]]) (by simp [results, Tryd.results7, go_sem, k0, k1, k2, k3, k4, m0, m1, m2]) rfl ?_

    unfold ParseR
    rw [HR.out, HV.out]
    exact And.intro (And.intro HEC.out rfl) hk9
  | ok dd tt nn =>
    obtain ⟨kop, kname, kaop, kver, kkids⟩ := dd
    go_upto_region 3 with (go_at_call 17; refine hdep.mono ?_; clear hdep; rintro rr W5 ⟨hk5, ⟨kv, rfl, hkv⟩, hwf5, hlen5, hds5, hn5⟩; obtain ⟨Ak, ck, rfl, _, _⟩ := hkv.form; simp only [richV, richC, Rdp.op, Rdp.name, Rdp.aop, Rdp.ver, Rdp.kids] at hkv ⊢)
    obtain ⟨p1, r1, rfl⟩ := hwf5.ne
    obtain ⟨t1, a1⟩ := p1
    have HP2 : Hid (R = if t1 = [] then .ok (.mk kop kname kaop kver kkids) ((t1, a1) :: r1) nn else .err a1 3) := HP
    have bA5 := hk5.blk bA3 (fun e => hXA e.symm)
    have bF5 := hk5.blk bF3 (fun e => hXF e.symm)
    have hb5 := hbw.trans (hk5.below hbw.size fun k _ e => by rw [e]; exact hXw)
    have hq : Below W5.heap.size W5 (W5.alloc (.cells #[.string (bs kop), .string (bs kname), .int .i64 kaop, .string (bs kver), .slice Ak kkids.length ck] 27)) := (Below.refl _ _).alloc (Nat.le_refl _) _
    have bK := Blk.new W5 27 #[.string (bs kop), .string (bs kname), .int .i64 kaop, .string (bs kver), .slice Ak kkids.length ck]
    have bA4 := bA5.below hq bA5.lt
    have bF4 := bF5.below hq bF5.lt
    have hb4 := hb5.trans (hq.mono hb5.size)
    have ds4 := hds5.below hq
    have hkv4 := Below.sk (good_rich 40) hq hkv
    have hKA : W5.heap.size ≠ gA := fun e => by have := bA5.lt; omega
    have hKF : W5.heap.size ≠ gF := fun e => by have := bF5.lt; omega
    have hKX : W5.heap.size ≠ gx := fun e => by have := hds5.lt; omega
    have hX4 : gx < (W5.alloc (.cells #[.string (bs kop), .string (bs kname), .int .i64 kaop, .string (bs kver), .slice Ak kkids.length ck] 27)).heap.size := by have := hds5.lt; have := hq.size; omega
    have hX3 : W3.heap.size ≤ (W5.alloc (.cells #[.string (bs kop), .string (bs kname), .int .i64 kaop, .string (bs kver), .slice Ak kkids.length ck] 27)).heap.size := by have := hk5.size; have := hq.size; omega
    clear hq hk5 hbw bA3 bF3 bA5 bF5 hb5 hds5 hkv HP
    generalize W5.alloc (.cells #[.string (bs kop), .string (bs kname), .int .i64 kaop, .string (bs kver), .slice Ak kkids.length ck] 27) = W4 at bA4 bF4 hb4 ds4 hkv4 bK hX4 hX3 ⊢
    generalize W5.heap.size = gK at bK hKA hKF hKX ⊢
    have x4 : W4.cell? ⟨gx, 4, none⟩ = some (.int .i64 0) := by
      obtain ⟨_, _, _, hx⟩ := ds4
      have := hx.cell 4
      simpa using this
    have hlk := rlook_ds gx s t1 a1 r1 nn W4 hs ds4
    go_upto_region 5 with fail
    have e1 := eqS t1 []
    have e1b : (bs t1).toList.isEmpty = decide (t1 = []) := by rw [toList_bs, Bool.eq_iff_iff]; simp
    by_cases hp1 : t1 = []
    · have HV : Hid (R = .ok (.mk kop kname kaop kver kkids) ((t1, a1) :: r1) nn) := Lib.hid (by rw [HP2.out, if_pos hp1])
      rw [decide_eq_true hp1] at e1 e1b
      clear HP2 hp1
      go_upto_region 8 with (go_at_call 18; refine hlk.mono ?_; clear hlk; rintro rr W6 ⟨rfl, bX6, hk6⟩)
      have bA6 := hk6.blk bA4 (fun e => hXA e.symm)
      have bF6 := hk6.blk bF4 (fun e => hXF e.symm)
      have bK6 := hk6.blk bK hKX
      have hbl6 := hb4.trans (hk6.below hb4.size fun k _ e => by rw [e]; exact hXw)
      have hkv6 := hkv4.keep (good_rich 40) (hk6.mono fun i _ e => by rw [e]; exact hX3x)
      clear bA4 bF4 hb4 hkv4 bK hk6 ds4 x4 e1 e1b
      obtain ⟨u0, u1, u2, u3, u4, _⟩ := blk_outs bK6
      obtain ⟨e0, e1, e2, e3, e4, f0, f1, f2, eA, eF⟩ := outs2 bA6 bF6
      have eA0 := eA 0
      have eA1 := eA 1
      have eA2 := eA 2
      have eA3 := eA 3
      have eA4 := eA 4
      have eF0 := eF 0
      have eF1 := eF 1
      have eF2 := eF 2
      go_wp2_with fail
      obtain ⟨W9, hW9, c1, c2, k9⟩ := ret_mem bA6 bF6 (.string (bs kop)) (.string (bs kname)) (.int .i64 kaop) (.string (bs kver)) (.slice Ak kkids.length ck) (.string ⟨#[]⟩) (.int .i64 0) (.int .i64 0)
      rw [← hW9]
      have hk9 : Below w.heap.size w W9 := (hbl6.trans (k9.below (Nat.le_trans (Nat.le_refl _) hbl6.size) fun k _ h => h.elim (fun e => by rw [e]; exact hA) (fun e => by rw [e]; exact hF)))
      have k0 := c1.cell 0
      have k1 := c1.cell 1
      have k2 := c1.cell 2
      have k3 := c1.cell 3
      have k4 := c1.cell 4
      have m0 := c2.cell 0
      have m1 := c2.cell 1
      have m2 := c2.cell 2
      simp at k0 k1 k2 k3 k4 m0 m1 m2
      refine bodyPost_ret (v := .tuple #[.agg #[.string (bs kop), .string (bs kname), .int .i64 kaop, .string (bs kver), .slice Ak kkids.length ck], .agg #[.string ⟨#[]⟩, .int .i64 0, .int .i64 0]]) (by simp [results, Tryd.results7, go_sem, k0, k1, k2, k3, k4, m0, m1, m2]) rfl ?_

      have hkv9 : Sk 5 (Rr 40) (fun k => k < w.heap.size) W9 (.slice Ak kkids.length ck) kkids := (hkv6.keep (good_rich _) (k9.mono fun i _ hi => hi.elim (fun e => by rw [e]; exact hA3) (fun e => by rw [e]; exact hF3))).mono (good_rich _) (by omega) fun i _ hi => Nat.lt_of_lt_of_le hi hws
      unfold ParseR
      rw [HR.out, HV.out]
      exact And.intro ⟨_, rfl, hkv9⟩ hk9
    · have HV : Hid (R = .err a1 3) := Lib.hid (by rw [HP2.out, if_neg hp1])
      have HEC : Hid ((3 : Int) ≠ 0) := Lib.hid (by decide)
      rw [decide_eq_false hp1] at e1 e1b
      clear HP2 hp1
      go_upto_region 6 with (go_at_call 18; refine hlk.mono ?_; clear hlk; rintro rr W8 ⟨rfl, bX8, hk8⟩)
      have bA8 := hk8.blk bA4 (fun e => hXA e.symm)
      have bF8 := hk8.blk bF4 (fun e => hXF e.symm)
      have hbl8 := hb4.trans (hk8.below hb4.size fun k _ e => by rw [e]; exact hXw)
      have hbad := rbad_any gx s a1 nn 0 0 3 W8 bX8
      go_upto_region 7 with (go_at_call 19; refine hbad.mono ?_; clear hbad; rintro rr W6 ⟨rfl, bX6, hk6⟩)
      have bA6 := hk6.blk bA8 (fun e => hXA e.symm)
      have bF6 := hk6.blk bF8 (fun e => hXF e.symm)
      have hbl6 := hbl8.trans (hk6.below hbl8.size fun k _ e => by rw [e]; exact hXw)
      clear bA4 bF4 hb4 hkv4 bK ds4 x4 e1 e1b bA8 bF8 hbl8 hk8 hk6 bX8
      obtain ⟨e0, e1, e2, e3, e4, f0, f1, f2, eA, eF⟩ := outs2 bA6 bF6
      have eA0 := eA 0
      have eA1 := eA 1
      have eA2 := eA 2
      have eA3 := eA 3
      have eA4 := eA 4
      have eF0 := eF 0
      have eF1 := eF 1
      have eF2 := eF 2
      have x0 := bX6.cell 2
      have x1 := bX6.cell 3
      have x2 := bX6.cell 4
      simp at x0 x1 x2

      refine wp_region_plan (fun W => W.cell? ⟨gx, 2, none⟩ = some (.string ⟨#[]⟩) ∧ W.cell? ⟨gx, 3, none⟩ = some (.int .i64 ((a1 : Int))) ∧ W.cell? ⟨gx, 4, none⟩ = some (.int .i64 (3))) [(false, 0), (false, 1), (false, 2), (false, 3), (false, 4), (true, 5), (true, 6)] (by kernel_rfl) (by kernel_rfl) (⟨x0, x1, x2⟩) ?_
      simp only [planOps, List.map, List.getD_cons_zero, List.getD_cons_succ]
      iterate 5 ((first | refine plan_quiet (v := ?_) rfl rfl (fun w' hw' => ?_) ?_ | refine plan_calm (v := ?_) (tt_of) rfl (fun w' hw' => ?_) ?_); rotate_left; (focus (go_simp <;> (first | with_reducible rfl | (rw [if_neg (by simp [undef])]; try rfl) | omega))); simp only [Act.put, List.setIfInBounds_toArray, List.set_cons_zero, List.set_cons_succ])
      refine plan_loud rfl (fun K hK => ?_)
      go_simp
      have kS := (kept_set5 W6 gA (.string ⟨#[]⟩) (.string ⟨#[]⟩) (.int .i64 0) (.string ⟨#[]⟩) (.slice none 0 0)).drew
      refine hK _ _ (⟨kS.cell x0 hXA, kS.cell x1 hXA, kS.cell x2 hXA⟩) ?_
      clear hK K
      (try simp only [Act.put, List.setIfInBounds_toArray, List.set_cons_zero, List.set_cons_succ])
      refine plan_loud rfl (fun K hK => ?_)
      go_simp
      have kT := kept_set53 W6 gA gF (.string ⟨#[]⟩) (.string ⟨#[]⟩) (.int .i64 0) (.string ⟨#[]⟩) (.slice none 0 0) (.string ⟨#[]⟩) (.int .i64 ((a1 : Int))) (.int .i64 (3))
      have kT := kT.drew
      have hEE : ¬ (gx = gA ∨ gx = gF) := fun h => h.elim hXA hXF
      refine hK _ _ (⟨kT.cell x0 hEE, kT.cell x1 hEE, kT.cell x2 hEE⟩) ?_
      clear hK K
      (try simp only [Act.put, List.setIfInBounds_toArray, List.set_cons_zero, List.set_cons_succ])
      refine plan_end ?_
      clear kS kT x0 x1 x2
      go_wp2_with fail

      obtain ⟨W9, hW9, c1, c2, k9⟩ := ret_mem bA6 bF6 (.string ⟨#[]⟩) (.string ⟨#[]⟩) (.int .i64 0) (.string ⟨#[]⟩) (.slice none 0 0) (.string ⟨#[]⟩) (.int .i64 ((a1 : Int))) (.int .i64 (3))
      rw [← hW9]
      have hk9 : Below w.heap.size w W9.drew := (hbl6.trans (k9.below (Nat.le_trans (Nat.le_refl _) hbl6.size) fun k _ h => h.elim (fun e => by rw [e]; exact hA) (fun e => by rw [e]; exact hF))).drew
      have k0 := c1.cell 0
      have k1 := c1.cell 1
      have k2 := c1.cell 2
      have k3 := c1.cell 3
      have k4 := c1.cell 4
      have m0 := c2.cell 0
      have m1 := c2.cell 1
      have m2 := c2.cell 2
      simp at k0 k1 k2 k3 k4 m0 m1 m2
      refine bodyPost_ret (v := .tuple #[.agg #[.string ⟨#[]⟩, .string ⟨#[]⟩, .int .i64 0, .string ⟨#[]⟩, .slice none 0 0], .agg #[.string ⟨#[]⟩, .int .i64 ((a1 : Int)), .int .i64 (3)]]) (by simp [results, Tryd.results7, go_sem, k0, k1, k2, k3, k4, m0, m1, m2]) rfl ?_

      unfold ParseR
      rw [HR.out, HV.out]
      exact And.intro (And.intro HEC.out rfl) hk9
end Go.Proofs.YtjdcegogkafmoaaDoor


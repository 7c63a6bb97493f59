/- The walks of bytes.Equal, of entry.Same's closure, of slices.EqualFunc at entries, of entry.Same. Printed by gen_psame.py. -/
import Derived.Test.YtjhikglgaoncjaaDoorEoF
import Derived.Test.YtjhikglgaoncjaaDoorEnJ
namespace Go.Proofs.YtjhikglgaoncjaaDoor
open Go.RowKit
theorem bequal_any (a b : List UInt8) (u v : Value) (X Y : Nat → Prop) (w : World) (ha : Sl 1 Rbyte X w u a) (hb : Sl 1 Rbyte Y w v b) :
    Calls Tryd.prog 46 #[u, v] w fun r w' => r = .returned (.bool (decide (a = b))) ∧ w = w' := by
  have c1 := str8 ha.sb
  have c2 := str8 hb.sb
  obtain ⟨A, ca, rfl, _, _⟩ := ha.form
  obtain ⟨A2, cb, rfl, _, _⟩ := hb.form
  have hd : decide (a = b) = (a == b) := by rw [Bool.eq_iff_iff]; simp
  rw [hd]
  clear ha hb
  go_enter Tryd.func46, Tryd.ntmps46
  go_wp2_with fail
  go_ret
  exact ⟨by first | rfl | simp, rfl⟩
theorem common_eqs (x y : En) (W : World) : (if x.mode = y.mode then if x.uid = y.uid then if x.gid = y.gid then if (bs x.owner).toList = (bs y.owner).toList then if (bs x.group).toList = (bs y.group).toList then if x.mtime = y.mtime then Result.ok (Next.value (Value.bool true)) W else Result.ok (Next.value (Value.bool false)) W else Result.ok (Next.value (Value.bool false)) W else Result.ok (Next.value (Value.bool false)) W else Result.ok (Next.value (Value.bool false)) W else Result.ok (Next.value (Value.bool false)) W else Result.ok (Next.value (Value.bool false)) W) = Result.ok (Next.value (Value.bool (alikeE x y))) W := by
  simp only [alikeE, toList_bs]
  by_cases h1 : x.mode = y.mode <;> by_cases h2 : x.uid = y.uid <;> by_cases h3 : x.gid = y.gid <;> by_cases h4 : x.owner = y.owner <;> by_cases h5 : x.group = y.group <;> by_cases h6 : x.mtime = y.mtime <;> simp [h1, h2, h3, h4, h5, h6]
theorem sameE_is (x y : En) : sameE x y = (decide (x.path = y.path) && (decide (x.kind = y.kind) && (decide (x.link = y.link) && (alikeE x y && decide (x.data = y.data))))) := by
  rw [sameE]
  cases decide (x.path = y.path) <;> cases decide (x.kind = y.kind) <;> cases alikeE x y <;> cases decide (x.link = y.link) <;> cases decide (x.data = y.data) <;> rfl
set_option maxRecDepth 20000 in
set_option maxHeartbeats 16000000 in
theorem psame1_any (x y : En) (dx dy : Value) (X Y : Nat → Prop) (w : World) (hdx : Sl 1 Rbyte X w dx x.data) (hdy : Sl 1 Rbyte Y w dy y.data) :
    Calls Tryd.prog 44 #[entV x dx, entV y dy] w fun r w' => r = .returned (.bool (sameE x y)) ∧ Below w.heap.size w w' := by
  obtain ⟨Ax, cx, rfl, _, _⟩ := hdx.form
  obtain ⟨Ay, cy, rfl, _, _⟩ := hdy.form
  have HSE := Lib.hid (sameE_is x y)
  generalize sameE x y = res at HSE
  simp only [entV]
  go_enter Tryd.func44, Tryd.ntmps44
  go_upto_region 1 with fail
  have bE := (Blk.new w tE #[.string (bs x.path), .int .i64 x.kind, .int .i64 x.mode, .int .i64 x.uid, .int .i64 x.gid, .string (bs x.owner), .string (bs x.group), .int .i64 x.mtime, .string (bs x.link), .slice Ax x.data.length cx]).alloc (.cells #[.string (bs y.path), .int .i64 y.kind, .int .i64 y.mode, .int .i64 y.uid, .int .i64 y.gid, .string (bs y.owner), .string (bs y.group), .int .i64 y.mtime, .string (bs y.link), .slice Ay y.data.length cy] tE)
  have bF := Blk.new (w.alloc (.cells #[.string (bs x.path), .int .i64 x.kind, .int .i64 x.mode, .int .i64 x.uid, .int .i64 x.gid, .string (bs x.owner), .string (bs x.group), .int .i64 x.mtime, .string (bs x.link), .slice Ax x.data.length cx] tE)) tE #[.string (bs y.path), .int .i64 y.kind, .int .i64 y.mode, .int .i64 y.uid, .int .i64 y.gid, .string (bs y.owner), .string (bs y.group), .int .i64 y.mtime, .string (bs y.link), .slice Ay y.data.length cy]
  have hs : (w.alloc (.cells #[.string (bs x.path), .int .i64 x.kind, .int .i64 x.mode, .int .i64 x.uid, .int .i64 x.gid, .string (bs x.owner), .string (bs x.group), .int .i64 x.mtime, .string (bs x.link), .slice Ax x.data.length cx] tE)).heap.size = w.heap.size + 1 := by simp
  rw [hs] at bF
  have hq := ((Below.refl w.heap.size w).alloc (Nat.le_refl _) (.cells #[.string (bs x.path), .int .i64 x.kind, .int .i64 x.mode, .int .i64 x.uid, .int .i64 x.gid, .string (bs x.owner), .string (bs x.group), .int .i64 x.mtime, .string (bs x.link), .slice Ax x.data.length cx] tE)).alloc (by rw [hs]; omega) (.cells #[.string (bs y.path), .int .i64 y.kind, .int .i64 y.mode, .int .i64 y.uid, .int .i64 y.gid, .string (bs y.owner), .string (bs y.group), .int .i64 y.mtime, .string (bs y.link), .slice Ay y.data.length cy] tE)
  have hdx := Below.sl good_byte hq hdx
  have hdy := Below.sl good_byte hq hdy
  generalize (w.alloc (.cells #[.string (bs x.path), .int .i64 x.kind, .int .i64 x.mode, .int .i64 x.uid, .int .i64 x.gid, .string (bs x.owner), .string (bs x.group), .int .i64 x.mtime, .string (bs x.link), .slice Ax x.data.length cx] tE)).alloc (.cells #[.string (bs y.path), .int .i64 y.kind, .int .i64 y.mode, .int .i64 y.uid, .int .i64 y.gid, .string (bs y.owner), .string (bs y.group), .int .i64 y.mtime, .string (bs y.link), .slice Ay y.data.length cy] tE) = W1 at bE bF hq hdx hdy ⊢
  generalize hg : w.heap.size = g at bE bF ⊢
  have a0 := bE.cell 0
  have b0 := bF.cell 0
  have a1 := bE.cell 1
  have b1 := bF.cell 1
  have a2 := bE.cell 2
  have b2 := bF.cell 2
  have a3 := bE.cell 3
  have b3 := bF.cell 3
  have a4 := bE.cell 4
  have b4 := bF.cell 4
  have a5 := bE.cell 5
  have b5 := bF.cell 5
  have a6 := bE.cell 6
  have b6 := bF.cell 6
  have a7 := bE.cell 7
  have b7 := bF.cell 7
  have a8 := bE.cell 8
  have b8 := bF.cell 8
  have a9 := bE.cell 9
  have b9 := bF.cell 9
  simp at a0 b0 a1 b1 a2 b2 a3 b3 a4 b4 a5 b5 a6 b6 a7 b7 a8 b8 a9 b9
  clear hs bE bF
  have f1 := beq_bs2 x.path y.path
  have f2 := beq_bs2 x.link y.link
  by_cases p1 : x.path = y.path
  rotate_left
  · rw [decide_eq_false p1] at f1
    have HV : Hid (res = false) := Lib.hid (by rw [HSE.out, decide_eq_false p1]; simp)
    clear HSE
    go_upto_region 1 with fail
    refine wp_region_plan (fun W => W.cell? ⟨g, 0, none⟩ = some (.string (bs x.path)) ∧ W.cell? ⟨g, 1, none⟩ = some (.int .i64 x.kind) ∧ W.cell? ⟨g, 2, none⟩ = some (.int .i64 x.mode) ∧ W.cell? ⟨g, 3, none⟩ = some (.int .i64 x.uid) ∧ W.cell? ⟨g, 4, none⟩ = some (.int .i64 x.gid) ∧ W.cell? ⟨g, 5, none⟩ = some (.string (bs x.owner)) ∧ W.cell? ⟨g, 6, none⟩ = some (.string (bs x.group)) ∧ W.cell? ⟨g, 7, none⟩ = some (.int .i64 x.mtime) ∧ W.cell? ⟨g, 8, none⟩ = some (.string (bs x.link)) ∧ W.cell? ⟨g, 9, none⟩ = some (.slice Ax x.data.length cx) ∧ W.cell? ⟨(g + 1), 0, none⟩ = some (.string (bs y.path)) ∧ W.cell? ⟨(g + 1), 1, none⟩ = some (.int .i64 y.kind) ∧ W.cell? ⟨(g + 1), 2, none⟩ = some (.int .i64 y.mode) ∧ W.cell? ⟨(g + 1), 3, none⟩ = some (.int .i64 y.uid) ∧ W.cell? ⟨(g + 1), 4, none⟩ = some (.int .i64 y.gid) ∧ W.cell? ⟨(g + 1), 5, none⟩ = some (.string (bs y.owner)) ∧ W.cell? ⟨(g + 1), 6, none⟩ = some (.string (bs y.group)) ∧ W.cell? ⟨(g + 1), 7, none⟩ = some (.int .i64 y.mtime) ∧ W.cell? ⟨(g + 1), 8, none⟩ = some (.string (bs y.link)) ∧ W.cell? ⟨(g + 1), 9, none⟩ = some (.slice Ay y.data.length cy)) [(false, 0), (false, 1), (false, 2), (false, 3), (false, 4), (false, 5), (false, 6), (false, 7), (false, 8), (false, 9), (false, 10), (false, 11), (false, 12), (false, 13), (false, 14), (false, 15), (false, 16), (false, 17), (false, 18), (false, 19), (false, 20), (false, 22), (true, 21), (true, 23), (false, 24), (false, 25), (false, 26), (false, 27), (false, 28), (false, 29), (false, 30), (true, 31), (false, 32), (false, 33)] (by kernel_rfl) (by kernel_rfl) (⟨by simpa using a0, by simpa using a1, by simpa using a2, by simpa using a3, by simpa using a4, by simpa using a5, by simpa using a6, by simpa using a7, by simpa using a8, by simpa using a9, by simpa using b0, by simpa using b1, by simpa using b2, by simpa using b3, by simpa using b4, by simpa using b5, by simpa using b6, by simpa using b7, by simpa using b8, by simpa using b9⟩) ?_
    simp only [planOps, List.map, List.getD_cons_zero, List.getD_cons_succ]
    iterate 22 ((first | refine plan_quiet_guarded (v := ?_) rfl (fun w' hw' => ?_) ?_ | refine plan_calm_guarded (v := ?_) (tt_of) (fun w' hw' => ?_) ?_); rotate_left; (focus (go_simp <;> (first | with_reducible rfl | (rw [if_neg (by simp [undef])]; try rfl)))); simp only [Act.put, List.setIfInBounds_toArray, List.set_cons_zero, List.set_cons_succ])
    refine plan_loud_guarded (fun K hK => ?_)
    go_simp
    refine hK _ _ (⟨by simpa using a0, by simpa using a1, by simpa using a2, by simpa using a3, by simpa using a4, by simpa using a5, by simpa using a6, by simpa using a7, by simpa using a8, by simpa using a9, by simpa using b0, by simpa using b1, by simpa using b2, by simpa using b3, by simpa using b4, by simpa using b5, by simpa using b6, by simpa using b7, by simpa using b8, by simpa using b9⟩) ?_
    clear hK K
    (try simp only [Act.put, List.setIfInBounds_toArray, List.set_cons_zero, List.set_cons_succ])
    refine plan_loud_guarded (fun K hK => ?_)
    go_simp
    refine hK _ _ (⟨by simpa using a0, by simpa using a1, by simpa using a2, by simpa using a3, by simpa using a4, by simpa using a5, by simpa using a6, by simpa using a7, by simpa using a8, by simpa using a9, by simpa using b0, by simpa using b1, by simpa using b2, by simpa using b3, by simpa using b4, by simpa using b5, by simpa using b6, by simpa using b7, by simpa using b8, by simpa using b9⟩) ?_
    clear hK K
    (try simp only [Act.put, List.setIfInBounds_toArray, List.set_cons_zero, List.set_cons_succ])
    iterate 7 ((first | refine plan_quiet_guarded (v := ?_) rfl (fun w' hw' => ?_) ?_ | refine plan_calm_guarded (v := ?_) (tt_of) (fun w' hw' => ?_) ?_); rotate_left; (focus (go_simp <;> (first | with_reducible rfl | (rw [if_neg (by simp [undef])]; try rfl)))); simp only [Act.put, List.setIfInBounds_toArray, List.set_cons_zero, List.set_cons_succ])
    refine plan_loud_guarded (fun K hK => ?_)
    go_simp
    refine hK _ _ (⟨by simpa using a0, by simpa using a1, by simpa using a2, by simpa using a3, by simpa using a4, by simpa using a5, by simpa using a6, by simpa using a7, by simpa using a8, by simpa using a9, by simpa using b0, by simpa using b1, by simpa using b2, by simpa using b3, by simpa using b4, by simpa using b5, by simpa using b6, by simpa using b7, by simpa using b8, by simpa using b9⟩) ?_
    clear hK K
    (try simp only [Act.put, List.setIfInBounds_toArray, List.set_cons_zero, List.set_cons_succ])
    iterate 2 ((first | refine plan_quiet_guarded (v := ?_) rfl (fun w' hw' => ?_) ?_ | refine plan_calm_guarded (v := ?_) (tt_of) (fun w' hw' => ?_) ?_); rotate_left; (focus (go_simp <;> (first | with_reducible rfl | (rw [if_neg (by simp [undef])]; try rfl)))); simp only [Act.put, List.setIfInBounds_toArray, List.set_cons_zero, List.set_cons_succ])
    refine plan_end ?_
    have q5 := hq.drew
    clear a0 b0 a1 b1 a2 b2 a3 b3 a4 b4 a5 b5 a6 b6 a7 b7 a8 b8 a9 b9
    go_wp2_with fail
    go_ret
    exact ⟨by rw [HV.out]; rfl, by first | exact q5 | (rw [← hg]; exact q5)⟩
  rw [decide_eq_true p1] at f1
  by_cases p2 : x.kind = y.kind
  rotate_left
  · have k1 : (x.kind == y.kind) = false := by simpa using p2
    have HV : Hid (res = false) := Lib.hid (by rw [HSE.out, decide_eq_false p2, decide_eq_true p1]; simp)
    clear HSE
    go_upto_region 1 with fail
    refine wp_region_plan (fun W => W.cell? ⟨g, 0, none⟩ = some (.string (bs x.path)) ∧ W.cell? ⟨g, 1, none⟩ = some (.int .i64 x.kind) ∧ W.cell? ⟨g, 2, none⟩ = some (.int .i64 x.mode) ∧ W.cell? ⟨g, 3, none⟩ = some (.int .i64 x.uid) ∧ W.cell? ⟨g, 4, none⟩ = some (.int .i64 x.gid) ∧ W.cell? ⟨g, 5, none⟩ = some (.string (bs x.owner)) ∧ W.cell? ⟨g, 6, none⟩ = some (.string (bs x.group)) ∧ W.cell? ⟨g, 7, none⟩ = some (.int .i64 x.mtime) ∧ W.cell? ⟨g, 8, none⟩ = some (.string (bs x.link)) ∧ W.cell? ⟨g, 9, none⟩ = some (.slice Ax x.data.length cx) ∧ W.cell? ⟨(g + 1), 0, none⟩ = some (.string (bs y.path)) ∧ W.cell? ⟨(g + 1), 1, none⟩ = some (.int .i64 y.kind) ∧ W.cell? ⟨(g + 1), 2, none⟩ = some (.int .i64 y.mode) ∧ W.cell? ⟨(g + 1), 3, none⟩ = some (.int .i64 y.uid) ∧ W.cell? ⟨(g + 1), 4, none⟩ = some (.int .i64 y.gid) ∧ W.cell? ⟨(g + 1), 5, none⟩ = some (.string (bs y.owner)) ∧ W.cell? ⟨(g + 1), 6, none⟩ = some (.string (bs y.group)) ∧ W.cell? ⟨(g + 1), 7, none⟩ = some (.int .i64 y.mtime) ∧ W.cell? ⟨(g + 1), 8, none⟩ = some (.string (bs y.link)) ∧ W.cell? ⟨(g + 1), 9, none⟩ = some (.slice Ay y.data.length cy)) [(false, 0), (false, 1), (false, 2), (false, 3), (false, 4), (false, 5), (false, 6), (false, 7), (false, 8), (false, 9), (false, 10), (false, 11), (false, 12), (false, 13), (false, 14), (false, 15), (false, 16), (false, 17), (false, 18), (false, 19), (false, 20), (false, 22), (true, 21), (true, 23), (false, 24), (false, 25), (false, 26), (false, 27), (false, 28), (false, 29), (false, 30), (true, 31), (false, 32), (false, 33)] (by kernel_rfl) (by kernel_rfl) (⟨by simpa using a0, by simpa using a1, by simpa using a2, by simpa using a3, by simpa using a4, by simpa using a5, by simpa using a6, by simpa using a7, by simpa using a8, by simpa using a9, by simpa using b0, by simpa using b1, by simpa using b2, by simpa using b3, by simpa using b4, by simpa using b5, by simpa using b6, by simpa using b7, by simpa using b8, by simpa using b9⟩) ?_
    simp only [planOps, List.map, List.getD_cons_zero, List.getD_cons_succ]
    iterate 22 ((first | refine plan_quiet_guarded (v := ?_) rfl (fun w' hw' => ?_) ?_ | refine plan_calm_guarded (v := ?_) (tt_of) (fun w' hw' => ?_) ?_); rotate_left; (focus (go_simp <;> (first | with_reducible rfl | (rw [if_neg (by simp [undef])]; try rfl)))); simp only [Act.put, List.setIfInBounds_toArray, List.set_cons_zero, List.set_cons_succ])
    refine plan_loud_guarded (fun K hK => ?_)
    go_simp
    refine hK _ _ (⟨by simpa using a0, by simpa using a1, by simpa using a2, by simpa using a3, by simpa using a4, by simpa using a5, by simpa using a6, by simpa using a7, by simpa using a8, by simpa using a9, by simpa using b0, by simpa using b1, by simpa using b2, by simpa using b3, by simpa using b4, by simpa using b5, by simpa using b6, by simpa using b7, by simpa using b8, by simpa using b9⟩) ?_
    clear hK K
    (try simp only [Act.put, List.setIfInBounds_toArray, List.set_cons_zero, List.set_cons_succ])
    refine plan_loud_guarded (fun K hK => ?_)
    go_simp
    refine hK _ _ (⟨by simpa using a0, by simpa using a1, by simpa using a2, by simpa using a3, by simpa using a4, by simpa using a5, by simpa using a6, by simpa using a7, by simpa using a8, by simpa using a9, by simpa using b0, by simpa using b1, by simpa using b2, by simpa using b3, by simpa using b4, by simpa using b5, by simpa using b6, by simpa using b7, by simpa using b8, by simpa using b9⟩) ?_
    clear hK K
    (try simp only [Act.put, List.setIfInBounds_toArray, List.set_cons_zero, List.set_cons_succ])
    iterate 7 ((first | refine plan_quiet_guarded (v := ?_) rfl (fun w' hw' => ?_) ?_ | refine plan_calm_guarded (v := ?_) (tt_of) (fun w' hw' => ?_) ?_); rotate_left; (focus (go_simp <;> (first | with_reducible rfl | (rw [if_neg (by simp [undef])]; try rfl)))); simp only [Act.put, List.setIfInBounds_toArray, List.set_cons_zero, List.set_cons_succ])
    refine plan_loud_guarded (fun K hK => ?_)
    go_simp
    refine hK _ _ (⟨by simpa using a0, by simpa using a1, by simpa using a2, by simpa using a3, by simpa using a4, by simpa using a5, by simpa using a6, by simpa using a7, by simpa using a8, by simpa using a9, by simpa using b0, by simpa using b1, by simpa using b2, by simpa using b3, by simpa using b4, by simpa using b5, by simpa using b6, by simpa using b7, by simpa using b8, by simpa using b9⟩) ?_
    clear hK K
    (try simp only [Act.put, List.setIfInBounds_toArray, List.set_cons_zero, List.set_cons_succ])
    iterate 2 ((first | refine plan_quiet_guarded (v := ?_) rfl (fun w' hw' => ?_) ?_ | refine plan_calm_guarded (v := ?_) (tt_of) (fun w' hw' => ?_) ?_); rotate_left; (focus (go_simp <;> (first | with_reducible rfl | (rw [if_neg (by simp [undef])]; try rfl)))); simp only [Act.put, List.setIfInBounds_toArray, List.set_cons_zero, List.set_cons_succ])
    refine plan_end ?_
    have q5 := hq.drew
    clear a0 b0 a1 b1 a2 b2 a3 b3 a4 b4 a5 b5 a6 b6 a7 b7 a8 b8 a9 b9
    go_wp2_with fail
    go_ret
    exact ⟨by rw [HV.out]; rfl, by first | exact q5 | (rw [← hg]; exact q5)⟩
  have k1 : (x.kind == y.kind) = true := by simpa using p2
  by_cases p3 : x.link = y.link
  rotate_left
  · rw [decide_eq_false p3] at f2
    have HV : Hid (res = false) := Lib.hid (by rw [HSE.out, decide_eq_false p3, decide_eq_true p2, decide_eq_true p1]; simp)
    clear HSE
    go_upto_region 1 with fail
    refine wp_region_plan (fun W => W.cell? ⟨g, 0, none⟩ = some (.string (bs x.path)) ∧ W.cell? ⟨g, 1, none⟩ = some (.int .i64 x.kind) ∧ W.cell? ⟨g, 2, none⟩ = some (.int .i64 x.mode) ∧ W.cell? ⟨g, 3, none⟩ = some (.int .i64 x.uid) ∧ W.cell? ⟨g, 4, none⟩ = some (.int .i64 x.gid) ∧ W.cell? ⟨g, 5, none⟩ = some (.string (bs x.owner)) ∧ W.cell? ⟨g, 6, none⟩ = some (.string (bs x.group)) ∧ W.cell? ⟨g, 7, none⟩ = some (.int .i64 x.mtime) ∧ W.cell? ⟨g, 8, none⟩ = some (.string (bs x.link)) ∧ W.cell? ⟨g, 9, none⟩ = some (.slice Ax x.data.length cx) ∧ W.cell? ⟨(g + 1), 0, none⟩ = some (.string (bs y.path)) ∧ W.cell? ⟨(g + 1), 1, none⟩ = some (.int .i64 y.kind) ∧ W.cell? ⟨(g + 1), 2, none⟩ = some (.int .i64 y.mode) ∧ W.cell? ⟨(g + 1), 3, none⟩ = some (.int .i64 y.uid) ∧ W.cell? ⟨(g + 1), 4, none⟩ = some (.int .i64 y.gid) ∧ W.cell? ⟨(g + 1), 5, none⟩ = some (.string (bs y.owner)) ∧ W.cell? ⟨(g + 1), 6, none⟩ = some (.string (bs y.group)) ∧ W.cell? ⟨(g + 1), 7, none⟩ = some (.int .i64 y.mtime) ∧ W.cell? ⟨(g + 1), 8, none⟩ = some (.string (bs y.link)) ∧ W.cell? ⟨(g + 1), 9, none⟩ = some (.slice Ay y.data.length cy)) [(false, 0), (false, 1), (false, 2), (false, 3), (false, 4), (false, 5), (false, 6), (false, 7), (false, 8), (false, 9), (false, 10), (false, 11), (false, 12), (false, 13), (false, 14), (false, 15), (false, 16), (false, 17), (false, 18), (false, 19), (false, 20), (false, 22), (true, 21), (true, 23), (false, 24), (false, 25), (false, 26), (false, 27), (false, 28), (false, 29), (false, 30), (true, 31), (false, 32), (false, 33)] (by kernel_rfl) (by kernel_rfl) (⟨by simpa using a0, by simpa using a1, by simpa using a2, by simpa using a3, by simpa using a4, by simpa using a5, by simpa using a6, by simpa using a7, by simpa using a8, by simpa using a9, by simpa using b0, by simpa using b1, by simpa using b2, by simpa using b3, by simpa using b4, by simpa using b5, by simpa using b6, by simpa using b7, by simpa using b8, by simpa using b9⟩) ?_
    simp only [planOps, List.map, List.getD_cons_zero, List.getD_cons_succ]
    iterate 22 ((first | refine plan_quiet_guarded (v := ?_) rfl (fun w' hw' => ?_) ?_ | refine plan_calm_guarded (v := ?_) (tt_of) (fun w' hw' => ?_) ?_); rotate_left; (focus (go_simp <;> (first | with_reducible rfl | (rw [if_neg (by simp [undef])]; try rfl)))); simp only [Act.put, List.setIfInBounds_toArray, List.set_cons_zero, List.set_cons_succ])
    refine plan_loud_guarded (fun K hK => ?_)
    go_simp
    refine hK _ _ (⟨by simpa using a0, by simpa using a1, by simpa using a2, by simpa using a3, by simpa using a4, by simpa using a5, by simpa using a6, by simpa using a7, by simpa using a8, by simpa using a9, by simpa using b0, by simpa using b1, by simpa using b2, by simpa using b3, by simpa using b4, by simpa using b5, by simpa using b6, by simpa using b7, by simpa using b8, by simpa using b9⟩) ?_
    clear hK K
    (try simp only [Act.put, List.setIfInBounds_toArray, List.set_cons_zero, List.set_cons_succ])
    refine plan_loud_guarded (fun K hK => ?_)
    go_simp
    refine hK _ _ (⟨by simpa using a0, by simpa using a1, by simpa using a2, by simpa using a3, by simpa using a4, by simpa using a5, by simpa using a6, by simpa using a7, by simpa using a8, by simpa using a9, by simpa using b0, by simpa using b1, by simpa using b2, by simpa using b3, by simpa using b4, by simpa using b5, by simpa using b6, by simpa using b7, by simpa using b8, by simpa using b9⟩) ?_
    clear hK K
    (try simp only [Act.put, List.setIfInBounds_toArray, List.set_cons_zero, List.set_cons_succ])
    iterate 7 ((first | refine plan_quiet_guarded (v := ?_) rfl (fun w' hw' => ?_) ?_ | refine plan_calm_guarded (v := ?_) (tt_of) (fun w' hw' => ?_) ?_); rotate_left; (focus (go_simp <;> (first | with_reducible rfl | (rw [if_neg (by simp [undef])]; try rfl)))); simp only [Act.put, List.setIfInBounds_toArray, List.set_cons_zero, List.set_cons_succ])
    refine plan_loud_guarded (fun K hK => ?_)
    go_simp
    refine hK _ _ (⟨by simpa using a0, by simpa using a1, by simpa using a2, by simpa using a3, by simpa using a4, by simpa using a5, by simpa using a6, by simpa using a7, by simpa using a8, by simpa using a9, by simpa using b0, by simpa using b1, by simpa using b2, by simpa using b3, by simpa using b4, by simpa using b5, by simpa using b6, by simpa using b7, by simpa using b8, by simpa using b9⟩) ?_
    clear hK K
    (try simp only [Act.put, List.setIfInBounds_toArray, List.set_cons_zero, List.set_cons_succ])
    iterate 2 ((first | refine plan_quiet_guarded (v := ?_) rfl (fun w' hw' => ?_) ?_ | refine plan_calm_guarded (v := ?_) (tt_of) (fun w' hw' => ?_) ?_); rotate_left; (focus (go_simp <;> (first | with_reducible rfl | (rw [if_neg (by simp [undef])]; try rfl)))); simp only [Act.put, List.setIfInBounds_toArray, List.set_cons_zero, List.set_cons_succ])
    refine plan_end ?_
    have q5 := hq.drew
    clear a0 b0 a1 b1 a2 b2 a3 b3 a4 b4 a5 b5 a6 b6 a7 b7 a8 b8 a9 b9
    go_wp2_with fail
    go_ret
    exact ⟨by rw [HV.out]; rfl, by first | exact q5 | (rw [← hg]; exact q5)⟩
  rw [decide_eq_true p3] at f2
  have HSE := Lib.hid (show res = (alikeE x y && decide (x.data = y.data)) by rw [HSE.out, decide_eq_true p1, decide_eq_true p2, decide_eq_true p3]; rfl)
  clear p1 p2 p3
  cases hal : alikeE x y with
  | false =>
    have HV := Lib.hid (show res = false by rw [HSE.out, hal]; rfl)
    clear HSE
    go_upto_region 1 with fail
    refine wp_region_plan (fun W => W.cell? ⟨g, 0, none⟩ = some (.string (bs x.path)) ∧ W.cell? ⟨g, 1, none⟩ = some (.int .i64 x.kind) ∧ W.cell? ⟨g, 2, none⟩ = some (.int .i64 x.mode) ∧ W.cell? ⟨g, 3, none⟩ = some (.int .i64 x.uid) ∧ W.cell? ⟨g, 4, none⟩ = some (.int .i64 x.gid) ∧ W.cell? ⟨g, 5, none⟩ = some (.string (bs x.owner)) ∧ W.cell? ⟨g, 6, none⟩ = some (.string (bs x.group)) ∧ W.cell? ⟨g, 7, none⟩ = some (.int .i64 x.mtime) ∧ W.cell? ⟨g, 8, none⟩ = some (.string (bs x.link)) ∧ W.cell? ⟨g, 9, none⟩ = some (.slice Ax x.data.length cx) ∧ W.cell? ⟨(g + 1), 0, none⟩ = some (.string (bs y.path)) ∧ W.cell? ⟨(g + 1), 1, none⟩ = some (.int .i64 y.kind) ∧ W.cell? ⟨(g + 1), 2, none⟩ = some (.int .i64 y.mode) ∧ W.cell? ⟨(g + 1), 3, none⟩ = some (.int .i64 y.uid) ∧ W.cell? ⟨(g + 1), 4, none⟩ = some (.int .i64 y.gid) ∧ W.cell? ⟨(g + 1), 5, none⟩ = some (.string (bs y.owner)) ∧ W.cell? ⟨(g + 1), 6, none⟩ = some (.string (bs y.group)) ∧ W.cell? ⟨(g + 1), 7, none⟩ = some (.int .i64 y.mtime) ∧ W.cell? ⟨(g + 1), 8, none⟩ = some (.string (bs y.link)) ∧ W.cell? ⟨(g + 1), 9, none⟩ = some (.slice Ay y.data.length cy)) [(false, 0), (false, 1), (false, 2), (false, 3), (false, 4), (false, 5), (false, 6), (false, 7), (false, 8), (false, 9), (false, 10), (false, 11), (false, 12), (false, 13), (false, 14), (false, 15), (false, 16), (false, 17), (false, 18), (false, 19), (false, 20), (false, 22), (true, 21), (true, 23), (false, 24), (false, 25), (false, 26), (false, 27), (false, 28), (false, 29), (false, 30), (true, 31), (false, 32), (false, 33)] (by kernel_rfl) (by kernel_rfl) (⟨by simpa using a0, by simpa using a1, by simpa using a2, by simpa using a3, by simpa using a4, by simpa using a5, by simpa using a6, by simpa using a7, by simpa using a8, by simpa using a9, by simpa using b0, by simpa using b1, by simpa using b2, by simpa using b3, by simpa using b4, by simpa using b5, by simpa using b6, by simpa using b7, by simpa using b8, by simpa using b9⟩) ?_
    simp only [planOps, List.map, List.getD_cons_zero, List.getD_cons_succ]
    iterate 22 ((first | refine plan_quiet_guarded (v := ?_) rfl (fun w' hw' => ?_) ?_ | refine plan_calm_guarded (v := ?_) (tt_of) (fun w' hw' => ?_) ?_); rotate_left; (focus (go_simp <;> (first | with_reducible rfl | (rw [if_neg (by simp [undef])]; try rfl)))); simp only [Act.put, List.setIfInBounds_toArray, List.set_cons_zero, List.set_cons_succ])
    refine plan_loud_guarded (fun K hK => ?_)
    go_simp
    refine (common_any x _ _ _ _ _ rfl).mono ?_
    rintro r W5 ⟨rfl, hb5⟩
    have hb5' : Below W1.heap.size W1 W5 := ((Below.refl _ W1).drew).trans hb5
    have kx := Kept.of_below hb5' nowhere
    refine hK _ _ (⟨kx.cell a0 (fun h => h), kx.cell a1 (fun h => h), kx.cell a2 (fun h => h), kx.cell a3 (fun h => h), kx.cell a4 (fun h => h), kx.cell a5 (fun h => h), kx.cell a6 (fun h => h), kx.cell a7 (fun h => h), kx.cell a8 (fun h => h), kx.cell a9 (fun h => h), kx.cell b0 (fun h => h), kx.cell b1 (fun h => h), kx.cell b2 (fun h => h), kx.cell b3 (fun h => h), kx.cell b4 (fun h => h), kx.cell b5 (fun h => h), kx.cell b6 (fun h => h), kx.cell b7 (fun h => h), kx.cell b8 (fun h => h), kx.cell b9 (fun h => h)⟩) ?_
    clear hK K
    (try simp only [Act.put, List.setIfInBounds_toArray, List.set_cons_zero, List.set_cons_succ])
    refine plan_loud_guarded (fun K hK => ?_)
    have q5 := hq.trans (hb5'.mono hq.size)
    have hdx := Below.sl good_byte hb5' hdx
    have hdy := Below.sl good_byte hb5' hdy
    have a0 := kx.cell a0 (fun h => h)
    have b0 := kx.cell b0 (fun h => h)
    have a1 := kx.cell a1 (fun h => h)
    have b1 := kx.cell b1 (fun h => h)
    have a2 := kx.cell a2 (fun h => h)
    have b2 := kx.cell b2 (fun h => h)
    have a3 := kx.cell a3 (fun h => h)
    have b3 := kx.cell b3 (fun h => h)
    have a4 := kx.cell a4 (fun h => h)
    have b4 := kx.cell b4 (fun h => h)
    have a5 := kx.cell a5 (fun h => h)
    have b5 := kx.cell b5 (fun h => h)
    have a6 := kx.cell a6 (fun h => h)
    have b6 := kx.cell b6 (fun h => h)
    have a7 := kx.cell a7 (fun h => h)
    have b7 := kx.cell b7 (fun h => h)
    have a8 := kx.cell a8 (fun h => h)
    have b8 := kx.cell b8 (fun h => h)
    have a9 := kx.cell a9 (fun h => h)
    have b9 := kx.cell b9 (fun h => h)
    clear kx hb5 hb5' hq
    go_simp
    refine (common_any y _ _ _ _ _ rfl).mono ?_
    rintro r W6 ⟨rfl, hb6⟩
    have kx := Kept.of_below hb6 nowhere
    have hcm : ∀ W : World, (if x.mode = y.mode then if x.uid = y.uid then if x.gid = y.gid then if (bs x.owner).toList = (bs y.owner).toList then if (bs x.group).toList = (bs y.group).toList then if x.mtime = y.mtime then Result.ok (Next.value (Value.bool true)) W else Result.ok (Next.value (Value.bool false)) W else Result.ok (Next.value (Value.bool false)) W else Result.ok (Next.value (Value.bool false)) W else Result.ok (Next.value (Value.bool false)) W else Result.ok (Next.value (Value.bool false)) W else Result.ok (Next.value (Value.bool false)) W) = Result.ok (Next.value (Value.bool false)) W := fun W => by rw [common_eqs, hal]
    have q6 := q5.trans (hb6.mono q5.size)
    have hdx := Below.sl good_byte hb6 hdx
    have hdy := Below.sl good_byte hb6 hdy
    clear hb6 q5
    refine hK _ _ (⟨kx.cell a0 (fun h => h), kx.cell a1 (fun h => h), kx.cell a2 (fun h => h), kx.cell a3 (fun h => h), kx.cell a4 (fun h => h), kx.cell a5 (fun h => h), kx.cell a6 (fun h => h), kx.cell a7 (fun h => h), kx.cell a8 (fun h => h), kx.cell a9 (fun h => h), kx.cell b0 (fun h => h), kx.cell b1 (fun h => h), kx.cell b2 (fun h => h), kx.cell b3 (fun h => h), kx.cell b4 (fun h => h), kx.cell b5 (fun h => h), kx.cell b6 (fun h => h), kx.cell b7 (fun h => h), kx.cell b8 (fun h => h), kx.cell b9 (fun h => h)⟩) ?_
    clear hK K
    (try simp only [Act.put, List.setIfInBounds_toArray, List.set_cons_zero, List.set_cons_succ])
    iterate 7 ((first | refine plan_quiet_guarded (v := ?_) rfl (fun w' hw' => ?_) ?_ | refine plan_calm_guarded (v := ?_) (tt_of) (fun w' hw' => ?_) ?_); rotate_left; (focus (go_simp <;> (first | with_reducible rfl | (rw [if_neg (by simp [undef])]; try rfl)))); simp only [Act.put, List.setIfInBounds_toArray, List.set_cons_zero, List.set_cons_succ])
    refine plan_loud_guarded (fun K hK => ?_)
    clear hcm hal
    have a0 := kx.cell a0 (fun h => h)
    have b0 := kx.cell b0 (fun h => h)
    have a1 := kx.cell a1 (fun h => h)
    have b1 := kx.cell b1 (fun h => h)
    have a2 := kx.cell a2 (fun h => h)
    have b2 := kx.cell b2 (fun h => h)
    have a3 := kx.cell a3 (fun h => h)
    have b3 := kx.cell b3 (fun h => h)
    have a4 := kx.cell a4 (fun h => h)
    have b4 := kx.cell b4 (fun h => h)
    have a5 := kx.cell a5 (fun h => h)
    have b5 := kx.cell b5 (fun h => h)
    have a6 := kx.cell a6 (fun h => h)
    have b6 := kx.cell b6 (fun h => h)
    have a7 := kx.cell a7 (fun h => h)
    have b7 := kx.cell b7 (fun h => h)
    have a8 := kx.cell a8 (fun h => h)
    have b8 := kx.cell b8 (fun h => h)
    have a9 := kx.cell a9 (fun h => h)
    have b9 := kx.cell b9 (fun h => h)
    clear kx
    go_simp
    refine hK _ _ (⟨a0, a1, a2, a3, a4, a5, a6, a7, a8, a9, b0, b1, b2, b3, b4, b5, b6, b7, b8, b9⟩) ?_
    clear hK K
    (try simp only [Act.put, List.setIfInBounds_toArray, List.set_cons_zero, List.set_cons_succ])
    iterate 2 ((first | refine plan_quiet_guarded (v := ?_) rfl (fun w' hw' => ?_) ?_ | refine plan_calm_guarded (v := ?_) (tt_of) (fun w' hw' => ?_) ?_); rotate_left; (focus (go_simp <;> (first | with_reducible rfl | (rw [if_neg (by simp [undef])]; try rfl)))); simp only [Act.put, List.setIfInBounds_toArray, List.set_cons_zero, List.set_cons_succ])
    refine plan_end ?_
    clear a0 b0 a1 b1 a2 b2 a3 b3 a4 b4 a5 b5 a6 b6 a7 b7 a8 b8 a9 b9
    go_wp2_with fail
    go_ret
    exact ⟨by rw [HV.out]; rfl, by first | exact q6 | (rw [← hg]; exact q6)⟩
  | true =>
    have HV := Lib.hid (show res = decide (x.data = y.data) by rw [HSE.out, hal]; rfl)
    clear HSE
    go_upto_region 1 with fail
    refine wp_region_plan (fun W => W.cell? ⟨g, 0, none⟩ = some (.string (bs x.path)) ∧ W.cell? ⟨g, 1, none⟩ = some (.int .i64 x.kind) ∧ W.cell? ⟨g, 2, none⟩ = some (.int .i64 x.mode) ∧ W.cell? ⟨g, 3, none⟩ = some (.int .i64 x.uid) ∧ W.cell? ⟨g, 4, none⟩ = some (.int .i64 x.gid) ∧ W.cell? ⟨g, 5, none⟩ = some (.string (bs x.owner)) ∧ W.cell? ⟨g, 6, none⟩ = some (.string (bs x.group)) ∧ W.cell? ⟨g, 7, none⟩ = some (.int .i64 x.mtime) ∧ W.cell? ⟨g, 8, none⟩ = some (.string (bs x.link)) ∧ W.cell? ⟨g, 9, none⟩ = some (.slice Ax x.data.length cx) ∧ W.cell? ⟨(g + 1), 0, none⟩ = some (.string (bs y.path)) ∧ W.cell? ⟨(g + 1), 1, none⟩ = some (.int .i64 y.kind) ∧ W.cell? ⟨(g + 1), 2, none⟩ = some (.int .i64 y.mode) ∧ W.cell? ⟨(g + 1), 3, none⟩ = some (.int .i64 y.uid) ∧ W.cell? ⟨(g + 1), 4, none⟩ = some (.int .i64 y.gid) ∧ W.cell? ⟨(g + 1), 5, none⟩ = some (.string (bs y.owner)) ∧ W.cell? ⟨(g + 1), 6, none⟩ = some (.string (bs y.group)) ∧ W.cell? ⟨(g + 1), 7, none⟩ = some (.int .i64 y.mtime) ∧ W.cell? ⟨(g + 1), 8, none⟩ = some (.string (bs y.link)) ∧ W.cell? ⟨(g + 1), 9, none⟩ = some (.slice Ay y.data.length cy)) [(false, 0), (false, 1), (false, 2), (false, 3), (false, 4), (false, 5), (false, 6), (false, 7), (false, 8), (false, 9), (false, 10), (false, 11), (false, 12), (false, 13), (false, 14), (false, 15), (false, 16), (false, 17), (false, 18), (false, 19), (false, 20), (false, 22), (true, 21), (true, 23), (false, 24), (false, 25), (false, 26), (false, 27), (false, 28), (false, 29), (false, 30), (true, 31), (false, 32), (false, 33)] (by kernel_rfl) (by kernel_rfl) (⟨by simpa using a0, by simpa using a1, by simpa using a2, by simpa using a3, by simpa using a4, by simpa using a5, by simpa using a6, by simpa using a7, by simpa using a8, by simpa using a9, by simpa using b0, by simpa using b1, by simpa using b2, by simpa using b3, by simpa using b4, by simpa using b5, by simpa using b6, by simpa using b7, by simpa using b8, by simpa using b9⟩) ?_
    simp only [planOps, List.map, List.getD_cons_zero, List.getD_cons_succ]
    iterate 22 ((first | refine plan_quiet_guarded (v := ?_) rfl (fun w' hw' => ?_) ?_ | refine plan_calm_guarded (v := ?_) (tt_of) (fun w' hw' => ?_) ?_); rotate_left; (focus (go_simp <;> (first | with_reducible rfl | (rw [if_neg (by simp [undef])]; try rfl)))); simp only [Act.put, List.setIfInBounds_toArray, List.set_cons_zero, List.set_cons_succ])
    refine plan_loud_guarded (fun K hK => ?_)
    go_simp
    refine (common_any x _ _ _ _ _ rfl).mono ?_
    rintro r W5 ⟨rfl, hb5⟩
    have hb5' : Below W1.heap.size W1 W5 := ((Below.refl _ W1).drew).trans hb5
    have kx := Kept.of_below hb5' nowhere
    refine hK _ _ (⟨kx.cell a0 (fun h => h), kx.cell a1 (fun h => h), kx.cell a2 (fun h => h), kx.cell a3 (fun h => h), kx.cell a4 (fun h => h), kx.cell a5 (fun h => h), kx.cell a6 (fun h => h), kx.cell a7 (fun h => h), kx.cell a8 (fun h => h), kx.cell a9 (fun h => h), kx.cell b0 (fun h => h), kx.cell b1 (fun h => h), kx.cell b2 (fun h => h), kx.cell b3 (fun h => h), kx.cell b4 (fun h => h), kx.cell b5 (fun h => h), kx.cell b6 (fun h => h), kx.cell b7 (fun h => h), kx.cell b8 (fun h => h), kx.cell b9 (fun h => h)⟩) ?_
    clear hK K
    (try simp only [Act.put, List.setIfInBounds_toArray, List.set_cons_zero, List.set_cons_succ])
    refine plan_loud_guarded (fun K hK => ?_)
    have q5 := hq.trans (hb5'.mono hq.size)
    have hdx := Below.sl good_byte hb5' hdx
    have hdy := Below.sl good_byte hb5' hdy
    have a0 := kx.cell a0 (fun h => h)
    have b0 := kx.cell b0 (fun h => h)
    have a1 := kx.cell a1 (fun h => h)
    have b1 := kx.cell b1 (fun h => h)
    have a2 := kx.cell a2 (fun h => h)
    have b2 := kx.cell b2 (fun h => h)
    have a3 := kx.cell a3 (fun h => h)
    have b3 := kx.cell b3 (fun h => h)
    have a4 := kx.cell a4 (fun h => h)
    have b4 := kx.cell b4 (fun h => h)
    have a5 := kx.cell a5 (fun h => h)
    have b5 := kx.cell b5 (fun h => h)
    have a6 := kx.cell a6 (fun h => h)
    have b6 := kx.cell b6 (fun h => h)
    have a7 := kx.cell a7 (fun h => h)
    have b7 := kx.cell b7 (fun h => h)
    have a8 := kx.cell a8 (fun h => h)
    have b8 := kx.cell b8 (fun h => h)
    have a9 := kx.cell a9 (fun h => h)
    have b9 := kx.cell b9 (fun h => h)
    clear kx hb5 hb5' hq
    go_simp
    refine (common_any y _ _ _ _ _ rfl).mono ?_
    rintro r W6 ⟨rfl, hb6⟩
    have kx := Kept.of_below hb6 nowhere
    have hcm : ∀ W : World, (if x.mode = y.mode then if x.uid = y.uid then if x.gid = y.gid then if (bs x.owner).toList = (bs y.owner).toList then if (bs x.group).toList = (bs y.group).toList then if x.mtime = y.mtime then Result.ok (Next.value (Value.bool true)) W else Result.ok (Next.value (Value.bool false)) W else Result.ok (Next.value (Value.bool false)) W else Result.ok (Next.value (Value.bool false)) W else Result.ok (Next.value (Value.bool false)) W else Result.ok (Next.value (Value.bool false)) W else Result.ok (Next.value (Value.bool false)) W) = Result.ok (Next.value (Value.bool true)) W := fun W => by rw [common_eqs, hal]
    have q6 := q5.trans (hb6.mono q5.size)
    have hdx := Below.sl good_byte hb6 hdx
    have hdy := Below.sl good_byte hb6 hdy
    clear hb6 q5
    refine hK _ _ (⟨kx.cell a0 (fun h => h), kx.cell a1 (fun h => h), kx.cell a2 (fun h => h), kx.cell a3 (fun h => h), kx.cell a4 (fun h => h), kx.cell a5 (fun h => h), kx.cell a6 (fun h => h), kx.cell a7 (fun h => h), kx.cell a8 (fun h => h), kx.cell a9 (fun h => h), kx.cell b0 (fun h => h), kx.cell b1 (fun h => h), kx.cell b2 (fun h => h), kx.cell b3 (fun h => h), kx.cell b4 (fun h => h), kx.cell b5 (fun h => h), kx.cell b6 (fun h => h), kx.cell b7 (fun h => h), kx.cell b8 (fun h => h), kx.cell b9 (fun h => h)⟩) ?_
    clear hK K
    (try simp only [Act.put, List.setIfInBounds_toArray, List.set_cons_zero, List.set_cons_succ])
    iterate 7 ((first | refine plan_quiet_guarded (v := ?_) rfl (fun w' hw' => ?_) ?_ | refine plan_calm_guarded (v := ?_) (tt_of) (fun w' hw' => ?_) ?_); rotate_left; (focus (go_simp <;> (first | with_reducible rfl | (rw [if_neg (by simp [undef])]; try rfl)))); simp only [Act.put, List.setIfInBounds_toArray, List.set_cons_zero, List.set_cons_succ])
    refine plan_loud_guarded (fun K hK => ?_)
    clear hcm hal
    have a0 := kx.cell a0 (fun h => h)
    have b0 := kx.cell b0 (fun h => h)
    have a1 := kx.cell a1 (fun h => h)
    have b1 := kx.cell b1 (fun h => h)
    have a2 := kx.cell a2 (fun h => h)
    have b2 := kx.cell b2 (fun h => h)
    have a3 := kx.cell a3 (fun h => h)
    have b3 := kx.cell b3 (fun h => h)
    have a4 := kx.cell a4 (fun h => h)
    have b4 := kx.cell b4 (fun h => h)
    have a5 := kx.cell a5 (fun h => h)
    have b5 := kx.cell b5 (fun h => h)
    have a6 := kx.cell a6 (fun h => h)
    have b6 := kx.cell b6 (fun h => h)
    have a7 := kx.cell a7 (fun h => h)
    have b7 := kx.cell b7 (fun h => h)
    have a8 := kx.cell a8 (fun h => h)
    have b8 := kx.cell b8 (fun h => h)
    have a9 := kx.cell a9 (fun h => h)
    have b9 := kx.cell b9 (fun h => h)
    clear kx
    go_simp
    refine (bequal_any x.data y.data _ _ _ _ _ hdx hdy).mono ?_
    rintro r W7 ⟨rfl, rfl⟩
    rw [← HV.out]
    refine hK _ _ (⟨a0, a1, a2, a3, a4, a5, a6, a7, a8, a9, b0, b1, b2, b3, b4, b5, b6, b7, b8, b9⟩) ?_
    clear hK K
    (try simp only [Act.put, List.setIfInBounds_toArray, List.set_cons_zero, List.set_cons_succ])
    iterate 2 ((first | refine plan_quiet_guarded (v := ?_) rfl (fun w' hw' => ?_) ?_ | refine plan_calm_guarded (v := ?_) (tt_of) (fun w' hw' => ?_) ?_); rotate_left; (focus (go_simp <;> (first | with_reducible rfl | (rw [if_neg (by simp [undef])]; try rfl)))); simp only [Act.put, List.setIfInBounds_toArray, List.set_cons_zero, List.set_cons_succ])
    refine plan_end ?_
    clear a0 b0 a1 b1 a2 b2 a3 b3 a4 b4 a5 b5 a6 b6 a7 b7 a8 b8 a9 b9
    go_wp2_with fail
    go_ret
    exact ⟨rfl, by first | exact q6 | (rw [← hg]; exact q6)⟩
end Go.Proofs.YtjhikglgaoncjaaDoor

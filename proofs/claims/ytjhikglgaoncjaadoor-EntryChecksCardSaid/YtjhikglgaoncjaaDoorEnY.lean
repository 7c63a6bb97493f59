/- The walks of the laws on paths and on what is wrong with entries. -/
import Derived.Test.YtjhikglgaoncjaaDoorEnW
import Derived.Test.YtjhikglgaoncjaaDoorEnU
import Derived.Test.YtjhikglgaoncjaaDoorEnV
namespace Go.Proofs.YtjhikglgaoncjaaDoor
open Go.RowKit
set_option maxRecDepth 20000 in
set_option maxHeartbeats 4000000 in
theorem law_paths (s : List UInt8) (w : World) :
    Calls Tryd.prog 7 #[.string (bs s)] w fun e w' => e = .returned (.bool true) ∧ Below w.heap.size w w' := by
  have hz : ((bs s).size : Int) = (s.length : Int) := by rw [bs_size]
  go_enter Tryd.func7, Tryd.ntmps7
  go_wp2_with fail
  refine (awakeE _).mono ?_
  rintro e w1 ⟨rfl, hb1⟩
  by_cases hs : 2000 < s.length
  · have hd : decide ((2000 : Int) < (s.length : Int)) = true := by simp; omega
    go_wp2_with fail
    go_ret
    exact ⟨rfl, hb1⟩
  · have hd : decide ((2000 : Int) < (s.length : Int)) = false := by simp; omega
    have hs : s.length ≤ 1000000000 := by omega
    go_wp2_with fail
    refine (pparent_any s _ hs).mono ?_
    rintro e w2 ⟨rfl, hb2⟩
    have q2 := below_trans hb1 hb2
    go_wp2_with fail
    refine (rparent_any s _ hs).mono ?_
    rintro e w3 ⟨rfl, hb3⟩
    have q3 := below_trans q2 hb3
    obtain ⟨p, hp⟩ : ∃ p, parL s = p := ⟨_, rfl⟩
    rw [hp]
    obtain ⟨x, y⟩ := p
    have e1 := beq_bs x
    have e2 : (y == y) = true := by simp
    clear hp hb1 hb2 hb3 q2
    go_wp2_with fail
    refine (ppath_any s _ hs).mono ?_
    rintro e w4 ⟨rfl, hb4⟩
    have q4 := below_trans q3 hb4
    go_wp2_with fail
    refine (rpath_any s _ hs).mono ?_
    rintro e w5 ⟨rfl, hb5⟩
    have q5 := below_trans q4 hb5
    obtain ⟨c, hc⟩ : ∃ c, pathOk s = c := ⟨_, rfl⟩
    rw [hc]
    have e3 : (c == c) = true := by simp
    go_wp2_with fail
    go_ret
    exact ⟨rfl, q5⟩
theorem bs_own (s : ByteArray) : s = bs s.data.toList := by simp [bs]
theorem law_pathsB (x : ByteArray) (w : World) (_ : x.size ≤ maxLen) : Calls Tryd.prog 7 #[.string x] w fun e w' => e = .returned (.bool true) ∧ Below w.heap.size w w' := by
  rw [bs_own x]; exact law_paths _ w
theorem pick_or (a b : Bool) : (if a = true then true else b) = (a || b) := by cases a <;> rfl
set_option maxRecDepth 20000 in
set_option maxHeartbeats 8000000 in
theorem law_checks (dv : Value) (e : En) (v : Value) (l : List En) (w : World) (hdv : Sl 1 Rbyte nowhere w dv e.data) (hsl : Sl 10 Rent nowhere w v l) :
    Calls Tryd.prog 3 #[entV e dv, v] w fun r w' => r = .returned (.bool true) ∧ Below w.heap.size w w' := by
  obtain ⟨Ad, capd, rfl, _, _⟩ := hdv.form
  obtain ⟨A, cap, rfl, hc1, hc2⟩ := hsl.form
  simp only [entV]
  go_enter Tryd.func3, Tryd.ntmps3
  go_upto_region 1 with fail
  have bE := Blk.new w tE (entC e (.slice Ad e.data.length capd)).toArray
  have hq : Below w.heap.size w (w.alloc (.cells (entC e (.slice Ad e.data.length capd)).toArray tE)) := (Below.refl _ _).alloc (Nat.le_refl _) _
  have hdv := Below.sl good_byte hq hdv
  have hsl := Below.sl good_ent hq hsl
  rw [entC] at bE hq hdv hsl
  generalize w.alloc (.cells _ tE) = W at bE hq hdv hsl ⊢
  generalize hg : w.heap.size = g at bE hq ⊢
  go_wp2_with fail
  refine (awakeE _).mono ?_
  rintro e w1 ⟨rfl, hb1⟩
  have hdv := Below.sl good_byte hb1 hdv
  have hsl := Below.sl good_ent hb1 hsl
  have bE := bE.below hb1 bE.lt
  have q1 : Below w.heap.size w w1 := by rw [hg]; exact hq.trans (hb1.mono (by rw [← hg]; exact hq.size))
  clear hb1 hq
  go_wp2_with fail
  refine (rlight_any l 60 _ nowhere _ hsl (by omega)).mono ?_
  rintro r w2 ⟨rfl, hb2⟩
  have hdv := Below.sl good_byte hb2 hdv
  have hsl := Below.sl good_ent hb2 hsl
  have bE := bE.below hb2 bE.lt
  have q2 := below_trans q1 hb2
  clear hb2 q1
  have d0 := bE.cell 0
  have d1 := bE.cell 1
  have d2 := bE.cell 2
  have d3 := bE.cell 3
  have d4 := bE.cell 4
  have d5 := bE.cell 5
  have d6 := bE.cell 6
  have d7 := bE.cell 7
  have d8 := bE.cell 8
  have d9 := bE.cell 9
  simp at d0 d1 d2 d3 d4 d5 d6 d7 d8 d9
  cases hL : lightE 60 l with
  | false =>
    go_wp2_with fail
    go_ret
    exact ⟨rfl, q2⟩
  | true =>
    have hLB := Lib.hid (light_lb 60 (by omega) l hL)
    clear hL
    have hW : Hid (Below w2.heap.size w2 (w2.alloc (.cells (entC e (.slice Ad e.data.length capd)).toArray tE)) ∧ Sl 10 Rent nowhere (w2.alloc (.cells (entC e (.slice Ad e.data.length capd)).toArray tE)) (.slice (some ⟨w2.heap.size, 0, none⟩) 1 1) [e]) := by
      have hb : Below w2.heap.size w2 (w2.alloc (.cells (entC e (.slice Ad e.data.length capd)).toArray tE)) := (Below.refl _ _).alloc (Nat.le_refl _) _
      refine Lib.hid ⟨hb, lit_ents [e] (fun _ => .slice Ad e.data.length capd) (by
        have := Blk.new w2 tE (entC e (.slice Ad e.data.length capd)).toArray
        have h2 : ofC [e] (fun _ => .slice Ad e.data.length capd) = entC e (.slice Ad e.data.length capd) := by simp [ofC]
        rw [h2]; exact this) (by simp) (fun h => h) fun j hj => ?_⟩
      match j, hj with
      | 0, _ => exact Below.sl good_byte hb hdv
    have hb3 := hW.out.1
    have hs3 := hW.out.2
    simp only [entC] at hb3 hs3
    clear hW
    go_wp2_with fail
    generalize w2.alloc (.cells _ tE) = W3 at hb3 hs3 ⊢
    refine (rlight_any [e] 1 _ nowhere _ hs3 (by omega)).mono ?_
    rintro r w4 ⟨rfl, hb4⟩
    have hb34 := below_trans hb3 hb4
    have q4 := below_trans q2 hb34
    have hsl := Below.sl good_ent hb34 hsl
    have hdv := Below.sl good_byte hb34 hdv
    have bE := bE.below hb34 bE.lt
    clear hb3 hb4 hs3 hb34 q2 d0 d1 d2 d3 d4 d5 d6 d7 d8 d9
    cases hL : lightE 1 [e] with
    | false =>
      go_wp2_with fail
      go_ret
      exact ⟨rfl, q4⟩
    | true =>
      have hEB := Lib.hid ((light_lb 1 (by omega) [e] hL).2 e (by simp))
      clear hL
      go_wp2_with fail
      refine (pchkall_any l _ nowhere _ hsl hLB.out).mono ?_
      rintro r w5 ⟨rfl, hb5⟩
      have q5 := below_trans q4 hb5
      have hsl := Below.sl good_ent hb5 hsl
      have hdv := Below.sl good_byte hb5 hdv
      have bE := bE.below hb5 bE.lt
      clear hb5 q4
      go_wp2_with fail
      refine (rchkall_any l _ nowhere _ hsl hLB.out).mono ?_
      rintro r w6 ⟨rfl, hb6⟩
      have q6 := below_trans q5 hb6
      have hdv := Below.sl good_byte hb6 hdv
      have bE := bE.below hb6 bE.lt
      obtain ⟨a, c⟩ := chkL l
      clear hb6 q5 hsl hLB
      have d0 := bE.cell 0
      have d1 := bE.cell 1
      have d2 := bE.cell 2
      have d3 := bE.cell 3
      have d4 := bE.cell 4
      have d5 := bE.cell 5
      have d6 := bE.cell 6
      have d7 := bE.cell 7
      have d8 := bE.cell 8
      have d9 := bE.cell 9
      simp at d0 d1 d2 d3 d4 d5 d6 d7 d8 d9
      have ea : (a == a) = true := by simp
      have ec : (c == c) = true := by simp
      go_upto_region 7 with fail
      refine wp_region_plan (fun W => W.cell? ⟨g, 0, none⟩ = some (.string (bs e.path)) ∧ W.cell? ⟨g, 1, none⟩ = some (.int .i64 e.kind) ∧ W.cell? ⟨g, 2, none⟩ = some (.int .i64 e.mode) ∧ W.cell? ⟨g, 3, none⟩ = some (.int .i64 e.uid) ∧ W.cell? ⟨g, 4, none⟩ = some (.int .i64 e.gid) ∧ W.cell? ⟨g, 5, none⟩ = some (.string (bs e.owner)) ∧ W.cell? ⟨g, 6, none⟩ = some (.string (bs e.group)) ∧ W.cell? ⟨g, 7, none⟩ = some (.int .i64 e.mtime) ∧ W.cell? ⟨g, 8, none⟩ = some (.string (bs e.link)) ∧ W.cell? ⟨g, 9, none⟩ = some (.slice Ad e.data.length capd) ∧ Sl 1 Rbyte nowhere W (.slice Ad e.data.length capd) e.data) [(false, 0), (false, 2), (true, 1), (true, 3), (false, 4), (false, 5), (false, 6), (false, 7), (false, 8), (false, 9), (false, 10), (false, 11), (false, 12), (false, 13), (false, 14), (false, 15)] (by kernel_rfl) (by kernel_rfl) (⟨by simpa using d0, by simpa using d1, by simpa using d2, by simpa using d3, by simpa using d4, by simpa using d5, by simpa using d6, by simpa using d7, by simpa using d8, by simpa using d9, Below.sl good_byte ((Below.refl _ _).drew) hdv⟩) ?_
      simp only [planOps, List.map, List.getD_cons_zero, List.getD_cons_succ]
      iterate 2 ((first | refine plan_quiet_guarded (v := ?_) rfl (fun w' hw' => ?_) ?_ | refine plan_calm_guarded (v := ?_) (tt_of) (fun w' hw' => ?_) ?_); rotate_left; (focus (go_simp <;> (first | with_reducible rfl | (rw [if_neg (by simp [undef])]; try rfl)))); simp only [Act.put, List.setIfInBounds_toArray, List.set_cons_zero, List.set_cons_succ])
      refine plan_loud_guarded (fun K hK => ?_)
      go_simp
      refine (pechk_any e _ nowhere _ (Below.sl good_byte ((Below.refl w6.heap.size w6).drew) hdv) hEB.out).mono ?_
      rintro r w7 ⟨rfl, hb7⟩
      have hb67 : Below w6.heap.size w6 w7 := ((Below.refl _ w6).drew).trans hb7
      have bE := bE.below hb67 bE.lt
      have hdv := Below.sl good_byte hb67 hdv
      have q7 := below_trans q6 hb67
      have e0 := bE.cell 0
      have e1 := bE.cell 1
      have e2 := bE.cell 2
      have e3 := bE.cell 3
      have e4 := bE.cell 4
      have e5 := bE.cell 5
      have e6 := bE.cell 6
      have e7 := bE.cell 7
      have e8 := bE.cell 8
      have e9 := bE.cell 9
      simp at e0 e1 e2 e3 e4 e5 e6 e7 e8 e9
      refine hK _ _ (⟨e0, e1, e2, e3, e4, e5, e6, e7, e8, e9, hdv⟩) ?_
      clear hK K
      (try simp only [Act.put, List.setIfInBounds_toArray, List.set_cons_zero, List.set_cons_succ])
      refine plan_loud_guarded (fun K hK => ?_)
      go_simp
      refine (rechk_any e _ nowhere _ hdv hEB.out).mono ?_
      rintro r w8 ⟨rfl, hb8⟩
      have bE := bE.below hb8 bE.lt
      have hdv := Below.sl good_byte hb8 hdv
      have q8 := below_trans q7 hb8
      have f0 := bE.cell 0
      have f1 := bE.cell 1
      have f2 := bE.cell 2
      have f3 := bE.cell 3
      have f4 := bE.cell 4
      have f5 := bE.cell 5
      have f6 := bE.cell 6
      have f7 := bE.cell 7
      have f8 := bE.cell 8
      have f9 := bE.cell 9
      simp at f0 f1 f2 f3 f4 f5 f6 f7 f8 f9
      obtain ⟨z, hz⟩ : ∃ z, chkE e = z := ⟨_, rfl⟩
      rw [hz]
      have ez : (z == z) = true := by simp
      refine hK _ _ (⟨f0, f1, f2, f3, f4, f5, f6, f7, f8, f9, hdv⟩) ?_
      clear hK K
      (try simp only [Act.put, List.setIfInBounds_toArray, List.set_cons_zero, List.set_cons_succ])
      iterate 12 ((first | refine plan_quiet_guarded (v := ?_) rfl (fun w' hw' => ?_) ?_ | refine plan_calm_guarded (v := ?_) (tt_of) (fun w' hw' => ?_) ?_); rotate_left; (focus (go_simp <;> (first | with_reducible rfl | (rw [if_neg (by simp [undef])]; try rfl)))); simp only [Act.put, List.setIfInBounds_toArray, List.set_cons_zero, List.set_cons_succ])
      refine plan_end ?_
      go_wp2_with fail
      go_ret
      exact ⟨rfl, q8⟩
end Go.Proofs.YtjhikglgaoncjaaDoor

/- The walk of the law on comparisons of cores. -/
import Derived.Test.YtdfpdmddiapnmaaDoorVmY
import Derived.Test.YtdfpdmddiapnmaaDoorVmH
import Derived.Test.YtdfpdmddiapnmaaDoorVmQ
namespace Go.Proofs.YtdfpdmddiapnmaaDoor
open Go.RowKit
set_option maxRecDepth 100000 in
set_option maxHeartbeats 8000000 in
theorem law_compares (na : Value) (a : Co) (nb : Value) (b : Co) (w : World) (ha : Sl 1 Rint nowhere w na a.nums) (hb : Sl 1 Rint nowhere w nb b.nums) (h2 : Tab w) (h1 : Words w) (h3 : Pres w) :
    Calls Tryd.prog 5 #[coV a na, coV b nb] w fun e w' => e = .returned (.bool true) ∧ Below w.heap.size w w' := by
  obtain ⟨A, ca, rfl, hc1, hc2⟩ := ha.form
  obtain ⟨B, cb, rfl, hd1, hd2⟩ := hb.form
  unfold maxLen at hc2 hd2
  have t0 := cmp0_w w a b _ _ ha hb
  have v0 : VarV (cmp0 w a b (.slice A a.nums.length ca) (.slice B b.nums.length cb)) := (⟨h1, h2, h3⟩ : VarV w).below (((Below.refl _ _).alloc (Nat.le_refl _) _).alloc (by simp) _)
  show Calls Tryd.prog 5 #[.agg #[.int .i64 a.epoch, .slice A a.nums.length ca, .string (bs a.letter), .string (bs a.pre), .int .i64 a.preNum, .int .i64 a.rev], .agg #[.int .i64 b.epoch, .slice B b.nums.length cb, .string (bs b.letter), .string (bs b.pre), .int .i64 b.preNum, .int .i64 b.rev]] w _
  go_enter Tryd.func5, Tryd.ntmps5
  go_upto_region 1 with fail
  have hW : cmp0 w a b (.slice A a.nums.length ca) (.slice B b.nums.length cb) = (w.alloc (.cells #[.int .i64 a.epoch, .slice A a.nums.length ca, .string (bs a.letter), .string (bs a.pre), .int .i64 a.preNum, .int .i64 a.rev] 30)).alloc (.cells #[.int .i64 b.epoch, .slice B b.nums.length cb, .string (bs b.letter), .string (bs b.pre), .int .i64 b.preNum, .int .i64 b.rev] 30) := rfl
  rw [← hW]
  clear hW
  generalize cmp0 w a b (.slice A a.nums.length ca) (.slice B b.nums.length cb) = w0 at t0 v0 ⊢
  clear ha hb h1 h2 h3
  go_wp2_with fail
  refine (awakeM _ v0).mono ?_
  rintro e w1 ⟨rfl, hb1⟩
  have t1 := t0.keep hb1
  have v1 := v0.below hb1
  clear t0 v0 hb1
  obtain ⟨d0, d1, d2, d3, d4, d5⟩ := t1.ba.cells
  go_wp2_with fail
  refine (vlight_any a _ nowhere _ t1.sa).mono ?_
  rintro e w2 ⟨rfl, hb2⟩
  have t2 := t1.keep hb2
  have v2 := v1.below hb2
  clear t1 v1 hb2 d0 d1 d2 d3 d4 d5
  cases hla : lightC a with
  | false =>
    go_wp2_with fail
    go_ret
    exact ⟨rfl, t2.below⟩
  | true =>
  have hZa := light_z a hla
  clear hla
  obtain ⟨f0, f1, f2, f3, f4, f5⟩ := t2.bb.cells
  go_wp2_with fail
  refine (vlight_any b _ nowhere _ t2.sb).mono ?_
  rintro e w3 ⟨rfl, hb3⟩
  have t3 := t2.keep hb3
  have v3 := v2.below hb3
  clear t2 v2 hb3 f0 f1 f2 f3 f4 f5
  cases hlb : lightC b with
  | false =>
    go_wp2_with fail
    go_ret
    exact ⟨rfl, t3.below⟩
  | true =>
  have hZb := light_z b hlb
  clear hlb
  obtain ⟨d0, d1, d2, d3, d4, d5⟩ := t3.ba.cells
  obtain ⟨f0, f1, f2, f3, f4, f5⟩ := t3.bb.cells
  go_upto_region 5 with fail
  refine wp_region_plan (fun W => W.cell? ⟨w.heap.size, 0, none⟩ = some (.int .i64 a.epoch) ∧ W.cell? ⟨w.heap.size, 1, none⟩ = some (.slice A a.nums.length ca) ∧ W.cell? ⟨w.heap.size, 2, none⟩ = some (.string (bs a.letter)) ∧ W.cell? ⟨w.heap.size, 3, none⟩ = some (.string (bs a.pre)) ∧ W.cell? ⟨w.heap.size, 4, none⟩ = some (.int .i64 a.preNum) ∧ W.cell? ⟨w.heap.size, 5, none⟩ = some (.int .i64 a.rev) ∧ W.cell? ⟨w.heap.size + 1, 0, none⟩ = some (.int .i64 b.epoch) ∧ W.cell? ⟨w.heap.size + 1, 1, none⟩ = some (.slice B b.nums.length cb) ∧ W.cell? ⟨w.heap.size + 1, 2, none⟩ = some (.string (bs b.letter)) ∧ W.cell? ⟨w.heap.size + 1, 3, none⟩ = some (.string (bs b.pre)) ∧ W.cell? ⟨w.heap.size + 1, 4, none⟩ = some (.int .i64 b.preNum) ∧ W.cell? ⟨w.heap.size + 1, 5, none⟩ = some (.int .i64 b.rev)) [(false, 0), (false, 1), (false, 3), (false, 4), (true, 2), (true, 5), (false, 6), (false, 7)] (by kernel_rfl) (by kernel_rfl) (⟨by simpa using d0, by simpa using d1, by simpa using d2, by simpa using d3, by simpa using d4, by simpa using d5, by simpa using f0, by simpa using f1, by simpa using f2, by simpa using f3, by simpa using f4, by simpa using f5⟩) ?_
  simp only [planOps, List.map, List.getD_cons_zero, List.getD_cons_succ]
  iterate 4 ((first | refine plan_quiet (v := ?_) rfl rfl (fun w' hw' => ?_) ?_ | refine plan_calm (v := ?_) (tt_of) rfl (fun w' hw' => ?_) ?_); rotate_left; (focus (go_simp <;> with_reducible rfl)); simp only [Act.put, List.setIfInBounds_toArray, List.set_cons_zero, List.set_cons_succ])
  refine plan_loud rfl (fun K hK => ?_)
  go_simp
  have t3 := t3.drew
  have v3 := v3.below (Below.refl _ _).drew
  refine (vcmp_any a b _ _ _ t3.sa t3.sb hZa hZb v3.tt v3.pp).mono ?_
  rintro e w4 ⟨rfl, hb4⟩
  have t4 := t3.keep hb4
  clear d0 d1 d2 d3 d4 d5 f0 f1 f2 f3 f4 f5 t3 v3 hb4
  obtain ⟨d0, d1, d2, d3, d4, d5⟩ := t4.ba.cells
  obtain ⟨f0, f1, f2, f3, f4, f5⟩ := t4.bb.cells
  refine hK _ _ (⟨d0, d1, d2, d3, d4, d5, f0, f1, f2, f3, f4, f5⟩) ?_
  clear hK K
  (try simp only [Act.put, List.setIfInBounds_toArray, List.set_cons_zero, List.set_cons_succ])
  refine plan_loud rfl (fun K hK => ?_)
  go_simp
  refine (rvcmp_any a b _ _ _ t4.sa t4.sb hZa hZb).mono ?_
  rintro e w5 ⟨rfl, hb5⟩
  have t5 := t4.keep hb5
  clear d0 d1 d2 d3 d4 d5 f0 f1 f2 f3 f4 f5 t4 hb5
  obtain ⟨d0, d1, d2, d3, d4, d5⟩ := t5.ba.cells
  obtain ⟨f0, f1, f2, f3, f4, f5⟩ := t5.bb.cells
  have e1 : (cmpC a b == cmpC a b) = true := by simp
  refine hK _ _ (⟨d0, d1, d2, d3, d4, d5, f0, f1, f2, f3, f4, f5⟩) ?_
  clear hK K
  (try simp only [Act.put, List.setIfInBounds_toArray, List.set_cons_zero, List.set_cons_succ])
  iterate 2 ((first | refine plan_quiet (v := ?_) rfl rfl (fun w' hw' => ?_) ?_ | refine plan_calm (v := ?_) (tt_of) rfl (fun w' hw' => ?_) ?_); rotate_left; (focus (go_simp <;> with_reducible rfl)); simp only [Act.put, List.setIfInBounds_toArray, List.set_cons_zero, List.set_cons_succ])
  refine plan_end ?_
  go_wp2_with fail
  go_ret
  exact ⟨rfl, t5.below⟩
end Go.Proofs.YtdfpdmddiapnmaaDoor

/- The walk of the reference's take. -/
import Derived.Test.YtdfpdmddiapnmaaGreatDoorVmL
namespace Go.Proofs.YtdfpdmddiapnmaaGreatDoor
open Go.RowKit
def got0 (w : World) : World := w.alloc (.cells #[.int .i64 0, .string ⟨#[]⟩, .bool false] 54)
set_option maxRecDepth 100000 in
set_option maxHeartbeats 8000000 in
theorem gtake_any (s : List UInt8) (w : World) (hs : s.length ≤ 1000000) : Calls Tryz.prog 25 #[.string (bs s)] w fun e w' => e = .returned (gotV (takeR s)) ∧ Below w.heap.size w w' := by
  have HT : Hid (takeR s = if udCode (digs s) = 0 ∧ numOk (udN (digs s)) = true then some (udN (digs s), past isDig s) else none) := Lib.hid rfl
  have hb0 : Below w.heap.size w (got0 w) := (Below.refl _ _).alloc (Nat.le_refl _) _
  have hB0 : Blk (got0 w) w.heap.size 54 #[.int .i64 0, .string ⟨#[]⟩, .bool false] := Blk.new w _ _
  have hlt0 : w.heap.size < (got0 w).heap.size := by simp [got0]
  obtain ⟨d, Hd⟩ : ∃ d, Hid (digs s = d) := ⟨_, Lib.hid rfl⟩
  have hdl : d.length ≤ s.length := by rw [← Hd.out]; exact tw_len isDig s
  have hx : (bs s).extract 0 d.length = bs d := by
    rw [ext_take _ _ (by rw [bs_size]; exact hdl), bs_list, ← Hd.out]
    congr 1
    exact take_tw isDig s
  have hy : (bs s).extract d.length s.length = bs (past isDig s) := by
    have := ext_drop (bs s) d.length
    rw [bs_size] at this
    rw [this, ← Hd.out]
    rfl
  have cd := rdigits_any (bs s) (got0 w) (by rw [bs_size]; omega)
  rw [bs_list, show s.takeWhile isDig = d from Hd.out] at cd
  rw [Hd.out] at HT
  have hz := bs_size
  have i1 : (d.length : Int) ≤ (s.length : Int) := by omega
  go_enter Tryz.func25, Tryz.ntmps25
  go_upto_region 1 with fail
  have hW : got0 w = w.alloc (.cells #[.int .i64 0, .string ⟨#[]⟩, .bool false] 54) := rfl
  rw [← hW]
  clear hW
  generalize got0 w = w0 at hb0 hB0 hlt0 cd ⊢
  go_wp2_with fail
  refine cd.mono ?_
  rintro e wq ⟨rfl, rfl⟩
  go_wp2_with fail
  refine (rundec_any (bs d) _ (by rw [bs_size]; omega)).mono ?_
  rw [bs_list]
  rintro e w1 ⟨rfl, hb1⟩
  have hB1 := hB0.below hb1 hlt0
  have hb01 := hb0.trans (hb1.mono (by omega))
  have hlt1 : w.heap.size < w1.heap.size := hB1.lt
  have hbA : Below w.heap.size w (w1.alloc (.cells #[.slice none 0 0, .int .i64 (udN d), .int .i64 (udCode d)] 79)) := hb01.alloc (by omega) _
  have hB2 : Blk (w1.alloc (.cells #[.slice none 0 0, .int .i64 (udN d), .int .i64 (udCode d)] 79)) w.heap.size 54 #[.int .i64 0, .string ⟨#[]⟩, .bool false] := hB1.alloc _
  have hC2 : Blk (w1.alloc (.cells #[.slice none 0 0, .int .i64 (udN d), .int .i64 (udCode d)] 79)) w1.heap.size 79 #[.slice none 0 0, .int .i64 (udN d), .int .i64 (udCode d)] := Blk.new w1 _ _
  clear hB0 hB1 hb0 hb01 hb1 hlt0 cd
  go_upto_region 3 with fail
  generalize (w1.alloc (.cells #[.slice none 0 0, .int .i64 (udN d), .int .i64 (udCode d)] 79)) = w2 at hbA hB2 hC2 ⊢
  generalize w1.heap.size = g at hC2 hlt1 ⊢
  have c1 := hC2.cell 1
  have c2 := hC2.cell 2
  have r0 := hB2.cell 0
  have r1 := hB2.cell 1
  have r2 := hB2.cell 2
  have f0 := hB2.frozen 0
  have f1 := hB2.frozen 1
  have f2 := hB2.frozen 2
  simp at c1 c2 r0 r1 r2
  have bad : ∀ h : takeR s = none, Hid (gotV (takeR s) = .agg #[.int .i64 0, .string ⟨#[]⟩, .bool false]) := fun h => Lib.hid (by rw [h]; rfl)
  by_cases h1 : udCode d = 0
  · have b1 : (udCode d != 0) = false := by rw [h1]; rfl
    cases h2 : numOk (udN d) with
    | false =>
      have HV := bad (by rw [HT.out, if_neg (by rw [h2]; simp)])
      clear bad h1
      go_wp2_with fail
      refine (rnumb_any (udN d) _).mono ?_
      rintro e wq ⟨rfl, rfl⟩
      rw [h2]
      go_wp2_with fail
      have hF := ((hB2.set (u := .int .i64 0) 0).set (u := .string ⟨#[]⟩) 1).set (u := .bool false) 2
      have e0 := hF.cell 0
      have e1 := hF.cell 1
      have e2 := hF.cell 2
      refine bodyPost_ret (v := .agg #[.int .i64 0, .string ⟨#[]⟩, .bool false]) (by simp [results, Tryz.results25, go_sem, e0, e1, e2]) rfl ⟨by rw [HV.out], ?_⟩
      exact (((hbA.setCell (by simp) _).setCell (by simp) _).setCell (by simp) _)
    | true =>
      have HV : Hid (gotV (takeR s) = .agg #[.int .i64 (udN d), .string (bs (past isDig s)), .bool true]) := Lib.hid (by rw [HT.out, if_pos ⟨h1, h2⟩]; rfl)
      clear bad h1
      go_wp2_with fail
      refine (rnumb_any (udN d) _).mono ?_
      rintro e wq ⟨rfl, rfl⟩
      rw [h2]
      go_wp2_with fail
      refine wp_region_plan (fun W => W.cell? ⟨g, 1, none⟩ = some (.int .i64 (udN d)) ∧ W.cell? ⟨w.heap.size, 0, none⟩ = some (.int .i64 0) ∧ W.cell? ⟨w.heap.size, 1, none⟩ = some (.string ⟨#[]⟩) ∧ W.cell? ⟨w.heap.size, 2, none⟩ = some (.bool false)) [(false, 0), (false, 1), (false, 2), (false, 3), (false, 4), (false, 5), (true, 6)] (by kernel_rfl) (by kernel_rfl) (⟨by simpa using c1, by simpa using r0, by simpa using r1, by simpa using r2⟩) ?_
      simp only [planOps, List.map, List.getD_cons_zero, List.getD_cons_succ]
      iterate 6 ((first | refine plan_quiet (v := ?_) rfl rfl (fun w' hw' => ?_) ?_ | refine plan_calm (v := ?_) (tt_of) rfl (fun w' hw' => ?_) ?_); rotate_left; (focus (go_simp <;> with_reducible rfl)); simp only [Act.put, List.setIfInBounds_toArray, List.set_cons_zero, List.set_cons_succ])
      refine plan_last rfl (by kernel_rfl) (by kernel_rfl) (fun K hK => ?_)
      go_simp
      refine hK _ _ (trivial) ?_
      clear hK K
      (try simp only [Act.put, List.setIfInBounds_toArray, List.set_cons_zero, List.set_cons_succ])
      refine plan_end ?_
      go_wp2_with fail
      have hF := (((hB2.set (u := .int .i64 (udN d)) 0).set (u := .string (bs (past isDig s))) 1).set (u := .bool true) 2).drew
      have e0 := hF.cell 0
      have e1 := hF.cell 1
      have e2 := hF.cell 2
      refine bodyPost_ret (v := .agg #[.int .i64 (udN d), .string (bs (past isDig s)), .bool true]) (by simp [results, Tryz.results25, go_sem, e0, e1, e2]) rfl ⟨by rw [HV.out], ?_⟩
      exact (((hbA.setCell (by simp) _).setCell (by simp) _).setCell (by simp) _).drew
  · have b1 : (udCode d != 0) = true := by simpa using h1
    have HV := bad (by rw [HT.out, if_neg (fun h => h1 h.1)])
    clear bad h1
    go_wp2_with fail
    have hF := ((hB2.set (u := .int .i64 0) 0).set (u := .string ⟨#[]⟩) 1).set (u := .bool false) 2
    have e0 := hF.cell 0
    have e1 := hF.cell 1
    have e2 := hF.cell 2
    refine bodyPost_ret (v := .agg #[.int .i64 0, .string ⟨#[]⟩, .bool false]) (by simp [results, Tryz.results25, go_sem, e0, e1, e2]) rfl ⟨by rw [HV.out], ?_⟩
    exact (((hbA.setCell (by simp) _).setCell (by simp) _).setCell (by simp) _)
end Go.Proofs.YtdfpdmddiapnmaaGreatDoor

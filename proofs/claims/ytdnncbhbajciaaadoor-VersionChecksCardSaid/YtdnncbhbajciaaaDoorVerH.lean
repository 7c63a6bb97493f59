/- The walk of version.pieces. -/
import Derived.Test.YtdnncbhbajciaaaDoorVerS
import Derived.Test.YtdnncbhbajciaaaDoorBas2
namespace Go.Proofs.YtdnncbhbajciaaaDoor
open Go.RowKit
/-- The cells of pieces. -/
def pcs (l : List Pc) : List Value := l.flatMap fun p => [.int .i64 p.1, .string (bs p.2.1), .int .i64 p.2.2]
theorem pcs_app (a b : List Pc) : pcs (a ++ b) = pcs a ++ pcs b := by simp [pcs]
theorem pcs_len (l : List Pc) : (pcs l).length = l.length * 3 := by
  induction l with
  | nil => rfl
  | cons a l ih => show (pcs l).length + 3 = _; rw [ih, List.length_cons]; omega
/-- The state of the walk: the row of pieces, what is left. -/
def Took (gl gr base B : Nat) (w : World) (ps : List Pc) (r : List UInt8) (w' : World) : Prop :=
  ∃ v, Blk w' gl 60 #[v] ∧ Blk w' gr 9 #[.string (bs r)] ∧ w'.ownsRow base 73 3 v ps.length (pcs ps) ∧ base ≤ w'.heap.size ∧ Below B w w'
theorem info_piece : (Tryd.prog.info? 73).map (fun i => (i.zero, i.size, i.bytes)) = some (some (.agg #[.int .i64 0, .string ⟨#[]⟩, .int .i64 0]), 3, 32) := by kernel_rfl
set_option maxRecDepth 20000 in
set_option maxHeartbeats 4000000 in
theorem take_any (kind : Int) (n gl gr base B : Nat) (w0 w : World) (ps : List Pc) (r : List UInt8) (hgl : gl < base) (hgr : gr < base) (hne : gl ≠ gr) (hB1 : B ≤ gl) (hB2 : B ≤ gr)
    (hn : n ≤ r.length) (hr : r.length ≤ 1000000000) (hps : ps.length ≤ 1000000000) (h : Took gl gr base B w0 ps r w) :
    Calls Tryd.prog 67 #[.int .i64 kind, .int .i64 (n : Int), .pointer (some ⟨gl, 0, none⟩), .pointer (some ⟨gr, 0, none⟩)] w fun e w' => e = .returned (.tuple #[]) ∧ Took gl gr base B w0 (ps ++ [(kind, r.take n, 0)]) (r.drop n) w' := by
  obtain ⟨v, h1, h2, hown, hbase, hb⟩ := h
  have hz : ((bs r).size : Int) = (r.length : Int) := by rw [bs_size]
  have hi1 : (0 : Int) ≤ (n : Int) := by omega
  have hi2 : (n : Int) ≤ ((bs r).size : Int) := by omega
  have hc1 := h1.cell 0
  have hc2 := h2.cell 0
  simp at hc1 hc2
  have HX : Hid ((bs r).extract 0 n = bs (r.take n)) := Lib.hid (by rw [ext_take _ _ (by rw [bs_size]; omega)]; rfl)
  have HY : Hid ((bs r).extract n (bs r).size = bs (r.drop n)) := Lib.hid (by rw [ext_drop]; rfl)
  clear hz
  go_enter Tryd.func67, Tryd.ntmps67
  go_wp2_with fail
  refine wp_region_plan (fun W => W.cell? ⟨gl, 0, none⟩ = some v ∧ W.cell? ⟨gr, 0, none⟩ = some (.string (bs r))) [(false, 0), (false, 1), (false, 2), (false, 3), (false, 4), (false, 5), (true, 6), (true, 7), (true, 8)] (by kernel_rfl) (by kernel_rfl) (⟨by simpa using hc1, by simpa using hc2⟩) ?_
  simp only [planOps, List.map, List.getD_cons_zero, List.getD_cons_succ]
  iterate 6 ((first | refine plan_quiet (v := ?_) rfl rfl (fun w' hw' => ?_) ?_ | refine plan_calm (v := ?_) (tt_of) rfl (fun w' hw' => ?_) ?_); rotate_left; (focus (go_simp <;> with_reducible rfl)); simp only [Act.put, List.setIfInBounds_toArray, List.set_cons_zero, List.set_cons_succ])
  refine plan_loud rfl (fun K hK => ?_)
  go_simp
  have m1 := ((h1.alloc (.cells #[.int .i64 kind, .string ((bs r).extract 0 n), .int .i64 0] 73)).drew)
  have m2 := ((h2.alloc (.cells #[.int .i64 kind, .string ((bs r).extract 0 n), .int .i64 0] 73)).drew)
  refine hK _ _ (⟨by simpa using m1.cell 0, by simpa using m2.cell 0⟩) ?_
  clear hK K
  (try simp only [Act.put, List.setIfInBounds_toArray, List.set_cons_zero, List.set_cons_succ])
  refine plan_loud rfl (fun K hK => ?_)
  refine wp_append_blk _ _ _ _ _ 3 32 rfl Tryd.underlying60 info_piece rfl (by omega) base v ps.length (pcs ps) rfl (hown.alloc _).drew w.heap.size 1 [.int .i64 kind, .string ((bs r).extract 0 n), .int .i64 0] rfl (Blk.new w 73 #[.int .i64 kind, .string ((bs r).extract 0 n), .int .i64 0]).drew rfl (by simp [Value.oneCell']) (by omega) (by omega) (by simp; omega) ?_
  intro v' w1 hown1 hb1 hg1
  obtain ⟨A1, cap1, rfl⟩ := own_form hown1
  have hw1 : w.heap.size < w1.heap.size := by have := hg1.size; simp at this; omega
  have k1 : Blk w1 gl 60 #[v] := m1.grown hg1 (own_block hown gl hgl)
  have k2 : Blk w1 gr 9 #[.string (bs r)] := m2.grown hg1 (own_block hown gr hgr)
  have c1 := k1.cell 0
  have c2 := k2.cell 0
  have c3 := k1.free 0
  simp at c1 c2
  refine hK _ _ (⟨c1, c2⟩) ?_
  clear hK K
  (try simp only [Act.put, List.setIfInBounds_toArray, List.set_cons_zero, List.set_cons_succ])
  refine plan_last rfl (by kernel_rfl) (by kernel_rfl) (fun K hK => ?_)
  go_simp
  refine hK _ _ (trivial) ?_
  clear hK K
  (try simp only [Act.put, List.setIfInBounds_toArray, List.set_cons_zero, List.set_cons_succ])
  refine plan_end ?_
  have e1 := (k1.set0 (.slice A1 (ps.length + 1) cap1))
  have e2 := (k2.other (a := ⟨gl, 0, none⟩) (.slice A1 (ps.length + 1) cap1) (fun e => hne e.symm))
  have e3 := own_other hown1 (a := ⟨gl, 0, none⟩) (.slice A1 (ps.length + 1) cap1) (own_block hown1 gl hgl)
  have d2 := e2.cell 0
  have d3 := e2.free 0
  simp at d2
  go_wp2_with fail
  go_end0
  refine ⟨rfl, _, e1.other _ hne, by rw [← HY.out]; exact e2.set0 _, ?_, by simp; omega, (((((hb.alloc (by have := hb.size; omega) _).drew).trans (hb1.mono (by omega))).setCell hB1 _).setCell hB2 _)⟩
  have e4 := own_other e3 (a := ⟨gr, 0, none⟩) (.string ((bs r).extract n (bs r).size)) (own_block e3 gr hgr)
  rw [pcs_app, List.length_append]
  rw [HX.out] at e4
  exact e4
end Go.Proofs.YtdnncbhbajciaaaDoor

/- The walk of version.pieces. The walk of version.pieces. The walks of version.Split and version.Check. -/
import Derived.Test.YtjdcegogkafmoaaDoorVerD
import Derived.Test.YtjdcegogkafmoaaDoorBasM
import Derived.Deep.DeepCutAuto
import Derived.Deep.LoopGhost
namespace Go.Proofs.YtjdcegogkafmoaaDoor
open Go.RowKit
/-- The cells of pieces. -/
def pcs (l : List Pc) : List Value := l.flatMap fun p => [.int .i64 p.1, .string (bs p.2.1), .int .i64 p.2.2]
theorem pcs_app (a b : List Pc) : pcs (a ++ b) = pcs a ++ pcs b := by simp [pcs]
theorem pcs_len (l : List Pc) : (pcs l).length = l.length * 3 := by
  induction l with
  | nil => rfl
  | cons a l ih => show (pcs l).length + 3 = _; rw [ih, List.length_cons]; omega
/-- The state of the walk: the row of pieces, what is left. -/
def Took (gl gr base B : Nat) (w : World) (ps : List Pc) (r : List UInt8) (w' : World) : Prop :=
  ∃ v, Blk w' gl 82 #[v] ∧ Blk w' gr 9 #[.string (bs r)] ∧ w'.ownsRow base 94 3 v ps.length (pcs ps) ∧ base ≤ w'.heap.size ∧ Below B w w'
theorem info_piece : (Tryd.prog.info? 94).map (fun i => (i.zero, i.size, i.bytes)) = some (some (.agg #[.int .i64 0, .string ⟨#[]⟩, .int .i64 0]), 3, 32) := by kernel_rfl
set_option maxRecDepth 20000 in
set_option maxHeartbeats 4000000 in
theorem take_any (kind : Int) (n gl gr base B : Nat) (w0 w : World) (ps : List Pc) (r : List UInt8) (hgl : gl < base) (hgr : gr < base) (hne : gl ≠ gr) (hB1 : B ≤ gl) (hB2 : B ≤ gr)
    (hn : n ≤ r.length) (hr : r.length ≤ 1000000000) (hps : ps.length ≤ 1000000000) (h : Took gl gr base B w0 ps r w) :
    Calls Tryd.prog 61 #[.int .i64 kind, .int .i64 (n : Int), .pointer (some ⟨gl, 0, none⟩), .pointer (some ⟨gr, 0, none⟩)] w fun e w' => e = .returned (.tuple #[]) ∧ Took gl gr base B w0 (ps ++ [(kind, r.take n, 0)]) (r.drop n) w' := by
  obtain ⟨v, h1, h2, hown, hbase, hb⟩ := h
  have hz : ((bs r).size : Int) = (r.length : Int) := by rw [bs_size]
  have hi1 : (0 : Int) ≤ (n : Int) := by omega
  have hi2 : (n : Int) ≤ ((bs r).size : Int) := by omega
  have hc1 := h1.cell 0
  have hc2 := h2.cell 0
  simp at hc1 hc2
  have HX : Hid ((bs r).extract 0 n = bs (r.take n)) := Lib.hid (by rw [ext_take _ _ (by rw [bs_size]; omega)]; rfl)
  have HY : Hid ((bs r).extract n (bs r).size = bs (r.drop n)) := Lib.hid (by rw [ext_drop]; rfl)
  clear hz
  go_enter Tryd.func61, Tryd.ntmps61
  go_wp2_with fail
  refine wp_region_plan (fun W => W.cell? ⟨gl, 0, none⟩ = some v ∧ W.cell? ⟨gr, 0, none⟩ = some (.string (bs r))) [(false, 0), (false, 1), (false, 2), (false, 3), (false, 4), (false, 5), (true, 6), (true, 7), (true, 8)] (by kernel_rfl) (by kernel_rfl) (⟨by simpa using hc1, by simpa using hc2⟩) ?_
  simp only [planOps, List.map, List.getD_cons_zero, List.getD_cons_succ]
  iterate 6 ((first | refine plan_quiet (v := ?_) rfl rfl (fun w' hw' => ?_) ?_ | refine plan_calm (v := ?_) (tt_of) rfl (fun w' hw' => ?_) ?_); rotate_left; (focus (go_simp <;> (first | with_reducible rfl | (rw [if_neg (by simp [undef])]; try rfl) | omega))); simp only [Act.put, List.setIfInBounds_toArray, List.set_cons_zero, List.set_cons_succ])
  refine plan_loud rfl (fun K hK => ?_)
  go_simp
  have m1 := ((h1.alloc (.cells #[.int .i64 kind, .string ((bs r).extract 0 n), .int .i64 0] 94)).drew)
  have m2 := ((h2.alloc (.cells #[.int .i64 kind, .string ((bs r).extract 0 n), .int .i64 0] 94)).drew)
  refine hK _ _ (⟨by simpa using m1.cell 0, by simpa using m2.cell 0⟩) ?_
  clear hK K
  (try simp only [Act.put, List.setIfInBounds_toArray, List.set_cons_zero, List.set_cons_succ])
  refine plan_loud rfl (fun K hK => ?_)
  refine wp_append_blk _ _ _ _ _ 3 32 rfl Tryd.underlying82 info_piece rfl (by omega) base v ps.length (pcs ps) rfl (hown.alloc _).drew w.heap.size 1 [.int .i64 kind, .string ((bs r).extract 0 n), .int .i64 0] rfl (Blk.new w 94 #[.int .i64 kind, .string ((bs r).extract 0 n), .int .i64 0]).drew rfl (by simp [Value.oneCell']) (by omega) (by omega) (by simp; omega) ?_
  intro v' w1 hown1 hb1 hg1
  obtain ⟨A1, cap1, rfl⟩ := own_form hown1
  have hw1 : w.heap.size < w1.heap.size := by have := hg1.size; simp at this; omega
  have k1 : Blk w1 gl 82 #[v] := m1.grown hg1 (own_block hown gl hgl)
  have k2 : Blk w1 gr 9 #[.string (bs r)] := m2.grown hg1 (own_block hown gr hgr)
  have c1 := k1.cell 0
  have c2 := k2.cell 0
  have c3 := k1.free 0
  simp at c1 c2
  refine hK _ _ (⟨c1, c2⟩) ?_
  clear hK K
  (try simp only [Act.put, List.setIfInBounds_toArray, List.set_cons_zero, List.set_cons_succ])
  refine plan_last rfl (by kernel_rfl) (by kernel_rfl) (fun K hK => ?_)
  go_simp
  refine hK _ _ (trivial) ?_
  clear hK K
  (try simp only [Act.put, List.setIfInBounds_toArray, List.set_cons_zero, List.set_cons_succ])
  refine plan_end ?_
  have e1 := (k1.set0 (.slice A1 (ps.length + 1) cap1))
  have e2 := (k2.other (a := ⟨gl, 0, none⟩) (.slice A1 (ps.length + 1) cap1) (fun e => hne e.symm))
  have e3 := own_other hown1 (a := ⟨gl, 0, none⟩) (.slice A1 (ps.length + 1) cap1) (own_block hown1 gl hgl)
  have d2 := e2.cell 0
  have d3 := e2.free 0
  simp at d2
  go_wp2_with fail
  go_end0
  refine ⟨rfl, _, e1.other _ hne, by rw [← HY.out]; exact e2.set0 _, ?_, by simp; omega, (((((hb.alloc (by have := hb.size; omega) _).drew).trans (hb1.mono (by omega))).setCell hB1 _).setCell hB2 _)⟩
  have e4 := own_other e3 (a := ⟨gr, 0, none⟩) (.string ((bs r).extract n (bs r).size)) (own_block e3 gr hgr)
  rw [pcs_app, List.length_append]
  rw [HX.out] at e4
  exact e4
end Go.Proofs.YtjdcegogkafmoaaDoor
namespace Go.Proofs.YtjdcegogkafmoaaDoor
open Go.RowKit
/-- strings.CutPrefix at one byte. -/
theorem cpre_yes (c : UInt8) (t : List UInt8) (w : World) : Calls Tryd.prog 63 #[.string (bs (c :: t)), .string ⟨#[c]⟩] w fun e w' => e = .returned (.tuple #[.string (bs t), .bool true]) ∧ w = w' :=
  (Tryd.strings_CutPrefix _ _ w).mono fun e w' ⟨h1, h2⟩ => ⟨by simpa [Lib.trimPrefix, Lib.hasPrefix, bs_list, bs] using h1, h2.symm⟩
theorem cpre_no (c : UInt8) (q : List UInt8) (h : ∀ t, q ≠ c :: t) (w : World) : Calls Tryd.prog 63 #[.string (bs q), .string ⟨#[c]⟩] w fun e w' => e = .returned (.tuple #[.string (bs q), .bool false]) ∧ w = w' :=
  (Tryd.strings_CutPrefix _ _ w).mono fun e w' ⟨h1, h2⟩ => ⟨by
    have hf : Lib.hasPrefix q [c] = false := by
      cases q with
      | nil => rfl
      | cons d t =>
        have : ¬ c = d := fun e => h t (by rw [e])
        simp [Lib.hasPrefix, List.isPrefixOf, this]
    rw [h1, bs_list, show (ByteArray.mk #[c]).data.toList = [c] from rfl, Lib.trimPrefix, hf]
    rfl, h2.symm⟩
theorem hpre_any (c : UInt8) (q : List UInt8) (w : World) : Calls Tryd.prog 65 #[.string (bs q), .string ⟨#[c]⟩] w fun e w' => e = .returned (.bool (hasB q c)) ∧ w = w' :=
  (Tryd.strings_HasPrefix _ _ w).mono fun e w' ⟨h1, h2⟩ => ⟨by
    rw [h1, bs_list, show (ByteArray.mk #[c]).data.toList = [c] from rfl]
    cases q with
    | nil => rfl
    | cons d t =>
      by_cases hc : c = d
      · subst hc; simp [Lib.hasPrefix, List.isPrefixOf, hasB]
      · have : ¬ d = c := fun e => hc e.symm
        simp [Lib.hasPrefix, List.isPrefixOf, hasB, hc, this], h2.symm⟩
theorem run_dig (q : List UInt8) (w : World) (hq : q.length ≤ 1000000000) : Calls Tryd.prog 62 #[.string (bs q), .func (.func 59) #[] #[]] w fun e w' => e = .returned (.int .i64 ((digs q).length : Int)) ∧ w = w' :=
  run_any (bs q) 59 #[] isDig _ (by rw [bs_size]; omega) (enters Tryd.func59 (by kernel_rfl) (by kernel_rfl)) (fun c => digit_any c _)
theorem run_small (q : List UInt8) (w : World) (hq : q.length ≤ 1000000000) : Calls Tryd.prog 62 #[.string (bs q), .func (.func 64) #[] #[]] w fun e w' => e = .returned (.int .i64 ((smalls q).length : Int)) ∧ w = w' :=
  run_any (bs q) 64 #[] isSmall _ (by rw [bs_size]; omega) (enters Tryd.func64 (by kernel_rfl) (by kernel_rfl)) (fun c => small_any c _)
def signB (q : List UInt8) : Bool := match q with
  | [] => false
  | c :: _ => isSmall c
theorem sign_len (q : List UInt8) (acc : List Pc) : (signP q acc).2.length + (signP q acc).1.length ≤ q.length + acc.length := by
  unfold signP
  split
  · split
    · simp; omega
    · exact Nat.le_refl _
  · exact Nat.le_refl _
/-- Does a text begin with -r? -/
def dashR : List UInt8 → Bool
  | 45 :: 114 :: _ => true
  | _ => false
theorem cpre2 (q : List UInt8) (w : World) : Calls Tryd.prog 63 #[.string (bs q), .string ⟨#[45, 114]⟩] w fun e w' => e = .returned (.tuple #[.string (bs (if dashR q = true then q.drop 2 else q)), .bool (dashR q)]) ∧ w = w' :=
  (Tryd.strings_CutPrefix _ _ w).mono fun e w' ⟨h1, h2⟩ => ⟨by
    have hf : Lib.hasPrefix q [45, 114] = dashR q := by
      match q with
      | [] => rfl
      | [a] => simp [Lib.hasPrefix, List.isPrefixOf, dashR]
      | a :: b :: t =>
        by_cases h1 : a = 45
        · subst h1
          by_cases h2 : b = 114
          · subst h2; simp [Lib.hasPrefix, List.isPrefixOf, dashR]
          · have : ¬ 114 = b := fun e => h2 e.symm
            simp [Lib.hasPrefix, List.isPrefixOf, dashR, this, h2]
        · have : ¬ 45 = a := fun e => h1 e.symm
          simp [Lib.hasPrefix, List.isPrefixOf, dashR, this, h1]
    rw [h1, bs_list, show (ByteArray.mk #[45, 114]).data.toList = [45, 114] from rfl, Lib.trimPrefix, hf]
    rfl, h2.symm⟩
theorem revT_dash (q : List UInt8) : revT q = if (dashR q && numB (q.drop 2)) = true then some (q.drop 2) else none := by
  match q with
  | [] => rfl
  | [a] => 
    unfold revT dashR
    simp
  | a :: b :: t =>
    by_cases h1 : a = 45
    · subst h1
      by_cases h2 : b = 114
      · subst h2; simp [revT, dashR]
      · simp [revT, dashR, h2]
    · simp [revT, dashR, h1]
theorem apkEnd_no (l : List UInt8) (b : List Pc) (q : List UInt8) (h : (dashR q && numB (q.drop 2)) = false) : apkEnd l (some (b, q)) = if q = [] then some (b ++ [(1, [], 0)], l.take (l.length - q.length), []) else none := by
  rw [apkEnd]
  by_cases h0 : q = []
  · subst h0
    rw [if_pos rfl, if_pos rfl]
    simp
  · rw [if_neg h0, if_neg h0, revT_dash, h]
    rfl
theorem apkEnd_yes (l : List UInt8) (b : List Pc) (q : List UInt8) (h : (dashR q && numB (q.drop 2)) = true) : apkEnd l (some (b, q)) = some (b ++ [(2, q.drop 2, 0)] ++ [(1, [], 0)], l.take (l.length - q.length), q.drop 2) := by
  rw [apkEnd]
  have h0 : ¬ q = [] := fun e => by subst e; cases h
  rw [if_neg h0, revT_dash, if_pos h]
  simp
/-- What pieces gives. -/
def PiecesR (w : World) (x : Option (List Pc × List UInt8 × List UInt8)) (e : Ending) (w' : World) : Prop :=
  ∃ v p r, e = .returned (.tuple #[v, .string p, .string r, .bool x.isSome]) ∧ (∀ ps a b, x = some (ps, a, b) → p = bs a ∧ r = bs b ∧ w'.ownsRow (w.heap.size + 2) 94 3 v ps.length (pcs ps)) ∧ Below w.heap.size w w'
theorem took_cell {gl gr base B : Nat} {w0 w : World} {ps : List Pc} {r : List UInt8} (h : Took gl gr base B w0 ps r w) : w.cell? ⟨gr, 0, none⟩ = some (.string (bs r)) := by
  obtain ⟨v, _, h2, _⟩ := h
  simpa using h2.cell 0
theorem took_cellL {gl gr base B : Nat} {w0 w : World} {ps : List Pc} {r : List UInt8} (h : Took gl gr base B w0 ps r w) : ∃ v, w.cell? ⟨gl, 0, none⟩ = some v ∧ w.frozen? ⟨gl, 0, none⟩ = false ∧ w.frozen? ⟨gr, 0, none⟩ = false := by
  obtain ⟨v, h1, h2, _⟩ := h
  exact ⟨v, by simpa using h1.cell 0, h1.free 0, h2.free 0⟩
theorem took_nil {gl gr base B : Nat} {w0 w : World} {ps : List Pc} {r : List UInt8} (h : Took gl gr base B w0 ps r w) (x : Value) : (w.setCell ⟨gl, 0, none⟩ x).cell? ⟨gl, 0, none⟩ = some x := by
  obtain ⟨v, h1, _⟩ := h
  simpa using (h1.set0 x).cell 0
/-- The last piece's word is set. -/
theorem took_last {gl gr base B : Nat} {w0 w : World} {ps : List Pc} {k x : Int} {s r : List UInt8} (h : Took gl gr base B w0 (ps ++ [(k, s, x)]) r w) (hgl : gl < base) (hgr : gr < base) (hB : B ≤ base) (wd : Int) :
    ∃ g cap, w.cell? ⟨gl, 0, none⟩ = some (.slice (some ⟨g, 0, none⟩) (ps.length + 1) cap) ∧ (∃ u, w.cell? ⟨g, ps.length * 3 + 2, none⟩ = some u) ∧ w.frozen? ⟨g, ps.length * 3 + 2, none⟩ = false ∧ Took gl gr base B w0 (ps ++ [(k, s, wd)]) r (w.setCell ⟨g, ps.length * 3 + 2, none⟩ (.int .i64 wd)) := by
  obtain ⟨v, h1, h2, h3, h4, h5⟩ := h
  rw [List.length_append, List.length_singleton] at h3
  obtain ⟨g, cap, rfl, hg1, hg2, hg3, hg4⟩ := own_at h3 (by omega)
  have hl : (pcs (ps ++ [(k, s, x)])).length = ps.length * 3 + 3 := by rw [pcs_len, List.length_append, List.length_singleton]; omega
  refine ⟨g, cap, by simpa using h1.cell 0, ?_, h3.frozenAt _, ?_⟩
  · rw [h3.cellAt _ (by omega)]
    exact ⟨_, List.getElem?_eq_getElem (by rw [hl]; omega)⟩
  · refine ⟨_, h1.other _ (by show gl ≠ g; omega), h2.other _ (by show gr ≠ g; omega), ?_, by simpa using h4, h5.setCell (by show B ≤ g; omega) _⟩
    have := (h3.stored (ps.length * 3 + 2) (.int .i64 wd)).1
    rw [List.length_append, List.length_singleton]
    have e : (pcs (ps ++ [(k, s, x)])).set (ps.length * 3 + 2) (.int .i64 wd) = pcs (ps ++ [(k, s, wd)]) := by
      rw [pcs_app, pcs_app, List.set_append, if_neg (by rw [pcs_len]; omega), pcs_len, show ps.length * 3 + 2 - ps.length * 3 = 2 by omega]
      rfl
    rw [e] at this
    exact this
theorem took_rest {gl gr base B : Nat} {w0 w : World} {ps : List Pc} {r : List UInt8} (h : Took gl gr base B w0 ps r w) (hne : gl ≠ gr) (hgr : gr < base) (hB : B ≤ gr) (q : List UInt8) : Took gl gr base B w0 ps q (w.setCell ⟨gr, 0, none⟩ (.string (bs q))) := by
  obtain ⟨v, h1, h2, h3, h4, h5⟩ := h
  exact ⟨v, h1.other _ hne, h2.set0 _, own_other h3 _ (own_block h3 gr hgr), by simpa using h4, h5.setCell hB _⟩
set_option maxRecDepth 20000 in
set_option maxHeartbeats 8000000 in
theorem pieces_any (l : List UInt8) (w : World) (hl : l.length ≤ 1000000) (hw : Words w) :
    Calls Tryd.prog 49 #[.string (bs l)] w (PiecesR w (apkP l)) := by
  have hm := hmf
  go_enter Tryd.func49, Tryd.ntmps49
  go_wp2_with fail
  go_loopg [4, 8] l.length (fun g s4 s8 wr => ∃ r acc kd, s4 = .string ⟨#[]⟩ ∧ s8 = .int .i64 kd ∧ Took w.heap.size (w.heap.size + 1) (w.heap.size + 2) w.heap.size w acc r wr ∧ g = r.length ∧ r.length + acc.length ≤ l.length ∧ Hid (numsP 7 l [] = numsP kd r acc))
  case atStart => 
    have b1 := Blk.new w 82 #[.slice none 0 0]
    refine ⟨l, [], 7, rfl, rfl, ⟨.slice none 0 0, b1.alloc _, ?_, World.ownsRow_nil _ _ _ _, by simp, ((Below.refl _ _).alloc (Nat.le_refl _) _).alloc (by simp) _⟩, rfl, by simp, Lib.hid rfl⟩
    have := Blk.new (w.alloc (.cells #[.slice none 0 0] 82)) 9 #[.string (bs l)]
    simpa using this
  case round =>
    obtain ⟨r, acc, kd, rfl, rfl, hT, rfl, hsz, HE⟩ := hrel
    have hc := took_cell hT
    go_wp2_with fail
    refine (run_dig r _ (by omega)).mono ?_
    rintro e wq ⟨rfl, rfl⟩
    by_cases h0 : digs r = []
    · obtain ⟨v, hv1, hv2, hv3⟩ := took_cellL hT
      have Hno : Hid (apkP l = none) := Lib.hid (by rw [apkP, HE.out, nums_none kd r acc h0])
      rw [h0]
      go_wp2_with fail
      have hv4 : (wr.setCell ⟨w.heap.size, 0, none⟩ (.slice none 0 0)).cell? ⟨w.heap.size, 0, none⟩ = some (.slice none 0 0) := took_nil hT _
      refine bodyPost_ret (v := .tuple #[.slice none 0 0, .string ⟨#[]⟩, .string ⟨#[]⟩, .bool false]) (by simp [results, Tryd.results49, go_sem, hv4]) rfl ?_
      refine ⟨_, _, _, by rw [Hno.out]; rfl, fun ps a b h => by (rw [Hno.out] at h; cases h), ?_⟩
      obtain ⟨_, _, _, _, _, h5⟩ := hT
      exact h5.setCell (Nat.le_refl _) _
    · have hd0 : (((digs r).length : Int) == 0) = false := by
        have : 0 < (digs r).length := List.length_pos_iff.2 h0
        simp; omega
      have hdl : (digs r).length ≤ r.length := (List.takeWhile_sublist _).length_le
      go_wp2_with fail
      refine (take_any kd (digs r).length w.heap.size (w.heap.size + 1) (w.heap.size + 2) w.heap.size w _ acc r (by omega) (by omega) (by omega) (by omega) (by omega) hdl (by omega) (by omega) hT).mono ?_
      rintro e w1 ⟨rfl, hT1⟩
      rw [show r.take (digs r).length = digs r from take_tw isDig r] at hT1
      have hT1 : Took w.heap.size (w.heap.size + 1) (w.heap.size + 2) w.heap.size w (acc ++ [(kd, digs r, 0)]) (past isDig r) w1 := hT1
      obtain ⟨q, hq⟩ : ∃ q, past isDig r = q := ⟨_, rfl⟩
      have hql : q.length + (digs r).length ≤ r.length := by rw [← hq]; unfold past digs; rw [List.length_drop]; have := hdl; unfold digs at this; omega
      have hdp : 0 < (digs r).length := List.length_pos_iff.2 h0
      have HN := Lib.hid h0
      rw [hq] at hT1
      have HQ := Lib.hid hq
      have hc1 := took_cell hT1
      obtain ⟨v1, hv1, hv2, hv3⟩ := took_cellL hT1
      clear hq h0 hc hT
      by_cases hdot : ∃ t, q = 46 :: t
      · obtain ⟨t, rfl⟩ := hdot
        rw [List.length_cons] at hql
        go_wp2_with fail
        refine (cpre_yes 46 t _).mono ?_
        rintro e wq ⟨rfl, rfl⟩
        go_wp2_with fail
        go_roundg t.length
        case measure => omega
        case rel => exact ⟨t, acc ++ [(kd, digs r, 0)], 6, rfl, rfl, took_rest hT1 (by omega) (by omega) (by omega) t, rfl, by rw [List.length_append]; simp; omega, Lib.hid (HE.out.trans (nums_dot kd r t acc HN.out HQ.out))⟩
      · have hnd : ∀ t, q ≠ 46 :: t := fun t e => hdot ⟨t, e⟩
        have HE2 : Hid (numsP 7 l [] = some (acc ++ [(kd, digs r, 0)], q)) := Lib.hid (by rw [HE.out, nums_end kd r acc HN.out (by rw [HQ.out]; exact hnd), HQ.out])
        obtain ⟨acc2, HA2⟩ : ∃ a2, Hid (a2 = acc ++ [(kd, digs r, 0)]) := ⟨_, Lib.hid rfl⟩
        have hl2 : q.length + acc2.length ≤ l.length := by rw [HA2.out, List.length_append]; simp; omega
        rw [← HA2.out] at hT1 HE2
        clear hdot HA2
        go_wp2_with fail
        refine (cpre_no 46 q hnd _).mono ?_
        rintro e wq ⟨rfl, rfl⟩
        clear hnd HE HN HQ hdl hd0 hdp hql hsz
        go_upto_region 12 with fail
        go_cut [42] (fun s42 wx => s42 = .bool (signB q) ∧ w1 = wx)
        case first =>
          cases q with
          | nil =>
            have hn1 : (bs []).toList = [] := toList_bs []
            have hn2 : (bs []).toList.isEmpty = true := by rw [toList_bs]; rfl
            go_wp2_with fail
            go_meet
            exact ⟨rfl, rfl⟩
          | cons c t =>
            have hi2 : (0 : Int) < ((bs (c :: t)).size : Int) := by rw [bs_size]; simp
            have hne2 : ¬ (bs (c :: t)).toList = [] := by rw [toList_bs]; simp
            have hne : (bs (c :: t)).toList.isEmpty = false := by rw [toList_bs]; rfl
            go_wp2_with fail
            refine (small_any (bs (c :: t))[0] _).mono ?_
            rintro e wq ⟨rfl, rfl⟩
            rw [show isSmall (bs (c :: t))[0] = isSmall c from rfl]
            go_wp2_with fail
            go_meet
            exact ⟨rfl, rfl⟩
        case rest =>
          obtain ⟨rfl, rfl⟩ := hcut
          go_upto_if 42 with fail
          go_cut [] (fun wx => Took w.heap.size (w.heap.size + 1) (w.heap.size + 2) w.heap.size w (signP q acc2).1 (signP q acc2).2 wx)
          case first =>
            cases hs : signB q with
            | false =>
              go_wp2_with fail
              go_meet
              cases q with
              | nil => exact hT1
              | cons c t =>
                rw [signP, if_neg (by rw [show isSmall c = signB (c :: t) from rfl, hs]; simp)]
                exact hT1
            | true =>
              cases q with
              | nil => cases hs
              | cons c t =>
                go_wp2_with fail
                refine (take_any 5 1 w.heap.size (w.heap.size + 1) (w.heap.size + 2) w.heap.size w _ acc2 (c :: t) (by omega) (by omega) (by omega) (by omega) (by omega) (by simp) (by omega) (by omega) hT1).mono ?_
                rintro e w2 ⟨rfl, hT2⟩
                go_wp2_with fail
                go_meet
                rw [signP, if_pos (by rw [show isSmall c = signB (c :: t) from rfl, hs])]
                exact hT2
          case rest =>
            clear hT1 hc1 hv1 hv2 hv3
            obtain ⟨q3, Hq3⟩ : ∃ x, Hid (x = (signP q acc2).2) := ⟨_, Lib.hid rfl⟩
            obtain ⟨a3, Ha3⟩ : ∃ x, Hid (x = (signP q acc2).1) := ⟨_, Lib.hid rfl⟩
            rw [← Hq3.out, ← Ha3.out] at hcut
            have hl3 : q3.length + a3.length ≤ l.length := by rw [Hq3.out, Ha3.out]; have := sign_len q acc2; omega
            have HE3 : Hid (apkP l = apkEnd l (wordsP q3 a3)) := Lib.hid (by rw [apkP, HE2.out, Hq3.out, Ha3.out])
            clear Hq3 Ha3 HE2 hl2
            go_wp2_with fail
            go_loopg [4] q3.length (fun g s4 wx => ∃ r2 acc3, s4 = .string ⟨#[]⟩ ∧ Took w.heap.size (w.heap.size + 1) (w.heap.size + 2) w.heap.size w acc3 r2 wx ∧ g = r2.length ∧ 2 * r2.length + acc3.length ≤ 2 * l.length ∧ r2.length ≤ l.length ∧ Hid (apkP l = apkEnd l (wordsP r2 acc3)))
            case atStart => exact ⟨q3, a3, rfl, hcut, rfl, by omega, by omega, HE3⟩
            case round =>
              clear hcut HE3 hl3
              obtain ⟨r2, acc3, rfl, hT, rfl, hsz, hrl, HE⟩ := hrel
              have hc := took_cell hT
              obtain ⟨v1, hv1, hv2, hv3⟩ := took_cellL hT
              by_cases hd : ∃ t, r2 = 95 :: t
              · obtain ⟨t, rfl⟩ := hd
                rw [List.length_cons] at hsz hrl
                go_wp2_with fail
                refine (hpre_any 95 (95 :: t) _).mono ?_
                rintro e wq ⟨rfl, rfl⟩
                rw [show hasB (95 :: t) 95 = true from rfl]
                have HX : Hid ((bs (95 :: t)).extract 1 (bs (95 :: t)).size = bs t) := Lib.hid (by rw [ext_drop]; rfl)
                have hz : ((bs (95 :: t)).size : Int) = (t.length : Int) + 1 := by rw [bs_size]; simp
                have hi1 : (1 : Int) ≤ ((bs (95 :: t)).size : Int) := by omega
                clear hz
                go_wp2_with fail
                rw [HX.out]
                have hT2 := took_rest hT (by omega) (by omega) (by omega) t
                generalize wr.setCell ⟨w.heap.size + 1, 0, none⟩ (.string (bs t)) = w2 at hT2 ⊢
                clear hc hv1 hv2 hv3 hi1 HX hT
                have hc := took_cell hT2
                obtain ⟨v1, hv1, hv2, hv3⟩ := took_cellL hT2
                refine (run_small t _ (by omega)).mono ?_
                rintro e wq ⟨rfl, rfl⟩
                have hsl : (smalls t).length ≤ t.length := (List.takeWhile_sublist _).length_le
                have HX : Hid ((bs t).extract 0 (smalls t).length = bs (smalls t)) := Lib.hid (by rw [ext_take _ _ (by rw [bs_size]; omega), bs_list, show t.take (smalls t).length = smalls t from take_tw isSmall t])
                have hz : ((bs t).size : Int) = (t.length : Int) := by rw [bs_size]
                have hi1 : (0 : Int) ≤ ((smalls t).length : Int) := by omega
                have hi2 : ((smalls t).length : Int) ≤ ((bs t).size : Int) := by omega
                clear hz
                go_wp2_with fail
                rw [HX.out]
                have hw2 : Words w2 := hw.below (by obtain ⟨_, _, _, _, _, h5⟩ := hT2; exact h5)
                refine (wordAt_any (smalls t) _ hw2).mono ?_
                rintro e wq ⟨rfl, rfl⟩
                obtain ⟨wd, Hwd⟩ : ∃ x, Hid (wordI (smalls t) = x) := ⟨_, Lib.hid rfl⟩
                rw [Hwd.out]
                clear HX hi1 hi2 hw2
                by_cases hneg : wd < 0
                · have Hno : Hid (apkP l = none) := Lib.hid (by rw [HE.out, words_none t acc3 (by rw [Hwd.out]; exact hneg)]; rfl)
                  go_wp2_with fail
                  have hv4 : (w2.setCell ⟨w.heap.size, 0, none⟩ (.slice none 0 0)).cell? ⟨w.heap.size, 0, none⟩ = some (.slice none 0 0) := took_nil hT2 _
                  refine bodyPost_ret (v := .tuple #[.slice none 0 0, .string ⟨#[]⟩, .string ⟨#[]⟩, .bool false]) (by simp [results, Tryd.results49, go_sem, hv4]) rfl ?_
                  refine ⟨_, _, _, by rw [Hno.out]; rfl, fun ps a b h => by (rw [Hno.out] at h; cases h), ?_⟩
                  obtain ⟨_, _, _, _, _, h5⟩ := hT2
                  exact h5.setCell (Nat.le_refl _) _
                · have hge : 0 ≤ wd := by omega
                  have HE2 : Hid (apkP l = apkEnd l (wordsP (past isDig (past isSmall t)) (wAcc (past isSmall t) (acc3 ++ [(wKind wd, smalls t, wd)])))) := Lib.hid (by rw [HE.out, words_next t acc3 (by rw [Hwd.out]; exact hneg), Hwd.out])
                  clear HE Hwd
                  go_upto_if 58 with fail
                  go_cut [14] (fun s14 wx => s14 = .int .i64 (wKind wd) ∧ w2 = wx)
                  case first =>
                    by_cases h4 : 4 ≤ wd
                    · go_wp2_with fail
                      go_meet
                      exact ⟨by rw [wKind, if_pos h4], rfl⟩
                    · go_wp2_with fail
                      go_meet
                      exact ⟨by rw [wKind, if_neg (by omega)], rfl⟩
                  case rest =>
                    obtain ⟨rfl, rfl⟩ := hcut
                    go_wp2_with fail
                    refine (take_any (wKind wd) (smalls t).length w.heap.size (w.heap.size + 1) (w.heap.size + 2) w.heap.size w _ acc3 t (by omega) (by omega) (by omega) (by omega) (by omega) hsl (by omega) (by omega) hT2).mono ?_
                    rintro e w3 ⟨rfl, hT3⟩
                    rw [show t.take (smalls t).length = smalls t from take_tw isSmall t] at hT3
                    have hT3 : Took w.heap.size (w.heap.size + 1) (w.heap.size + 2) w.heap.size w (acc3 ++ [(wKind wd, smalls t, 0)]) (past isSmall t) w3 := hT3
                    clear hc hv1 hv2 hv3
                    obtain ⟨g, cap, hg1, ⟨ug, hg2⟩, hg3, hg4⟩ := took_last hT3 (by omega) (by omega) (by omega) wd
                    have hlen : (((acc3.length + 1 : Nat) : Int) - 1) = (acc3.length : Int) := by omega
                    have hc3 := took_cell hT3
                    go_wp2_with fail
                    generalize w3.setCell ⟨g, acc3.length * 3 + 2, none⟩ (.int .i64 wd) = w4 at hg4 ⊢
                    clear hc3 hT3 hg1 hg2 hg3 hlen
                    have hpl := past_len isSmall t
                    obtain ⟨u, Hu⟩ : ∃ u, Hid (u = past isSmall t) := ⟨_, Lib.hid rfl⟩
                    rw [← Hu.out] at hg4 HE2 hpl
                    rw [← Hu.out]
                    have hc := took_cell hg4
                    refine (run_dig u _ (by omega)).mono ?_
                    rintro e wq ⟨rfl, rfl⟩
                    have hdl : (digs u).length ≤ u.length := (List.takeWhile_sublist _).length_le
                    have hpl2 : (past isDig u).length ≤ u.length := past_len isDig u
                    by_cases h0 : digs u = []
                    · rw [h0]
                      have HN := Lib.hid h0
                      have HP : Hid (past isDig u = u) := Lib.hid (by rw [past, show u.takeWhile isDig = [] from h0]; rfl)
                      clear h0
                      go_wp2_with fail
                      go_roundg u.length
                      case measure => simp; omega
                      case rel => exact ⟨u, acc3 ++ [(wKind wd, smalls t, wd)], rfl, hg4, rfl, by simp; omega, by omega, Lib.hid (by rw [HE2.out, HP.out, wAcc, if_pos HN.out])⟩
                    · have hdp : 0 < (digs u).length := List.length_pos_iff.2 h0
                      have hd0 : decide (0 < ((digs u).length : Int)) = true := by simp; omega
                      have HN := Lib.hid h0
                      clear h0
                      go_wp2_with fail
                      refine (take_any 3 (digs u).length w.heap.size (w.heap.size + 1) (w.heap.size + 2) w.heap.size w _ (acc3 ++ [(wKind wd, smalls t, wd)]) u (by omega) (by omega) (by omega) (by omega) (by omega) hdl (by omega) (by simp; omega) hg4).mono ?_
                      rintro e w5 ⟨rfl, hT5⟩
                      rw [show u.take (digs u).length = digs u from take_tw isDig u] at hT5
                      go_wp2_with fail
                      go_roundg (past isDig u).length
                      case measure => simp; omega
                      case rel => exact ⟨past isDig u, acc3 ++ [(wKind wd, smalls t, wd)] ++ [(3, digs u, 0)], rfl, hT5, rfl, by simp; omega, by omega, Lib.hid (by rw [HE2.out, wAcc, if_neg HN.out])⟩
              · have hnd : ∀ t, r2 ≠ 95 :: t := fun t e => hd ⟨t, e⟩
                have hb : hasB r2 95 = false := by
                  cases r2 with
                  | nil => rfl
                  | cons c t => simp only [hasB, decide_eq_false_iff_not]; exact fun e => hnd t (by rw [e])
                have HE2 : Hid (apkP l = apkEnd l (some (acc3, r2))) := Lib.hid (by rw [HE.out, words_end r2 acc3 hnd])
                clear hd hnd HE
                go_wp2_with fail
                refine (hpre_any 95 r2 _).mono ?_
                rintro e wq ⟨rfl, rfl⟩
                rw [hb]
                have HX : Hid ((bs l).extract 0 (l.length - r2.length) = bs (l.take (l.length - r2.length))) := Lib.hid (by rw [ext_take _ _ (by rw [bs_size]; omega)]; rfl)
                have hz1 : ((bs l).size : Int) = (l.length : Int) := by rw [bs_size]
                have hz2 : ((bs r2).size : Int) = (r2.length : Int) := by rw [bs_size]
                have hi5 : (0 : Int) ≤ ((bs l).size : Int) - ((bs r2).size : Int) := by omega
                have hi6 : ((bs l).size : Int) - ((bs r2).size : Int) ≤ ((bs l).size : Int) := by omega
                have hi7 : (((bs l).size : Int) - ((bs r2).size : Int)).toNat = l.length - r2.length := by omega
                go_wp2_with fail
                clear hz1 hz2 hi5 hi6 hi7
                refine (cpre2 r2 _).mono ?_
                rintro e wq ⟨rfl, rfl⟩
                go_upto_region 30 with fail
                go_cut [16, 17, 93] (fun s16 s17 s93 wx => ∃ tl, s16 = .string (bs tl) ∧ Hid (dashR r2 = true → tl = r2.drop 2) ∧ s93 = .bool (dashR r2 && numB (r2.drop 2)) ∧ wr = wx)
                case first =>
                  cases hr : dashR r2 with
                  | false =>
                    go_wp2_with fail
                    go_meet
                    exact ⟨_, rfl, Lib.hid (fun h => by rw [hr] at h; cases h), by rw [hr]; rfl, rfl⟩
                  | true =>
                    rw [if_pos rfl]
                    go_wp2_with fail
                    refine (number_any (bs (r2.drop 2)) _ (by rw [bs_size, List.length_drop]; omega)).mono ?_
                    rintro e wq ⟨rfl, rfl⟩
                    rw [bs_list]
                    go_wp2_with fail
                    go_meet
                    exact ⟨_, rfl, Lib.hid (fun h => rfl), by rw [hr]; rfl, rfl⟩
                case rest =>
                  obtain ⟨tl, rfl, HT, rfl, rfl⟩ := hcut
                  go_upto_if 93 with fail
                  go_cut [4, 16, 17] (fun s4 s16 s17 wx => ∃ rv ps rest, s4 = .string (bs rv) ∧ Took w.heap.size (w.heap.size + 1) (w.heap.size + 2) w.heap.size w ps rest wx ∧ ps.length ≤ acc3.length + 1 ∧ Hid (apkP l = if rest = [] then some (ps ++ [(1, [], 0)], l.take (l.length - r2.length), rv) else none))
                  case first =>
                    cases hr : dashR r2 && numB (r2.drop 2) with
                    | false =>
                      go_wp2_with fail
                      go_meet
                      exact ⟨[], acc3, r2, rfl, hT, by omega, Lib.hid (by rw [HE2.out]; exact apkEnd_no l acc3 r2 hr)⟩
                    | true =>
                      have Hyes : Hid (apkP l = some (acc3 ++ [(2, tl, 0)] ++ [(1, [], 0)], l.take (l.length - r2.length), tl)) := Lib.hid (by
                        have hr2 := hr
                        rw [Bool.and_eq_true] at hr2
                        rw [HE2.out, HT.out hr2.1]
                        exact apkEnd_yes l acc3 r2 hr)
                      have htl : tl.length ≤ l.length := by
                        have hr2 := hr
                        rw [Bool.and_eq_true] at hr2
                        rw [HT.out hr2.1, List.length_drop]; omega
                      clear hr HT
                      have hT2 := took_rest hT (by omega) (by omega) (by omega) tl
                      have hz : ((bs tl).size : Int) = (tl.length : Int) := by rw [bs_size]
                      go_wp2_with fail
                      refine (take_any 2 tl.length w.heap.size (w.heap.size + 1) (w.heap.size + 2) w.heap.size w _ acc3 tl (by omega) (by omega) (by omega) (by omega) (by omega) (Nat.le_refl _) (by omega) (by omega) hT2).mono ?_
                      rintro e w3 ⟨rfl, hT3⟩
                      rw [List.take_length, List.drop_length] at hT3
                      go_wp2_with fail
                      go_meet
                      exact ⟨tl, _, [], rfl, hT3, by simp, Lib.hid (by rw [Hyes.out, if_pos rfl])⟩
                  case rest =>
                    clear hT hc hv1 hv2 hv3 HE2 HT
                    obtain ⟨rv, ps, rest, rfl, hT, hpsl, HE⟩ := hcut
                    rw [HX.out]
                    clear HX
                    obtain ⟨v, h1, h2, hown, hbase, hbw⟩ := hT
                    have hc1 := h1.cell 0
                    have hc2 := h2.cell 0
                    simp at hc1 hc2
                    go_wp2_with fail
                    refine wp_region_plan2 (wkD [106, 107]) (fun W => W.cell? ⟨w.heap.size, 0, none⟩ = some v ∧ W.cell? ⟨w.heap.size + 1, 0, none⟩ = some (.string (bs rest))) (fun W => W.cell? ⟨w.heap.size + 1, 0, none⟩ = some (.string (bs rest))) (fun _ h => h.2) [(false, 0), (false, 1), (false, 4), (false, 5), (false, 6), (false, 7), (true, 2), (true, 3), (true, 8), (false, 9), (false, 10), (false, 11)] (by kernel_rfl) (by kernel_rfl) (⟨by simpa using hc1, by simpa using hc2⟩) ?_
                    simp only [planOps, List.map, List.getD_cons_zero, List.getD_cons_succ]
                    iterate 6 ((first | refine plan_quiet (v := ?_) rfl rfl (fun w' hw' => ?_) ?_ | refine plan_calm (v := ?_) (fun _ h => h.2) rfl (fun w' hw' => ?_) ?_); rotate_left; (focus (go_simp <;> (first | with_reducible rfl | (rw [if_neg (by simp [undef])]; try rfl) | omega))); simp only [Act.put, List.setIfInBounds_toArray, List.set_cons_zero, List.set_cons_succ])
                    refine plan_loud rfl (fun K hK => ?_)
                    go_simp
                    have m1 := ((h1.alloc (.cells #[.int .i64 1, .string ⟨#[]⟩, .int .i64 0] 94)).drew)
                    have m2 := ((h2.alloc (.cells #[.int .i64 1, .string ⟨#[]⟩, .int .i64 0] 94)).drew)
                    refine hK _ _ (⟨by simpa using m1.cell 0, by simpa using m2.cell 0⟩) ?_
                    clear hK K
                    (try simp only [Act.put, List.setIfInBounds_toArray, List.set_cons_zero, List.set_cons_succ])
                    refine plan_loud rfl (fun K hK => ?_)
                    refine wp_append_blk _ _ _ _ _ 3 32 rfl Tryd.underlying82 info_piece rfl (by omega) (w.heap.size + 2) v ps.length (pcs ps) rfl (hown.alloc _).drew wc.heap.size 1 [.int .i64 1, .string ⟨#[]⟩, .int .i64 0] rfl (Blk.new wc 94 #[.int .i64 1, .string ⟨#[]⟩, .int .i64 0]).drew rfl (by simp [Value.oneCell']) (by omega) (by omega) (by simp; omega) ?_
                    intro v' w1 hown1 hb1 hg1
                    obtain ⟨A1, cap1, rfl⟩ := own_form hown1
                    have k1 : Blk w1 w.heap.size 82 #[v] := m1.grown hg1 (own_block hown w.heap.size (by omega))
                    have k2 : Blk w1 (w.heap.size + 1) 9 #[.string (bs rest)] := m2.grown hg1 (own_block hown _ (by omega))
                    have c1 := k1.cell 0
                    have c2 := k2.cell 0
                    have c3 := k1.free 0
                    simp at c1 c2
                    refine hK _ _ (⟨c1, c2⟩) ?_
                    clear hK K
                    (try simp only [Act.put, List.setIfInBounds_toArray, List.set_cons_zero, List.set_cons_succ])
                    refine plan_last rfl (by kernel_rfl) (by kernel_rfl) (fun K hK => ?_)
                    go_simp
                    have e1 := (k1.set0 (.slice A1 (ps.length + 1) cap1))
                    have e2 := (k2.other (a := ⟨w.heap.size, 0, none⟩) (.slice A1 (ps.length + 1) cap1) (by simp))
                    have e3 := own_other hown1 (a := ⟨w.heap.size, 0, none⟩) (.slice A1 (ps.length + 1) cap1) (own_block hown1 w.heap.size (by omega))
                    have d1 := e1.cell 0
                    have d2 := e2.cell 0
                    simp at d1 d2
                    refine hK _ _ (d2) ?_
                    clear hK K
                    (try simp only [Act.put, List.setIfInBounds_toArray, List.set_cons_zero, List.set_cons_succ])
                    iterate 3 ((first | refine plan_quiet (v := ?_) rfl rfl (fun w' hw' => ?_) ?_ | refine plan_calm (v := ?_) (fun _ h => h.2) rfl (fun w' hw' => ?_) ?_); rotate_left; (focus (go_simp <;> (first | with_reducible rfl | (rw [if_neg (by simp [undef])]; try rfl) | omega))); simp only [Act.put, List.setIfInBounds_toArray, List.set_cons_zero, List.set_cons_succ])
                    refine plan_end ?_
                    have hb2 := (((((hbw.alloc (by have := hbw.size; omega) (.cells #[.int .i64 1, .string ⟨#[]⟩, .int .i64 0] 94)).drew).trans (hb1.mono (by omega))).setCell (p := ⟨w.heap.size, 0, none⟩) (by simp) (.slice A1 (ps.length + 1) cap1)))
                    go_wp2_with fail
                    refine bodyPost_ret (v := .tuple #[.slice A1 (ps.length + 1) cap1, .string (bs (l.take (l.length - r2.length))), .string (bs rv), .bool (bs rest).toList.isEmpty]) (by simp [results, Tryd.results49, go_sem, d1]) rfl ?_
                    rw [toList_bs]
                    have hsome : (apkP l).isSome = rest.isEmpty := by rw [HE.out]; cases rest <;> rfl
                    refine ⟨_, _, _, by rw [hsome], fun qs a b h => ?_, hb2⟩
                    rw [HE.out] at h
                    cases rest with
                    | cons => cases h
                    | nil =>
                      rw [if_pos rfl] at h
                      simp only [Option.some.injEq, Prod.mk.injEq] at h
                      obtain ⟨rfl, rfl, rfl⟩ := h
                      refine ⟨rfl, rfl, ?_⟩
                      rw [pcs_app, List.length_append]
                      exact e3
end Go.Proofs.YtjdcegogkafmoaaDoor
namespace Go.Proofs.YtjdcegogkafmoaaDoor
open Go.RowKit
def vOk (f : Int) (l : List UInt8) : Bool := if f = 1 then dOk l else if f = 2 then rOk l else (apkP l).isSome
def apkT (l : List UInt8) : List UInt8 × List UInt8 × List UInt8 := match apkP l with
  | some (_, p, r) => ([], p, r)
  | none => ([], [], [])
def vPart (f : Int) (l : List UInt8) : List UInt8 × List UInt8 × List UInt8 :=
  if f = 1 then (dEp l, dPr (dRest l), dRev (dRest l)) else if f = 2 then (dEp l, cutA (dRest l) 45, cutB (dRest l) 45) else apkT l
/-- What is wrong with a version: the error's number. -/
def vErr (f : Int) (l : List UInt8) : Int := if f = 1 ∨ f = 2 ∨ f = 3 then (if 64 < l.length then 4 else if vOk f l = true then 0 else 3) else 9
def vSplit (f : Int) (l : List UInt8) : List UInt8 × List UInt8 × List UInt8 := if vErr f l = 0 then vPart f l else ([], [], [])
def GivesSplit (w : World) (f : Int) (l : List UInt8) (e : Ending) (w' : World) : Prop :=
  e = .returned (.tuple #[.string (bs (vSplit f l).1), .string (bs (vSplit f l).2.1), .string (bs (vSplit f l).2.2), .int .i64 (vErr f l)]) ∧ Below w.heap.size w w'
theorem vOk1 (l : List UInt8) : vOk 1 l = dOk l := rfl
theorem vOk2 (l : List UInt8) : vOk 2 l = rOk l := rfl
theorem vOk3 (l : List UInt8) : vOk 3 l = (apkP l).isSome := rfl
theorem vPart3 (l : List UInt8) : vPart 3 l = apkT l := rfl
theorem gives_bad (w : World) (f : Int) (l : List UInt8) (n : Int) (h : vErr f l = n) (h0 : n ≠ 0) {w' : World} (hb : Below w.heap.size w w') :
    GivesSplit w f l (.returned (.tuple #[.string ⟨#[]⟩, .string ⟨#[]⟩, .string ⟨#[]⟩, .int .i64 n])) w' := by
  refine ⟨?_, hb⟩
  rw [vSplit, h, if_neg h0]
  rfl
theorem gives_ok (w : World) (f : Int) (l : List UInt8) (h : vErr f l = 0) {x y z : ByteArray} (hx : x = bs (vPart f l).1) (hy : y = bs (vPart f l).2.1) (hz : z = bs (vPart f l).2.2) {w' : World} (hb : Below w.heap.size w w') :
    GivesSplit w f l (.returned (.tuple #[.string x, .string y, .string z, .int .i64 0])) w' := by
  refine ⟨?_, hb⟩
  rw [vSplit, h, if_pos rfl, hx, hy, hz]
set_option maxRecDepth 20000 in
set_option maxHeartbeats 4000000 in
theorem split_any (f : Int) (l : List UInt8) (w : World) (hl : l.length ≤ 1000000) (hw : Words w) :
    Calls Tryd.prog 44 #[.int .i64 f, .string (bs l)] w (GivesSplit w f l) := by
  have hz : ((bs l).size : Int) = (l.length : Int) := by rw [bs_size]
  by_cases h123 : f = 1 ∨ f = 2 ∨ f = 3
  · by_cases hlong : 64 < l.length
    · have hd : decide ((64 : Int) < ((bs l).size : Int)) = true := by rw [hz]; simp; omega
      have HE : Hid (vErr f l = 4) := Lib.hid (by rw [vErr, if_pos h123, if_pos hlong])
      clear hz
      rcases h123 with rfl | rfl | rfl
      all_goals
        go_enter Tryd.func44, Tryd.ntmps44
        go_wp2_with fail
        (try simp only [Exit.inBlock, Exit.then])
        refine bodyPost_ret (results4 rfl _ _ _) rfl ?_
        exact gives_bad w _ l 4 HE.out (by decide) (Below.refl _ _)
    · have hd : decide ((64 : Int) < ((bs l).size : Int)) = false := by rw [hz]; simp; omega
      have HE : Hid (vErr f l = if vOk f l = true then 0 else 3) := Lib.hid (by rw [vErr, if_pos h123, if_neg hlong])
      clear hz
      rcases h123 with rfl | rfl | rfl
      · go_enter Tryd.func44, Tryd.ntmps44
        go_wp2_with fail
        refine (splitDpkg_any (bs l) _ (by rw [bs_size]; omega)).mono ?_
        rintro e w1 ⟨x, y, z, rfl, hxyz, hb⟩
        rw [bs_list] at hxyz ⊢
        have HH := Lib.hid hxyz
        clear hxyz
        cases hok : dOk l with
        | false =>
          go_wp2_with fail
          (try simp only [Exit.inBlock, Exit.then])
          refine bodyPost_ret (results4 rfl _ _ _) rfl ?_
          exact gives_bad w _ l 3 (by rw [HE.out, vOk1, hok]; rfl) (by decide) hb
        | true =>
          go_wp2_with fail
          (try simp only [Exit.inBlock, Exit.then])
          refine bodyPost_ret (results4 rfl _ _ _) rfl ?_
          obtain ⟨rfl, rfl, rfl⟩ := HH.out hok
          exact gives_ok w 1 l (by rw [HE.out, vOk1, hok]; rfl) rfl rfl rfl hb
      · go_enter Tryd.func44, Tryd.ntmps44
        go_wp2_with fail
        refine (splitRpm_any (bs l) _ (by rw [bs_size]; omega)).mono ?_
        rintro e w1 ⟨x, y, z, rfl, hxyz, hb⟩
        rw [bs_list] at hxyz ⊢
        have HH := Lib.hid hxyz
        clear hxyz
        cases hok : rOk l with
        | false =>
          go_wp2_with fail
          (try simp only [Exit.inBlock, Exit.then])
          refine bodyPost_ret (results4 rfl _ _ _) rfl ?_
          exact gives_bad w _ l 3 (by rw [HE.out, vOk2, hok]; rfl) (by decide) hb
        | true =>
          go_wp2_with fail
          (try simp only [Exit.inBlock, Exit.then])
          refine bodyPost_ret (results4 rfl _ _ _) rfl ?_
          obtain ⟨rfl, rfl, rfl⟩ := HH.out hok
          exact gives_ok w 2 l (by rw [HE.out, vOk2, hok]; rfl) rfl rfl rfl hb
      · go_enter Tryd.func44, Tryd.ntmps44
        go_wp2_with fail
        refine (pieces_any l _ hl hw).mono ?_
        rintro e w1 ⟨v, y, z, rfl, hxyz, hb⟩
        have HH := Lib.hid hxyz
        clear hxyz
        cases hok : (apkP l).isSome with
        | false =>
          go_wp2_with fail
          (try simp only [Exit.inBlock, Exit.then])
          refine bodyPost_ret (results4 rfl _ _ _) rfl ?_
          exact gives_bad w _ l 3 (by rw [HE.out, vOk3, hok]; rfl) (by decide) hb
        | true =>
          go_wp2_with fail
          (try simp only [Exit.inBlock, Exit.then])
          refine bodyPost_ret (results4 rfl _ _ _) rfl ?_
          obtain ⟨⟨ps, a, b⟩, hs⟩ := Option.isSome_iff_exists.1 hok
          obtain ⟨rfl, rfl, _⟩ := HH.out ps a b hs
          exact gives_ok w 3 l (by rw [HE.out, vOk3, hok]; rfl) (by rw [vPart3, apkT, hs]; rfl) (by rw [vPart3, apkT, hs]) (by rw [vPart3, apkT, hs]) hb
  · have n1 : (f != 1) = true := by simp; omega
    have n2 : (f != 2) = true := by simp; omega
    have n3 : (f != 3) = true := by simp; omega
    have HE : Hid (vErr f l = 9) := Lib.hid (by rw [vErr, if_neg h123])
    clear h123 hz
    go_enter Tryd.func44, Tryd.ntmps44
    go_wp2_with fail
    (try simp only [Exit.inBlock, Exit.then])
    refine bodyPost_ret (results4 rfl _ _ _) rfl ?_
    exact gives_bad w _ l 9 HE.out (by decide) (Below.refl _ _)
set_option maxHeartbeats 400000 in
theorem check_any (f : Int) (l : List UInt8) (w : World) (hl : l.length ≤ 1000000) (hw : Words w) :
    Calls Tryd.prog 39 #[.int .i64 f, .string (bs l)] w fun e w' => e = .returned (.int .i64 (vErr f l)) ∧ Below w.heap.size w w' := by
  go_enter Tryd.func39, Tryd.ntmps39
  go_wp2_with fail
  refine (split_any f l _ hl hw).mono ?_
  rintro e w1 ⟨rfl, hb⟩
  go_wp2_with fail
  go_ret
  exact ⟨rfl, hb⟩
theorem numsP_len (k : Int) (r : List UInt8) (acc : List Pc) : ∀ a q, numsP k r acc = some (a, q) → q.length ≤ r.length := by
  induction hn : r.length using Nat.strongRecOn generalizing k r acc with
  | ind n ih =>
    intro a q h
    by_cases h0 : digs r = []
    · rw [nums_none k r acc h0] at h; cases h
    · by_cases hd : ∃ t, past isDig r = 46 :: t
      · obtain ⟨t, ht⟩ := hd
        rw [nums_dot k r t acc h0 ht] at h
        have h1 := past_len isDig r
        rw [ht, List.length_cons] at h1
        have := ih t.length (by omega) 6 t _ rfl a q h
        omega
      · rw [nums_end k r acc h0 (fun t e => hd ⟨t, e⟩)] at h
        simp only [Option.some.injEq, Prod.mk.injEq] at h
        rw [← h.2, ← hn]
        exact past_len isDig r
theorem vErr_small (f : Int) (l : List UInt8) (h : vErr f l = 0) : l.length ≤ 64 ∧ (f = 1 ∨ f = 2 ∨ f = 3) ∧ vOk f l = true := by
  unfold vErr at h
  split at h
  · rename_i h1
    split at h
    · omega
    · split at h
      · exact ⟨by omega, h1, by assumption⟩
      · omega
  · omega
theorem dEp_len (l : List UInt8) : (dEp l).length ≤ l.length := by
  unfold dEp; split
  · exact cutA_len l 58
  · simp
theorem dRest_len (l : List UInt8) : (dRest l).length ≤ l.length := by
  unfold dRest; split
  · exact cutB_len l 58
  · exact Nat.le_refl _
theorem dPr_len (l : List UInt8) : (dPr l).length ≤ l.length := by
  unfold dPr; split
  · rw [List.length_take]; omega
  · exact Nat.le_refl _
theorem dRev_len (l : List UInt8) : (dRev l).length ≤ l.length := by
  unfold dRev; split
  · rw [List.length_drop]; omega
  · simp
theorem vPart_len (f : Int) (l : List UInt8) (hf : f = 1 ∨ f = 2) : (vPart f l).1.length ≤ l.length ∧ (vPart f l).2.1.length ≤ l.length ∧ (vPart f l).2.2.length ≤ l.length := by
  have h1 := dEp_len l
  have h2 := dRest_len l
  rcases hf with rfl | rfl
  · have h3 := dPr_len (dRest l)
    have h4 := dRev_len (dRest l)
    exact ⟨h1, Nat.le_trans h3 h2, Nat.le_trans h4 h2⟩
  · have h3 := cutA_len (dRest l) 45
    have h4 := cutB_len (dRest l) 45
    exact ⟨h1, Nat.le_trans h3 h2, Nat.le_trans h4 h2⟩
end Go.Proofs.YtjdcegogkafmoaaDoor

/- Maps from rows of numbers to numbers, in memory: the look-up, and what is put in. Over any program. -/
import Derived.Test.YtolknddegfcmpaaDoorCpL
import Derived.Laws.StructEq
import Derived.MapKept
namespace Go.Proofs.YtolknddegfcmpaaDoor
open Go.RowKit
/-- A row of numbers as a key. -/
def keyA (l : List Nat) : Value := .agg (l.map vI8).toArray
theorem all_range : ∀ (xs ys : List Nat), xs.length = ys.length → ((List.range xs.length).all fun i => xs.getD i 0 == ys.getD i 0) = (xs == ys)
  | [], [], _ => rfl
  | x :: xs, y :: ys, h => by
    have ih := all_range xs ys (by simpa using h)
    rw [List.length_cons, List.range_succ_eq_map, List.all_cons, List.all_map]
    simp only [List.getD_cons_zero, Function.comp_def, List.getD_cons_succ, ih]
    simp [List.cons_beq_cons]
  | [], _ :: _, h => by simp at h
  | _ :: _, [], h => by simp at h
section
variable {P : Program} (w : World)
theorem eq_row (d : Nat) (t e : TypeId) (n : Nat) (ht : P.underlying t = some (.array n e)) (he : P.underlying e = some (.int .i64)) (hsz : ∀ w, (sizeOf e).run P w = .ok 1 w)
    (xs ys : List Nat) (hx : xs.length = n) (hy : ys.length = n) : (Op.equalIn (d + 2) t (keyA xs) (keyA ys)).run P w = .ok (xs == ys) w := by
  rw [← all_range xs ys (hx.trans hy.symm), hx, List.range_eq_range', keyA, keyA, Op.equalIn]
  simp only [Sem.run_bind, run_underlying ht, Result.andThen_ok, hsz, Std.Legacy.Range.forIn_eq_forIn_range', Std.Legacy.Range.size, Nat.sub_zero, Nat.add_sub_cancel, Nat.div_one]
  have hl : ∀ i ∈ List.range' 0 n 1, i < n := fun i hi => by simpa using (List.mem_range'_1.1 hi).2
  generalize List.range' 0 n 1 = l at hl ⊢
  induction l with
  | nil => simp
  | cons i l ih =>
    have hi : i < n := hl i (by simp)
    have px : (part e (xs.map vI8).toArray (i * 1)).run P w = .ok (vI8 (xs.getD i 0)) w := by
      simp [part, isAgg, run_underlying he, List.getD, List.getElem?_eq_getElem (show i < xs.length by omega)]
    have py : (part e (ys.map vI8).toArray (i * 1)).run P w = .ok (vI8 (ys.getD i 0)) w := by
      simp [part, isAgg, run_underlying he, List.getD, List.getElem?_eq_getElem (show i < ys.length by omega)]
    have pe : (Op.equalIn (d + 1) e (vI8 (xs.getD i 0)) (vI8 (ys.getD i 0))).run P w = .ok (xs.getD i 0 == ys.getD i 0) w := by
      rw [vI8, vI8, run_equalIn_int w d e .i64 .i64 _ _ he]
      congr 1
      rw [Bool.eq_iff_iff]
      simp
      omega
    simp only [List.forIn_cons, Sem.run_bind, px, py, pe, Result.andThen_ok, List.all_cons]
    cases hb : (xs.getD i 0 == ys.getD i 0)
    · simp
    · simp only [Bool.not_true, Bool.false_eq_true, if_false, Sem.run_pure, Result.andThen_ok, Bool.true_and]
      exact ih fun j hj => hl j (by simp [hj])
theorem check_row (em : Bool) (d : Nat) (t e : TypeId) (n : Nat) (ht : P.underlying t = some (.array n e)) (he : P.underlying e = some (.int .i64)) (hsz : ∀ w, (sizeOf e).run P w = .ok 1 w)
    (xs : List Nat) (hx : xs.length = n) : (Instr.checkKey em (d + 2) t (keyA xs)).run P w = .ok () w := by
  rw [keyA, Instr.checkKey]
  simp only [Sem.run_bind, run_underlying ht, Result.andThen_ok, Std.Legacy.Range.forIn_eq_forIn_range', Std.Legacy.Range.size, Nat.sub_zero, Nat.add_sub_cancel, Nat.div_one]
  have hl : ∀ i ∈ List.range' 0 n 1, i < n := fun i hi => by simpa using (List.mem_range'_1.1 hi).2
  generalize List.range' 0 n 1 = l at hl ⊢
  induction l with
  | nil => simp
  | cons i l ih =>
    have hi : i < n := hl i (by simp)
    have px : (part e (xs.map vI8).toArray (i * 1)).run P w = .ok (vI8 (xs.getD i 0)) w := by
      simp [part, isAgg, run_underlying he, List.getD, List.getElem?_eq_getElem (show i < xs.length by omega)]
    have pe : (Instr.checkKey em (d + 1) e (vI8 (xs.getD i 0))).run P w = .ok () w := MapKept.run_checkKey he (by simp [vI8, MapKept.IsKey]) em d
    simp only [List.forIn_cons, Sem.run_bind, hsz, px, pe, Result.andThen_ok, Sem.run_pure]
    exact ih fun j hj => hl j (by simp [hj])
end
/-- The number that stands at a key, the first one counts. -/
def findP (k : List Nat) : List (List Nat × Nat) → Option Nat
  | [] => none
  | p :: ps => if k = p.1 then some p.2 else findP k ps
/-- A map's object reads as these pairs. -/
def MapR (n : Nat) (mo : Obj) (s : List (List Nat × Nat)) : Prop :=
  (∃ es c, mo = .map es c ∧ es.toList.map (fun e => (e.key, e.val)) = s.map fun p => (keyA p.1, vI8 p.2)) ∧ ∀ p ∈ s, p.1.length = n
theorem MapR.nil (n : Nat) : MapR n (.map #[] 0) [] := ⟨⟨#[], 0, rfl, rfl⟩, fun p h => by cases h⟩
section
variable {P : Program} (w : World) {t e : TypeId} {n : Nat}
theorem find_asking (ht : P.underlying t = some (.array n e)) (he : P.underlying e = some (.int .i64)) (hsz : ∀ w, (sizeOf e).run P w = .ok 1 w) (k : List Nat) (hk : k.length = n) :
    ∀ (s : List (List Nat × Nat)) (es : List MapEntry) (i : Nat), es.map (fun e => (e.key, e.val)) = s.map (fun p => (keyA p.1, vI8 p.2)) → (∀ p ∈ s, p.1.length = n) →
      ∃ j, (Instr.findAsking t (keyA k) es i).run P w = .ok ((findP k s).map fun x => (j, vI8 x)) w
  | [], es, i, h, _ => by
    have : es = [] := by simpa using h
    subst this
    exact ⟨0, by simp [Instr.findAsking, findP]⟩
  | p :: s, [], i, h, _ => by simp at h
  | p :: s, e0 :: es, i, h, hs => by
    simp only [List.map_cons, List.cons.injEq, Prod.mk.injEq] at h
    obtain ⟨⟨h1, h2⟩, h3⟩ := h
    obtain ⟨j, hj⟩ := find_asking ht he hsz k hk s es (i + 1) h3 (fun p hp => hs p (.tail _ hp))
    have hq := eq_row w 9998 t e n ht he hsz k p.1 hk (hs p (.head _))
    by_cases hkp : k = p.1
    · refine ⟨i, ?_⟩
      rw [Instr.findAsking, h1, findP, if_pos hkp]
      simp only [Sem.run_bind, Op.equal, Op.maxDepth, hq, Result.andThen_ok]
      rw [show (k == p.1) = true by simpa using hkp]
      simp [h2]
    · refine ⟨j, ?_⟩
      rw [Instr.findAsking, h1, findP, if_neg hkp]
      simp only [Sem.run_bind, Op.equal, Op.maxDepth, hq, Result.andThen_ok]
      rw [show (k == p.1) = false by simpa using hkp]
      simpa using hj
theorem find_row (ht : P.underlying t = some (.array n e)) (he : P.underlying e = some (.int .i64)) (hsz : ∀ w, (sizeOf e).run P w = .ok 1 w) (k : List Nat) (hk : k.length = n) (s : List (List Nat × Nat)) (es : List MapEntry)
    (h : es.map (fun e => (e.key, e.val)) = s.map (fun p => (keyA p.1, vI8 p.2))) (hs : ∀ p ∈ s, p.1.length = n) :
    ∃ j, (Instr.findKey t (keyA k) es).run P w = .ok ((findP k s).map fun x => (j, vI8 x)) w := by
  unfold Instr.findKey
  simp only [Sem.run_bind, run_underlying ht, Result.andThen_ok]
  cases es with
  | nil =>
    have : s = [] := by simpa using h.symm
    subst this
    exact ⟨0, by simp [Instr.findNow, findP]⟩
  | cons e0 es =>
    have e1 : Instr.findNow (.array n e) (keyA k) (e0 :: es) 0 = none := by simp [Instr.findNow, Instr.sameNow]
    rw [e1]
    exact find_asking w ht he hsz k hk s (e0 :: es) 0 h hs
/-- 'm[k]' with ok. -/
theorem mapR_get {mt vt : TypeId} (hm : P.underlying mt = some (.map t vt)) (ht : P.underlying t = some (.array n e)) (he : P.underlying e = some (.int .i64)) (hsz : ∀ w, (sizeOf e).run P w = .ok 1 w) (hz : ∀ w, (zeroValue vt).run P w = .ok (.int .i64 0) w)
    {b : Nat} {mo : Obj} {s : List (List Nat × Nat)} (hb : w.heap[b]? = some mo) (h : MapR n mo s) (k : List Nat) (hk : k.length = n) :
    (Instr.lookup mt (.map (some b)) (keyA k) true).run P w = .ok (.tuple #[.int .i64 ((findP k s).getD 0 : Nat), .bool (findP k s).isSome]) w := by
  obtain ⟨⟨es, c, rfl, h1⟩, h2⟩ := h
  obtain ⟨j, hj⟩ := find_row w ht he hsz k hk s es.toList h1 h2
  have hc := check_row w es.isEmpty 9998 t e n ht he hsz k hk
  simp only [Instr.lookup, Sem.run_bind, run_underlying hm, Result.andThen_ok, MapKept.run_getObj_map hb, Sem.run_pure, hc, hj]
  cases findP k s with
  | none => simp [hz]
  | some x => simp [vI8]
/-- 'm[k] = x' at a key that isn't in it. -/
theorem mapR_put {mt vt : TypeId} (hm : P.underlying mt = some (.map t vt)) (ht : P.underlying t = some (.array n e)) (he : P.underlying e = some (.int .i64)) (hsz : ∀ w, (sizeOf e).run P w = .ok 1 w)
    {b : Nat} {mo : Obj} {s : List (List Nat × Nat)} (hb : w.heap[b]? = some mo) (h : MapR n mo s) (k : List Nat) (hk : k.length = n) (hno : findP k s = none) (x : Nat) :
    ∃ mo', MapR n mo' (s ++ [(k, x)]) ∧ (∃ es c, mo' = .map es c) ∧ (Instr.mapUpdate mt (.map (some b)) (keyA k) (.int .i64 (x : Int))).run P w = .ok () { w with heap := w.heap.setIfInBounds b mo' } := by
  obtain ⟨⟨es, c, rfl, h1⟩, h2⟩ := h
  obtain ⟨j, hj⟩ := find_row w ht he hsz k hk s es.toList h1 h2
  have hc := check_row w false 9998 t e n ht he hsz k hk
  refine ⟨.map (es.push { key := keyA k, val := .int .i64 (x : Int), born := c }) (c + 1), ⟨⟨_, _, rfl, ?_⟩, fun p hp => ?_⟩, ⟨_, _, rfl⟩, ?_⟩
  · rw [Array.toList_push, List.map_append, h1, List.map_append]; rfl
  · rw [List.mem_append, List.mem_singleton] at hp
    rcases hp with hp | rfl
    · exact h2 p hp
    · exact hk
  · rw [hno] at hj
    simp only [Instr.mapUpdate, Sem.run_bind, run_underlying hm, Result.andThen_ok, MapKept.run_getObj_map hb, hc, hj, Option.map_none, MapKept.run_setObj_map _ hb]
end
theorem findP_new (k : List Nat) (x : Nat) (k' : List Nat) : ∀ s : List (List Nat × Nat), findP k (s ++ [(k', x)]) = (findP k s).or (if k = k' then some x else none)
  | [] => by simp [findP]
  | p :: s => by
    rw [List.cons_append, findP, findP, findP_new k x k' s]
    by_cases h : k = p.1 <;> simp [h]
end Go.Proofs.YtolknddegfcmpaaDoor

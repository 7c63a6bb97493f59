/- Maps keyed by where a list is and how long it is, in memory. -/
import Derived.Test.YtjdcegogkafmoaaDoorBasM
import Derived.Test.YtjdcegogkafmoaaDoorRow
import Derived.Test.YtjdcegogkafmoaaDoorShelfV
import Derived.Laws.StructEq
import Derived.MapKept
import Derived.LaidEql
namespace Go.Proofs.YtjdcegogkafmoaaDoor
open Go.RowKit
/-- Where a list is, and how long it is. -/
abbrev Ky := Addr × Nat
def keyK (k : Ky) : Value := .agg #[.pointer (some k.1), .int .i64 (k.2 : Int)]
/-- What lies there is no text's bytes. -/
def KyOk (w : World) (k : Ky) : Prop := ∃ ca t, w.heap[k.1.block]? = some (.cells ca t (0, 0))
theorem list_fields : ∃ n1 n2 : Field, Tryd.prog.fieldsOf 62 = #[n1, n2] ∧ (n1.name ≠ "_" ∧ n1.type = 60 ∧ n1.offset = 0) ∧ (n2.name ≠ "_" ∧ n2.type = 3 ∧ n2.offset = 1) := by
  have h : ((Tryd.prog.fieldsOf 62).toList.map fun f => (f.name, f.type, f.offset)) = [("start", 60, 0), ("n", 3, 1)] := by kernel_rfl
  rw [List.map_eq_cons_iff] at h
  obtain ⟨n1, l1, h1, h2, h3⟩ := h
  rw [List.map_eq_cons_iff] at h3
  obtain ⟨n2, l2, h4, h5, h6⟩ := h3
  rw [List.map_eq_nil_iff] at h6
  subst h6 h4
  simp only [Prod.mk.injEq] at h2 h5
  refine ⟨n1, n2, Array.toList_inj.1 (by rw [h1]), ⟨by rw [h2.1]; decide, h2.2.1, h2.2.2⟩, ⟨by rw [h5.1]; decide, h5.2.1, h5.2.2⟩⟩
section
variable (w : World)
theorem eq_ptr {a b : Addr} (d : Nat) (ha : ∃ ca t, w.heap[a.block]? = some (.cells ca t (0, 0))) (hb : ∃ ca t, w.heap[b.block]? = some (.cells ca t (0, 0))) :
    (Op.equalIn (d + 1) 60 (.pointer (some a)) (.pointer (some b))).run Tryd.prog w = .ok (decide (a = b)) w := by
  obtain ⟨ca, ta, ha⟩ := ha
  obtain ⟨cb, tb, hb⟩ := hb
  have hp : Tryd.prog.underlying 60 = some (.pointer 27) := Tryd.underlying60
  obtain ⟨j, hj, hs⟩ : ∃ j, Tryd.prog.info? 27 = some j ∧ j.size ≠ 0 := by
    have h : ((Tryd.prog.info? 27).map fun j => j.size) = some 5 := by kernel_rfl
    rw [Option.map_eq_some_iff] at h
    obtain ⟨j, h1, h2⟩ := h
    exact ⟨j, h1, by omega⟩
  by_cases h : a = b
  · subst h
    simp [Op.equalIn, run_underlying hp, sizeOf, typeInfo, hj, hs, run_sameAddr_same]
  · simp [Op.equalIn, run_underlying hp, sizeOf, typeInfo, hj, hs, run_sameAddr_other w h ha hb, h]
theorem eq_key (a b : Ky) (ha : KyOk w a) (hb : KyOk w b) : (Op.equal 62 (keyK a) (keyK b)).run Tryd.prog w = .ok (decide (a = b)) w := by
  have hu : Tryd.prog.underlying 62 = some (.struct (Tryd.prog.fieldsOf 62)) := by kernel_rfl
  obtain ⟨n1, n2, hf, h1, h2⟩ := list_fields
  obtain ⟨h1, h1t, h1o⟩ := h1
  obtain ⟨h2, h2t, h2o⟩ := h2
  have hi : Tryd.prog.underlying 3 = some (.int .i64) := Tryd.underlying3
  have hp : Tryd.prog.underlying 60 = some (.pointer 27) := Tryd.underlying60
  have p1 : ∀ x y : Value, (part 60 #[x, y] 0).run Tryd.prog w = .ok x w := fun x y => by simp [part, isAgg, run_underlying hp]
  have p2 : ∀ x y : Value, (part 3 #[x, y] 1).run Tryd.prog w = .ok y w := fun x y => by simp [part, isAgg, run_underlying hi]
  rw [Op.equal, Op.maxDepth, keyK, keyK, run_equalIn_struct w 9999 _ _ _ hu (by kernel_rfl), hf]
  simp only [Op.eqFields, h1, h2, h1t, h2t, h1o, h2o, p1, p2, Sem.run_bind, Result.andThen_ok, eq_ptr w 9998 ha hb, run_equalIn_int w 9998 _ .i64 .i64 _ _ hi, ne_eq, not_false_eq_true, if_true]
  obtain ⟨a1, a2⟩ := a
  obtain ⟨b1, b2⟩ := b
  have hn : ((a2 : Int) == (b2 : Int)) = decide (a2 = b2) := by
    rw [Bool.eq_iff_iff, beq_iff_eq, decide_eq_true_eq]
    omega
  have q2 := run_equalIn_int (P := Tryd.prog) w 9998 3 .i64 .i64 (a2 : Int) (b2 : Int) hi
  by_cases e1 : a1 = b1
  · rw [decide_eq_true e1]
    simp only [Bool.not_true, Bool.false_eq_true, if_false, Sem.run_bind, p2, Result.andThen_ok, q2, hn]
    by_cases e2 : a2 = b2 <;> simp [e1, e2]
  · simp [e1]
theorem check_key (em : Bool) (k : Ky) : (Instr.checkKey em 10000 62 (keyK k)).run Tryd.prog w = .ok () w := by
  have hu : Tryd.prog.underlying 62 = some (.struct (Tryd.prog.fieldsOf 62)) := by kernel_rfl
  obtain ⟨n1, n2, hf, h1, h2⟩ := list_fields
  obtain ⟨h1, h1t, h1o⟩ := h1
  obtain ⟨h2, h2t, h2o⟩ := h2
  have hi : Tryd.prog.underlying 3 = some (.int .i64) := Tryd.underlying3
  have hp : Tryd.prog.underlying 60 = some (.pointer 27) := Tryd.underlying60
  have p1 : ∀ x y : Value, (part 60 #[x, y] 0).run Tryd.prog w = .ok x w := fun x y => by simp [part, isAgg, run_underlying hp]
  have p2 : ∀ x y : Value, (part 3 #[x, y] 1).run Tryd.prog w = .ok y w := fun x y => by simp [part, isAgg, run_underlying hi]
  have c1 : ∀ (n : Nat) (x : Addr), (Instr.checkKey em (n + 1) 60 (.pointer (some x))).run Tryd.prog w = .ok () w := fun n x => by simp [Instr.checkKey, run_underlying hp]
  have c2 : ∀ (n : Nat) (x : Int), (Instr.checkKey em (n + 1) 3 (.int .i64 x)).run Tryd.prog w = .ok () w := fun n x => by simp [Instr.checkKey, run_underlying hi]
  have c1 := c1 9998
  have c2 := c2 9998
  rw [keyK, Instr.checkKey]
  simp [run_underlying hu, hf, h1, h2, h1t, h2t, h1o, h2o, p1, p2, c1, c2]
end
/-- A map's object reads as these pairs. -/
def MapK (mo : Obj) (ks : List (Ky × Int)) : Prop := ∃ es c, mo = .map es c ∧ es.toList.map (fun e => (e.key, e.val)) = ks.map fun p => (keyK p.1, .int .i64 p.2)
theorem MapK.nil : MapK (.map #[] 0) [] := ⟨#[], 0, rfl, rfl⟩
/-- What stands at a key; the first one counts. -/
def findK (k : Ky) : List (Ky × Int) → Option (Nat × Int)
  | [] => none
  | p :: ps => if k = p.1 then some (0, p.2) else (findK k ps).map fun q => (q.1 + 1, q.2)
theorem findK_some {k : Ky} : ∀ {ks : List (Ky × Int)} {q : Nat × Int}, findK k ks = some q → ks[q.1]? = some (k, q.2)
  | [], q, h => by simp [findK] at h
  | p :: ps, q, h => by
    rw [findK] at h
    split at h
    · rename_i hk
      injection h with h
      subst h hk
      rfl
    · rw [Option.map_eq_some_iff] at h
      obtain ⟨q', h1, h2⟩ := h
      subst h2
      simpa using findK_some h1
theorem findK_none {k : Ky} : ∀ {ks : List (Ky × Int)}, findK k ks = none → ∀ p ∈ ks, p.1 ≠ k
  | [], _, p, hp => by cases hp
  | q :: ps, h, p, hp => by
    rw [findK] at h
    split at h
    · simp at h
    · rename_i hk
      rw [Option.map_eq_none_iff] at h
      rcases List.mem_cons.1 hp with rfl | hp
      · exact fun e => hk e.symm
      · exact findK_none h p hp
section
variable (w : World)
theorem find_asks (k : Ky) (hk : KyOk w k) : ∀ (ks : List (Ky × Int)) (es : List MapEntry) (i : Nat), es.map (fun e => (e.key, e.val)) = ks.map (fun p => (keyK p.1, .int .i64 p.2)) → (∀ p ∈ ks, KyOk w p.1) →
      (Instr.findAsking 62 (keyK k) es i).run Tryd.prog w = .ok ((findK k ks).map fun q => (i + q.1, .int .i64 q.2)) w
  | [], es, i, h, _ => by
    have : es = [] := by simpa using h
    subst this
    simp [Instr.findAsking, findK]
  | p :: s, [], i, h, _ => by simp at h
  | p :: s, e0 :: es, i, h, hs => by
    simp only [List.map_cons, List.cons.injEq, Prod.mk.injEq] at h
    obtain ⟨⟨h1, h2⟩, h3⟩ := h
    have hj := find_asks k hk s es (i + 1) h3 (fun p hp => hs p (.tail _ hp))
    have hq := eq_key w k p.1 hk (hs p (.head _))
    rw [Instr.findAsking, h1, findK]
    simp only [Sem.run_bind, hq, Result.andThen_ok]
    by_cases hkp : k = p.1
    · rw [if_pos hkp, decide_eq_true hkp]
      simp [h2]
    · rw [if_neg hkp, decide_eq_false hkp]
      simp only [Bool.false_eq_true, if_false, hj]
      cases findK k s with
      | none => rfl
      | some q =>
        simp only [Option.map_some]
        rw [show i + 1 + q.1 = i + (q.1 + 1) by omega]
theorem find_key (k : Ky) (hk : KyOk w k) (ks : List (Ky × Int)) (es : List MapEntry) (h : es.map (fun e => (e.key, e.val)) = ks.map (fun p => (keyK p.1, .int .i64 p.2))) (hs : ∀ p ∈ ks, KyOk w p.1) :
    (Instr.findKey 62 (keyK k) es).run Tryd.prog w = .ok ((findK k ks).map fun q => (q.1, .int .i64 q.2)) w := by
  have hu : Tryd.prog.underlying 62 = some (.struct (Tryd.prog.fieldsOf 62)) := by kernel_rfl
  unfold Instr.findKey
  simp only [Sem.run_bind, run_underlying hu, Result.andThen_ok]
  cases es with
  | nil =>
    have : ks = [] := by simpa using h.symm
    subst this
    simp [Instr.findNow, findK]
  | cons e0 es =>
    have e1 : Instr.findNow (.struct (Tryd.prog.fieldsOf 62)) (keyK k) (e0 :: es) 0 = none := by simp [Instr.findNow, Instr.sameNow]
    rw [e1]
    have := find_asks w k hk ks (e0 :: es) 0 h hs
    simpa using this
theorem mapK_get {b : Nat} {mo : Obj} {ks : List (Ky × Int)} (hb : w.heap[b]? = some mo) (h : MapK mo ks) (k : Ky) (hk : KyOk w k) (hs : ∀ p ∈ ks, KyOk w p.1) :
    (Instr.lookup 58 (.map (some b)) (keyK k) true).run Tryd.prog w = .ok (.tuple #[.int .i64 (((findK k ks).map (·.2)).getD 0), .bool (findK k ks).isSome]) w := by
  obtain ⟨es, c, rfl, h1⟩ := h
  have hm : Tryd.prog.underlying 58 = some (.map 62 3) := Tryd.underlying58
  have hz : (zeroValue 3).run Tryd.prog w = .ok (.int .i64 0) w := by kernel_rfl
  have hj := find_key w k hk ks es.toList h1 hs
  have hc := check_key w es.isEmpty k
  simp only [Instr.lookup, Sem.run_bind, run_underlying hm, Result.andThen_ok, MapKept.run_getObj_map hb, Sem.run_pure, hc, hj]
  cases findK k ks with
  | none => simp [hz]
  | some x => simp
theorem mapK_put {b : Nat} {mo : Obj} {ks : List (Ky × Int)} (hb : w.heap[b]? = some mo) (h : MapK mo ks) (k : Ky) (hk : KyOk w k) (hs : ∀ p ∈ ks, KyOk w p.1) (x : Int) :
    ∃ mo' ks', MapK mo' ks' ∧ (∀ p ∈ ks', p ∈ ks ∨ p = (k, x)) ∧ (∀ p ∈ ks, ∃ y, (p.1, y) ∈ ks') ∧ (k, x) ∈ ks' ∧
      (Instr.mapUpdate 58 (.map (some b)) (keyK k) (.int .i64 x)).run Tryd.prog w = .ok () { w with heap := w.heap.setIfInBounds b mo' } := by
  obtain ⟨es, c, rfl, h1⟩ := h
  have hm : Tryd.prog.underlying 58 = some (.map 62 3) := Tryd.underlying58
  have hj := find_key w k hk ks es.toList h1 hs
  have hc := check_key w false k
  cases hf : findK k ks with
  | none =>
    rw [hf] at hj
    refine ⟨.map (es.push { key := keyK k, val := .int .i64 x, born := c }) (c + 1), ks ++ [(k, x)], ⟨_, _, rfl, ?_⟩, fun p hp => ?_, fun p hp => ⟨p.2, by simp [hp]⟩, by simp, ?_⟩
    · rw [Array.toList_push, List.map_append, h1, List.map_append]; rfl
    · rw [List.mem_append, List.mem_singleton] at hp
      exact hp
    · simp only [Instr.mapUpdate, Sem.run_bind, run_underlying hm, Result.andThen_ok, MapKept.run_getObj_map hb, hc, hj, Option.map_none, MapKept.run_setObj_map _ hb]
  | some q =>
    rw [hf] at hj
    have hq := findK_some hf
    have hlen : es.toList.length = ks.length := by have := congrArg List.length h1; simpa using this
    obtain ⟨hql, hqe⟩ := List.getElem?_eq_some_iff.1 hq
    have hqs : q.1 < es.size := by rw [← Array.length_toList]; omega
    have hkey : es[q.1]?.map (·.key) = some (keyK k) := by
      have := congrArg (fun l => l[q.1]?) h1
      simp only [List.getElem?_map, hq, Option.map_some, Array.getElem?_toList] at this
      rw [Array.getElem?_eq_getElem hqs] at this ⊢
      simp only [Option.map_some, Option.some.injEq, Prod.mk.injEq] at this ⊢
      exact this.1
    have hst : (Instr.keyThatStays (keyK k) (keyK k)).run Tryd.prog w = .ok (keyK k) w := by
      have : ∀ n, Instr.sameBits (n + 1) (keyK k) (keyK k) = true := fun n => by simp [keyK, Instr.sameBits]
      have this : Instr.sameBits 10000 (keyK k) (keyK k) = true := this 9999
      simp only [Instr.keyThatStays, this, if_true, Sem.run_pure]
    refine ⟨.map (es.modify q.1 fun e => { e with key := keyK k, val := .int .i64 x }) c, ks.set q.1 (k, x), ⟨_, _, rfl, ?_⟩, fun p hp => ?_, fun p hp => ?_, ?_, ?_⟩
    · rw [Array.toList_modify, List.map_set, ← h1]
      apply List.ext_getElem?
      intro i
      simp only [List.getElem?_map, List.getElem?_modify, List.getElem?_set]
      by_cases hi : q.1 = i
      · subst hi
        simp [hqs]
      · simp [hi]
    · rcases List.mem_or_eq_of_mem_set hp with h | h
      · exact .inl h
      · exact .inr h
    · obtain ⟨i, hi, hpi⟩ := List.mem_iff_getElem.1 hp
      by_cases hiq : q.1 = i
      · subst hiq
        refine ⟨x, ?_⟩
        rw [hqe] at hpi
        rw [← hpi]
        exact List.mem_iff_getElem.2 ⟨q.1, by simpa using hql, by simp⟩
      · refine ⟨p.2, List.mem_iff_getElem.2 ⟨i, by simpa using hi, ?_⟩⟩
        rw [List.getElem_set_ne hiq, hpi]
    · exact List.mem_iff_getElem.2 ⟨q.1, by simpa using hql, by simp⟩
    · simp only [Instr.mapUpdate, Sem.run_bind, run_underlying hm, Result.andThen_ok, MapKept.run_getObj_map hb, hc, hj, Option.map_some, hkey, Option.getD_some, hst, MapKept.run_setObj_map _ hb]
theorem mapK_len {b : Nat} {mo : Obj} {ks : List (Ky × Int)} (hb : w.heap[b]? = some mo) (h : MapK mo ks) : ∃ es c, mo = .map es c ∧ es.size = ks.length := by
  obtain ⟨es, c, rfl, h1⟩ := h
  refine ⟨es, c, rfl, ?_⟩
  have := congrArg List.length h1
  simpa using this
end
end Go.Proofs.YtjdcegogkafmoaaDoor

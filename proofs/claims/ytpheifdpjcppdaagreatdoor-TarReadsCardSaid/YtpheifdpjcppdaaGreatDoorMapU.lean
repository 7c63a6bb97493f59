/- A map of texts to integers that a call makes: what stands at each text; a look-up, a store. Rows of bytes of this program, and texts of them. -/
import Derived.Test.YtpheifdpjcppdaaGreatDoorProg
import Derived.Test.YtpheifdpjcppdaaGreatDoorTxt
import Derived.Maps.OwnSet
namespace Go.Proofs.YtpheifdpjcppdaaGreatDoor
open Go.RowKit Go.WideMaps Go.Maps
theorem keyS : Keyed Tryz.prog 9 := string_keyed Tryz.underlying9
theorem zeroI (w : World) : (zeroValue 3).run Tryz.prog w = .ok (.int .i64 0) w := by kernel_rfl
/-- Block b is a map of at most n texts; what stands at a text is as m says. -/
def NMap (w : World) (b n : Nat) (m : List UInt8 → Option Int) : Prop :=
  ∃ D : DataW Unit, w.ownsMap Tryz.prog 9 (plainElem Tryz.prog 3) b n D ∧ IsMap D ∧ ∀ key, has D (.string key) = (m key).isSome ∧ ∀ x, m key = some x → D.atKey (.string key) (.lit (.int .i64 0)) = .lit (.int .i64 x)
theorem NMap.made (w : World) : NMap (w.alloc (.map #[] 0)) w.heap.size 0 (fun _ => none) :=
  ⟨.map [], World.ownsMap_made _ _ _ _, isMap_empty, fun _ => ⟨rfl, fun _ h => by cases h⟩⟩
theorem NMap.lt {w : World} {b n : Nat} {m : List UInt8 → Option Int} (h : NMap w b n m) : b < w.heap.size := by
  obtain ⟨D, ho, _⟩ := h
  exact ho.lt
theorem NMap.keep {X : Nat → Prop} {w w' : World} {b n : Nat} {m : List UInt8 → Option Int} (h : NMap w b n m) (k : Kept X w w') (hb : ¬ X b) : NMap w' b n m := by
  obtain ⟨D, ho, r⟩ := h
  obtain ⟨es, clock, hbk, F, hs, hD⟩ := ho
  exact ⟨D, ⟨es, clock, (k.block b (Array.getElem?_eq_some_iff.1 hbk).1 hb).trans hbk, F, hs, hD⟩, r⟩
theorem NMap.below {w w' : World} {b n : Nat} {m : List UInt8 → Option Int} (h : NMap w b n m) (hb : Below w.heap.size w w') : NMap w' b n m := h.keep (Kept.of_below hb nowhere) (fun h => h)
/-- 'v, ok := m[k]'. -/
theorem wpList_nlook {ops : Array Oper} {rest : List Oper} {o : Oper} {a : Act} {Q : Exit → Act → World → Prop} (w : World) (hg : o.guard = none) (mo x : Operand)
    (hop : o.op = Op.lookup 73 mo x true) (b n : Nat) (m : List UInt8 → Option Int) (hm : a.eval mo = .map (some b)) (h : NMap w b n m) (key : List UInt8) (hx : a.eval x = .string (bs key)) (hkl : key.length ≤ 1000000000)
    (hK : ∀ v : Int, (∀ y, m key = some y → v = y) → wpList Tryz.prog ops Q rest (a.put o.dst (.tuple #[.int .i64 v, .bool (m key).isSome])) w) : wpList Tryz.prog ops Q (o :: rest) a w := by
  obtain ⟨D, ho, _, hD⟩ := h
  refine wpList_lookup_own_ok_int w hg mo x _ hop 9 3 .i64 keyS Tryz.underlying73 Tryz.underlying3 (zeroI w) b n D hm ho _ (.string key) hx (keyOf_string_mk Tryz.underlying9 (s := bs key) (by rw [bs_size]; unfold maxLen; omega)) (fun c hat _ => ?_)
  rw [(hD key).1]
  exact hK c (fun y hy => by
    have := (hD key).2 y hy
    rw [hat] at this
    injection this with this
    injection this)
/-- A look-up in no map at all. -/
theorem nlook_nil (w : World) (key : List UInt8) (hkl : key.length ≤ 1000000000) : (Instr.lookup 73 (.map none) (.string (bs key)) true).run Tryz.prog w = .ok (.tuple #[.int .i64 0, .bool false]) w :=
  Maps.look_nil true keyS Tryz.underlying73 (zeroI w) (keyOf_string_mk Tryz.underlying9 (s := bs key) (by rw [bs_size]; unfold maxLen; omega))
def putM (m : List UInt8 → Option Int) (k : List UInt8) (x : Int) : List UInt8 → Option Int := fun y => if y = k then some x else m y
theorem NMap.into {w w' : World} {b n : Nat} {m : List UInt8 → Option Int} {D : DataW Unit} (hI : IsMap D) (hD : ∀ key, has D (.string key) = (m key).isSome ∧ ∀ x, m key = some x → D.atKey (.string key) (.lit (.int .i64 0)) = .lit (.int .i64 x)) (key : List UInt8) (val : Int)
    (h1 : w'.ownsMap Tryz.prog 9 (plainElem Tryz.prog 3) b (n + 1) (D.put (.string key) (.lit (.int .i64 val)))) : NMap w' b (n + 1) (putM m key val) := by
  refine ⟨_, h1, hI.put _ _, fun y => ?_⟩
  by_cases hy : y = key
  · subst hy
    refine ⟨?_, fun z hz => ?_⟩
    · rw [has_put_same hI (by first | trivial | exact ⟨_, rfl⟩ | simp [WideAt.IsKeyLit])]; simp [putM]
    · simp only [putM, if_pos] at hz
      injection hz with hz
      subst hz
      exact atKey_put_same hI (by first | trivial | exact ⟨_, rfl⟩ | simp [WideAt.IsKeyLit]) _ _
  · have hne : Lit.string y ≠ Lit.string key := fun e => hy (by injection e)
    rw [has_put_other hne, atKey_put_other hne]
    have := hD y
    simpa [putM, hy] using this
/-- 'm[k] = v', at the operation. -/
theorem wp_nput {o : Oper} {a : Act} {K : Act → World → Prop} {Q : Exit → Act → World → Prop} (w : World) (mo x v : Operand)
    (hop : o.op = Op.mapUpdate 73 mo x v) (b n : Nat) (m : List UInt8 → Option Int) (hm : a.eval mo = .map (some b)) (h : NMap w b n m) (hn : n ≤ 1000000000000) (key : List UInt8) (hx : a.eval x = .string (bs key)) (hkl : key.length ≤ 1000000000)
    (val : Int) (hv : a.eval v = .int .i64 val) (hw : (Lit.int .i64 val).wf = true)
    (hK : ∀ w', NMap w' b (n + 1) (putM m key val) → Kept (fun k => k = b) w w' → K (a.put o.dst undef) w') : o.wp Tryz.prog a w K Q := by
  obtain ⟨D, ho, hI, hD⟩ := h
  obtain ⟨w', hrun, r1, r2⟩ := ho.update keyS Tryz.underlying73 (by unfold maxLen; omega) (keyOf_string_mk Tryz.underlying9 (s := bs key) (by rw [bs_size]; unfold maxLen; omega)) (plainElem_int (H := Unit) Tryz.underlying3 hw)
  unfold Oper.wp
  simp [execOp, hop, hm, hx, hv, hrun, Result.andThen]
  show K _ _
  exact hK w' (NMap.into (w := w) hI hD key val r1) ((Kept.grown r2).mono fun k _ hk => (Option.some.inj hk).symm)
/-- 'm[k] = v'. -/
theorem wpList_nput {ops : Array Oper} {rest : List Oper} {o : Oper} {a : Act} {Q : Exit → Act → World → Prop} (w : World) (hg : o.guard = none) (mo x v : Operand)
    (hop : o.op = Op.mapUpdate 73 mo x v) (b n : Nat) (m : List UInt8 → Option Int) (hm : a.eval mo = .map (some b)) (h : NMap w b n m) (hn : n ≤ 1000000000000) (key : List UInt8) (hx : a.eval x = .string (bs key)) (hkl : key.length ≤ 1000000000)
    (val : Int) (hv : a.eval v = .int .i64 val) (hw : (Lit.int .i64 val).wf = true)
    (hK : ∀ w', NMap w' b (n + 1) (putM m key val) → Kept (fun k => k = b) w w' → wpList Tryz.prog ops Q rest (a.put o.dst undef) w') : wpList Tryz.prog ops Q (o :: rest) a w :=
  wpList_plain hg fun _ hK2 => wp_nput w mo x v hop b n m hm h hn key hx hkl val hv hw fun w' h1 h2 => hK2 _ _ (hK w' h1 h2)
end Go.Proofs.YtpheifdpjcppdaaGreatDoor
namespace Go.Proofs.YtpheifdpjcppdaaGreatDoor
open Go.RowKit
theorem u8info : (Tryz.prog.info? 5).map (fun i => (i.zero, i.size, i.bytes)) = some (some (.int .u8 0), 1, 1) := by kernel_rfl
/-- string(v) of a slice of bytes. -/
theorem str8 {w : World} {v : Value} {l : List UInt8} (h : SB w v l) : (convert 25 9 v).run Tryz.prog w = .ok (.string ⟨l.toArray⟩) w :=
  h.str 25 5 9 Tryz.underlying25 Tryz.underlying5 Tryz.underlying9
/-- A literal row of bytes, as a row of one's own. -/
theorem own_lit (w : World) (l : List UInt8) (cs : Array Value) (e : TypeId) {base : Nat} (hb : base ≤ w.heap.size) (hcs : cs.toList = bvs l) (hl : l.length ≤ maxLen) :
    (w.alloc (.cells cs e)).ownsRow base e 1 (.slice (some ⟨w.heap.size, 0, none⟩) l.length l.length) l.length (bvs l) := by
  have hs : cs.size = l.length := by rw [← Array.length_toList, hcs, bvs_length]
  exact ⟨by simp [bvs_length], .inr ⟨w.heap.size, l.length, cs, rfl, hb, heap_alloc_new w _, Nat.le_refl _, hl, by omega, by rw [hcs, Nat.mul_one]; exact List.take_of_length_le (by rw [bvs_length]; omega)⟩⟩
theorem SB.alloc {w : World} {v : Value} {l : List UInt8} (h : SB w v l) (o : Obj) : SB (w.alloc o) v l := h.below ((Below.refl _ _).alloc (Nat.le_refl _) o)
end Go.Proofs.YtpheifdpjcppdaaGreatDoor

/- errors.As at two targets: the error's own type, and the type of what it unwraps to. -/
import Derived.Test.YtfpdlmddakgilaaDoorProg
import Derived.Test.YtfpdlmddakgilaaDoorMem
import Derived.WalkKit
import Derived.LaidEql
import Derived.Stop.Asserts
import Derived.RowKitTokens
namespace Go.Proofs.YtfpdlmddakgilaaDoor
open Go.RowKit Go.Extern.Stop Go.Stop Go.Extern
theorem rfl_valueOf (PT : TypeId) (h : PT = 59 ∨ PT = 60) (t : Addr) (w : World) : (ReflectliteValue.unpack (.iface PT (.pointer (some t)))).run Tryd.prog w
    = .ok (.agg #[.pointer (some ⟨4, PT, none⟩), .pointer (some ⟨w.heap.size, 0, none⟩), .int .u64 150]) (w.alloc (.cells #[.pointer (some t)] PT)) := by
  rcases h with rfl | rfl <;> kernel_rfl
theorem rfl_type (PT : TypeId) (h : PT = 59 ∨ PT = 60) (a : Addr) (w : World) : (ReflectliteValue.methodAny (ReflectliteValue.valueError "reflectlite.Value.Type" 0) (fun t _ _ _ => ReflectliteType.toType t) #[.agg #[.pointer (some ⟨4, PT, none⟩), .pointer (some a), .int .u64 150]]).run Tryd.prog w
    = .ok (.iface 112 (.agg #[.pointer (some ⟨4, PT, none⟩)])) w := by
  rcases h with rfl | rfl <;> kernel_rfl
theorem rfl_kindP (PT : TypeId) (h : PT = 59 ∨ PT = 60) (w : World) : ((ReflectliteType.abiMethod fun t => (fun a : Nat => Value.int IntKind.u8 (a : Int)) <$> Rtype.kind t) #[.pointer (some ⟨4, PT, none⟩)]).run Tryd.prog w = .ok (.int .u8 22) w := by
  rcases h with rfl | rfl <;> kernel_rfl
theorem rfl_kindW (w : World) : ((ReflectliteType.abiMethod fun t => (fun a : Nat => Value.int IntKind.u8 (a : Int)) <$> Rtype.kind t) #[.pointer (some ⟨4, 55, none⟩)]).run Tryd.prog w = .ok (.int .u8 25) w := by kernel_rfl
theorem rfl_kindE (w : World) : ((ReflectliteType.abiMethod fun t => (fun a : Nat => Value.int IntKind.u8 (a : Int)) <$> Rtype.kind t) #[.pointer (some ⟨4, 24, none⟩)]).run Tryd.prog w = .ok (.int .u8 2) w := by kernel_rfl
theorem rlm (z : Sem Value) (f : TypeId → Addr → Nat → Nat → Sem Value) (v : Value) :
    ReflectliteValue.method z f #[v] = (do match ← ReflectliteValue.parts v with | none => z | some (t, a, fl) => f t a fl (fl % 32)) := rfl
theorem rfl_parts (PT : TypeId) (h : PT = 59 ∨ PT = 60) (a : Addr) (w : World) : (ReflectliteValue.parts (.agg #[.pointer (some ⟨4, PT, none⟩), .pointer (some a), .int .u64 150])).run Tryd.prog w = .ok (some (PT, a, 150)) w := by
  rcases h with rfl | rfl <;> kernel_rfl
/-- (Value).IsNil at the Value of a pointer that is not nil. -/
theorem rfl_isNil (PT E : TypeId) (h : PT = 59 ∨ PT = 60) (hu : Tryd.prog.underlying PT = some (.pointer E)) (a p : Addr) (W : World) (ha : W.cell? a = some (.pointer (some p))) :
    (ReflectliteValue.method (ReflectliteValue.valueError "reflectlite.Value.IsNil" 0) ReflectliteValue.isNil #[.agg #[.pointer (some ⟨4, PT, none⟩), .pointer (some a), .int .u64 150]]).run Tryd.prog W = .ok (.bool false) W := by
  rw [rlm]
  simp only [Sem.run_bind, rfl_parts PT h, Result.andThen]
  simp [ReflectliteValue.isNil, loadVar, isAgg, underlying, hu, ha, Result.andThen]
theorem rfl_elemT (PT E : TypeId) (h : (PT = 59 ∧ E = 55) ∨ (PT = 60 ∧ E = 24)) (w : World) : (ReflectliteType.method ReflectliteType.elem #[.agg #[.pointer (some ⟨4, PT, none⟩)]]).run Tryd.prog w = .ok (.iface 112 (.agg #[.pointer (some ⟨4, E, none⟩)])) w := by
  rcases h with ⟨rfl, rfl⟩ | ⟨rfl, rfl⟩ <;> kernel_rfl
theorem rfl_impl (E : TypeId) (h : E = 55 ∨ E = 24) (w : World) : (ReflectliteType.relation "Implements" ReflectliteType.implements_ #[.agg #[.pointer (some ⟨4, E, none⟩)], .iface 112 (.agg #[.pointer (some ⟨4, 42, none⟩)])]).run Tryd.prog w = .ok (.bool true) w := by
  rcases h with rfl | rfl <;> kernel_rfl
theorem rfl_typeOf (E : TypeId) (h : E = 55 ∨ E = 24) (v : Value) (w : World) : (ReflectliteType.typeOf #[.iface E v]).run Tryd.prog w = .ok (.iface 112 (.agg #[.pointer (some ⟨4, E, none⟩)])) w := by
  rcases h with rfl | rfl <;> kernel_rfl
theorem rfl_assign (E F : TypeId) (h : E = 55 ∨ E = 24) (h2 : F = 55 ∨ F = 24) (w : World) : (ReflectliteType.relation "AssignableTo" ReflectliteType.assignableTo #[.agg #[.pointer (some ⟨4, E, none⟩)], .iface 112 (.agg #[.pointer (some ⟨4, F, none⟩)])]).run Tryd.prog w = .ok (.bool (E == F)) w := by
  rcases h with rfl | rfl <;> rcases h2 with rfl | rfl <;> kernel_rfl
theorem rfl_valueW (x y : Int) (w : World) : (ReflectliteValue.unpack (.iface 55 (.agg #[.int .i64 x, .int .i64 y]))).run Tryd.prog w
    = .ok (.agg #[.pointer (some ⟨4, 55, none⟩), .pointer (some ⟨w.heap.size, 0, none⟩), .int .u64 153]) (w.alloc (.cells #[.int .i64 x, .int .i64 y] 55)) := by kernel_rfl
theorem rfl_valueE (y : Int) (w : World) : (ReflectliteValue.unpack (.iface 24 (.int .i64 y))).run Tryd.prog w
    = .ok (.agg #[.pointer (some ⟨4, 24, none⟩), .pointer (some ⟨w.heap.size, 0, none⟩), .int .u64 130]) (w.alloc (.cells #[.int .i64 y] 24)) := by kernel_rfl
def flE (E : TypeId) : Int := if E = 55 then 409 else 386
theorem rfl_elemOf (PT E : TypeId) (h : (PT = 59 ∧ E = 55) ∨ (PT = 60 ∧ E = 24)) (w : World) : (Rtype.elem? PT).run Tryd.prog w = .ok (some E) w := by
  rcases h with ⟨rfl, rfl⟩ | ⟨rfl, rfl⟩ <;> kernel_rfl
theorem rfl_mk (E : TypeId) (h : E = 55 ∨ E = 24) (p : Addr) (w : World) : (ReflectliteValue.mk E p ReflectliteValue.flagAddr).run Tryd.prog w = .ok (.agg #[.pointer (some ⟨4, E, none⟩), .pointer (some p), .int .u64 (flE E)]) w := by
  rcases h with rfl | rfl <;> kernel_rfl
/-- (Value).Elem at the Value of a pointer that is not nil. -/
theorem rfl_elemV (PT E : TypeId) (h : (PT = 59 ∧ E = 55) ∨ (PT = 60 ∧ E = 24)) (hu : Tryd.prog.underlying PT = some (.pointer E)) (a p : Addr) (W : World) (ha : W.cell? a = some (.pointer (some p))) :
    (ReflectliteValue.method (ReflectliteValue.valueError "reflectlite.Value.Elem" 0) ReflectliteValue.elem #[.agg #[.pointer (some ⟨4, PT, none⟩), .pointer (some a), .int .u64 150]]).run Tryd.prog W
      = .ok (.agg #[.pointer (some ⟨4, E, none⟩), .pointer (some p), .int .u64 (flE E)]) W := by
  have h1 : PT = 59 ∨ PT = 60 := h.imp And.left And.left
  have h2 : E = 55 ∨ E = 24 := h.imp And.right And.right
  rw [rlm]
  simp only [Sem.run_bind, rfl_parts PT h1, Result.andThen]
  simp [ReflectliteValue.elem, loadVar, isAgg, underlying, hu, ha, Result.andThen, rfl_elemOf PT E h, rfl_mk E h2]
theorem rls (v x : Value) : ReflectliteValue.set #[v, x] = (do
    let (some (dst, a, fl), some (src, b, _)) := (← ReflectliteValue.parts v, ← ReflectliteValue.parts x)
      | unsupported (.noEntry "extern/(internal/reflectlite.Value).Set.zeroValue")
    if fl / ReflectliteValue.flagAddr % 2 == 0 then unsupported (.noEntry "extern/(internal/reflectlite.Value).Set.unaddressable")
    let val ← loadVar src b
    if ← Rtype.directlyAssignable dst src then storeVar dst a val
    else if ← Rtype.implements dst src then
      if (← Rtype.kind src) == 20 then
        match val with
        | .nilIface => unsupported (.noEntry "extern/reflectlite: a nil value of one interface type handed on as a value of another")
        | _ => storeVar dst a val
      else storeVar dst a (.iface src val)
    else panicString ("reflectlite.Set: value of type " ++ (← Rtype.spelt src) ++ " is not assignable to type " ++ (← Rtype.spelt dst))
    pure (.tuple #[])) := rfl
theorem rfl_partsWa (a : Addr) (w : World) : (ReflectliteValue.parts (.agg #[.pointer (some ⟨4, 55, none⟩), .pointer (some a), .int .u64 409])).run Tryd.prog w = .ok (some (55, a, 409)) w := by kernel_rfl
theorem rfl_partsW (a : Addr) (w : World) : (ReflectliteValue.parts (.agg #[.pointer (some ⟨4, 55, none⟩), .pointer (some a), .int .u64 153])).run Tryd.prog w = .ok (some (55, a, 153)) w := by kernel_rfl
theorem rfl_partsEa (a : Addr) (w : World) : (ReflectliteValue.parts (.agg #[.pointer (some ⟨4, 24, none⟩), .pointer (some a), .int .u64 386])).run Tryd.prog w = .ok (some (24, a, 386)) w := by kernel_rfl
theorem rfl_partsE (a : Addr) (w : World) : (ReflectliteValue.parts (.agg #[.pointer (some ⟨4, 24, none⟩), .pointer (some a), .int .u64 130])).run Tryd.prog w = .ok (some (24, a, 130)) w := by kernel_rfl
theorem rfl_direct (E : TypeId) (h : E = 55 ∨ E = 24) (w : World) : (Rtype.directlyAssignable E E).run Tryd.prog w = .ok true w := by
  rcases h with rfl | rfl <;> kernel_rfl
theorem rfl_setE (ta b : Addr) (y : Int) (old : Value) (W : World) (hb : W.cell? b = some (.int .i64 y)) (ht : W.cell? ta = some old) (hf : W.frozen? ta = false) :
    (ReflectliteValue.set #[.agg #[.pointer (some ⟨4, 24, none⟩), .pointer (some ta), .int .u64 386], .agg #[.pointer (some ⟨4, 24, none⟩), .pointer (some b), .int .u64 130]]).run Tryd.prog W
      = .ok (.tuple #[]) (W.setCell ta (.int .i64 y)) := by
  rw [rls]
  simp only [Sem.run_bind, rfl_partsEa, rfl_partsE, Result.andThen]
  simp [ReflectliteValue.flagAddr, loadVar, isAgg, underlying, Tryd.underlying24, hb, Result.andThen, rfl_direct _ (Or.inr rfl), storeVar, Value.cells, storeCells, Addr.add]
  rw [run_store Tryd.prog W ta _ _ (by rfl)]
  simp [ht, hf]
theorem rfl_setW (g b : Nat) (x y x0 y0 : Int) (W : World) (hb : Blk W b 55 #[.int .i64 x, .int .i64 y]) (ht : Blk W g 55 #[.int .i64 x0, .int .i64 y0]) :
    (ReflectliteValue.set #[.agg #[.pointer (some ⟨4, 55, none⟩), .pointer (some ⟨g, 0, none⟩), .int .u64 409], .agg #[.pointer (some ⟨4, 55, none⟩), .pointer (some ⟨b, 0, none⟩), .int .u64 153]]).run Tryd.prog W
      = .ok (.tuple #[]) ((W.setCell ⟨g, 0, none⟩ (.int .i64 x)).setCell ⟨g, 1, none⟩ (.int .i64 y)) := by
  have b0 := hb.cell 0
  have b1 := hb.cell 1
  have t0 := ht.cell 0
  have t1 := ht.cell 1
  have f0 := Blk.frozen ht 0
  have f1 := Blk.frozen ht 1
  simp at b0 b1 t0 t1
  rw [rls]
  simp only [Sem.run_bind, rfl_partsWa, rfl_partsW, Result.andThen]
  simp [ReflectliteValue.flagAddr, loadVar, isAgg, underlying, Tryd.underlying55, Result.andThen, rfl_direct _ (Or.inl rfl), storeVar, Value.cells, Addr.add]
  have hl := run_loadCells_list (P := Tryd.prog) W ⟨b, 0, none⟩ [.int .i64 x, .int .i64 y] (fun j v hj => by
    match j, hj with
    | 0, hj => simp at hj; subst hj; simpa [Addr.add] using b0
    | 1, hj => simp at hj; subst hj; simpa [Addr.add] using b1)
  have hl2 : (loadCells ⟨b, 0, none⟩ 2).run Tryd.prog W = .ok #[.int .i64 x, .int .i64 y] W := by simpa using hl
  rw [hl2]
  simp [storeCells, Addr.add, Result.andThen]
  rw [run_store Tryd.prog W ⟨g, 0, none⟩ _ _ (by rfl)]
  simp only [t0, f0, Result.andThen, Bool.false_eq_true, if_false]
  have ht2 := ht.set (u := .int .i64 x) 0
  have u1 := ht2.cell 1
  have f2 := Blk.frozen ht2 1
  simp at u1
  rw [run_store Tryd.prog _ ⟨g, 1, none⟩ _ _ (by rfl)]
  simp only [u1, f2, Result.andThen, Bool.false_eq_true, if_false]
theorem rfl_mKind (n : Nat) (h : Value) (w : World) : (Go.method (n + 1) 112 (.agg #[h]) "Kind").run Tryd.prog w = .ok (97, h) w := by kernel_rfl
theorem rfl_mElem (n : Nat) (h : Value) (w : World) : (Go.method (n + 1) 112 (.agg #[h]) "Elem").run Tryd.prog w = .ok (110, .agg #[h]) w := by kernel_rfl
theorem rfl_mImpl (n : Nat) (h : Value) (w : World) : (Go.method (n + 1) 112 (.agg #[h]) "Implements").run Tryd.prog w = .ok (111, .agg #[h]) w := by kernel_rfl
theorem rfl_mAssign (n : Nat) (h : Value) (w : World) : (Go.method (n + 1) 112 (.agg #[h]) "AssignableTo").run Tryd.prog w = .ok (108, .agg #[h]) w := by kernel_rfl
theorem rfl_noAs (v : Value) (w : World) : (Instr.typeAssert (.iface 55 v) 42 117 true).run Tryd.prog w = .ok (.tuple #[.nilIface, .bool false]) w := run_typeAssert_lacksB Tryd.underlying117 (by kernel_rfl) (by kernel_rfl) v _ w
theorem rfl_unwraps (v : Value) (w : World) : (Instr.typeAssert (.iface 55 v) 42 120 true).run Tryd.prog w = .ok (.tuple #[.iface 55 v, .bool true]) w := run_typeAssert_hasB Tryd.underlying120 (by kernel_rfl) v _ w
theorem rfl_mUnwrap (n : Nat) (x y : Int) (w : World) : (Go.method (n + 1) 55 (.agg #[.int .i64 x, .int .i64 y]) "Unwrap").run Tryd.prog w = .ok (102, .agg #[.int .i64 x, .int .i64 y]) w := by kernel_rfl
def ErrT (w : World) : Prop := w.cell? ⟨1, 0, none⟩ = some (.iface 112 (.agg #[.pointer (some ⟨4, 42, none⟩)]))
theorem ErrT.below {w w' : World} (h : ErrT w) (hb : Below w.heap.size w w') : ErrT w' := (hb.cell (p := ⟨1, 0, none⟩) (lt_of_cell h)).trans h
set_option maxRecDepth 20000 in
set_option maxHeartbeats 8000000 in
theorem asI_wrong (x y x0 y0 : Int) (g b : Nat) (w : World) (hb : w.cell? ⟨b, 0, none⟩ = some (.pointer (some ⟨g, 0, none⟩))) (ht : Blk w g 55 #[.int .i64 x0, .int .i64 y0]) :
    Calls Tryd.prog 41 #[.iface 55 (.agg #[.int .i64 x, .int .i64 y]), .iface 59 (.pointer (some ⟨g, 0, none⟩)), .agg #[.pointer (some ⟨4, 59, none⟩), .pointer (some ⟨b, 0, none⟩), .int .u64 150], .iface 112 (.agg #[.pointer (some ⟨4, 55, none⟩)])] w fun e w' => e = .returned (.bool true) ∧ Blk w' g 55 #[.int .i64 x, .int .i64 y] ∧ Kept (fun k => k = g) w w' := by
  have h1 := @run_callFunc_extern Tryd.prog 38 _ (fun args => ReflectliteValue.unpack (args.getD 0 (.tuple #[]))) Tryd.func38 (by kernel_rfl) (by kernel_rfl) (by kernel_rfl) (by kernel_rfl)
  have h2 := @run_callFunc_extern Tryd.prog 39 _ (ReflectliteValue.methodAny (ReflectliteValue.valueError "reflectlite.Value.Type" 0) (fun t _ _ _ => ReflectliteType.toType t)) Tryd.func39 (by kernel_rfl) (by kernel_rfl) (by kernel_rfl) (by kernel_rfl)
  have h3 := @run_callFunc_extern Tryd.prog 40 _ (ReflectliteValue.method (ReflectliteValue.valueError "reflectlite.Value.IsNil" 0) ReflectliteValue.isNil) Tryd.func40 (by kernel_rfl) (by kernel_rfl) (by kernel_rfl) (by kernel_rfl)
  have h4 := @run_callFunc_extern Tryd.prog 97 _ (ReflectliteType.abiMethod fun t => do pure (.int .u8 (← Rtype.kind t))) Tryd.func97 (by kernel_rfl) (by kernel_rfl) (by kernel_rfl) (by kernel_rfl)
  have h5 := @run_callFunc_extern Tryd.prog 110 _ (ReflectliteType.method ReflectliteType.elem) Tryd.func110 (by kernel_rfl) (by kernel_rfl) (by kernel_rfl) (by kernel_rfl)
  have h6 := @run_callFunc_extern Tryd.prog 111 _ (ReflectliteType.relation "Implements" ReflectliteType.implements_) Tryd.func111 (by kernel_rfl) (by kernel_rfl) (by kernel_rfl) (by kernel_rfl)
  have h7 := @run_callFunc_extern Tryd.prog 58 _ ReflectliteType.typeOf Tryd.func58 (by kernel_rfl) (by kernel_rfl) (by kernel_rfl) (by kernel_rfl)
  have h8 := @run_callFunc_extern Tryd.prog 108 _ (ReflectliteType.relation "AssignableTo" ReflectliteType.assignableTo) Tryd.func108 (by kernel_rfl) (by kernel_rfl) (by kernel_rfl) (by kernel_rfl)
  have h9 := @run_callFunc_extern Tryd.prog 59 _ (ReflectliteValue.method (ReflectliteValue.valueError "reflectlite.Value.Elem" 0) ReflectliteValue.elem) Tryd.func59 (by kernel_rfl) (by kernel_rfl) (by kernel_rfl) (by kernel_rfl)
  have h10 := @run_callFunc_extern Tryd.prog 60 _ ReflectliteValue.set Tryd.func60 (by kernel_rfl) (by kernel_rfl) (by kernel_rfl) (by kernel_rfl)
  have q7 := rfl_typeOf 55 (Or.inl rfl)
  have q8 := rfl_assign 55 55 (Or.inl rfl) (Or.inl rfl)
  have q9 := rfl_valueW
  have m4 := rfl_mAssign
  have hgl : g < w.heap.size := ht.lt
  have hbl : b < w.heap.size := lt_of_cell hb
  have n9 := fun o => rfl_elemV 59 55 (Or.inl ⟨rfl, rfl⟩) Tryd.underlying59 ⟨b, 0, none⟩ ⟨g, 0, none⟩ (w.alloc o) (by rw [World.cell?_alloc_lt _ _ ⟨b, 0, none⟩ hbl]; exact hb)
  have hfl : flE 55 = 409 := rfl
  have st := fun o => rfl_setW g (w.heap.size + 1) x y x0 y0 ((w.alloc o).alloc (.cells #[.int .i64 x, .int .i64 y] 55)) (by
    have := Blk.new (w.alloc o) 55 #[.int .i64 x, .int .i64 y]
    simpa using this) ((ht.alloc o).alloc _)
  go_enter Tryd.func41, Tryd.ntmps41
  go_wp2_with fail
  refine wp_loop_rounds 1 ?_
  rw [rounds_succ]
  go_wp2_with fail
  go_ret
  have hs := ((ht.set (u := .int .i64 x) 0).set (u := .int .i64 y) 1)
  have hk : Kept (fun k => k = g) w ((w.setCell ⟨g, 0, none⟩ (.int .i64 x)).setCell ⟨g, 1, none⟩ (.int .i64 y)) := ((Kept.refl (fun k => k = g) w).setCell (p := ⟨g, 0, none⟩) _ (fun _ => rfl)).setCell (p := ⟨g, 1, none⟩) _ (fun _ => rfl)
  refine ⟨rfl, ?_, (hk.alloc _).alloc _⟩
  simpa using (hs.alloc _).alloc _
set_option maxRecDepth 20000 in
set_option maxHeartbeats 8000000 in
theorem as_wrong (x y x0 y0 : Int) (g : Nat) (w : World) (hg : ErrT w) (ht : Blk w g 55 #[.int .i64 x0, .int .i64 y0]) :
    Calls Tryd.prog 24 #[.iface 55 (.agg #[.int .i64 x, .int .i64 y]), .iface 59 (.pointer (some ⟨g, 0, none⟩))] w fun e w' => e = .returned (.bool true) ∧ Blk w' g 55 #[.int .i64 x, .int .i64 y] ∧ Kept (fun k => k = g) w w' := by
  have h1 := @run_callFunc_extern Tryd.prog 38 _ (fun args => ReflectliteValue.unpack (args.getD 0 (.tuple #[]))) Tryd.func38 (by kernel_rfl) (by kernel_rfl) (by kernel_rfl) (by kernel_rfl)
  have h2 := @run_callFunc_extern Tryd.prog 39 _ (ReflectliteValue.methodAny (ReflectliteValue.valueError "reflectlite.Value.Type" 0) (fun t _ _ _ => ReflectliteType.toType t)) Tryd.func39 (by kernel_rfl) (by kernel_rfl) (by kernel_rfl) (by kernel_rfl)
  have h3 := @run_callFunc_extern Tryd.prog 40 _ (ReflectliteValue.method (ReflectliteValue.valueError "reflectlite.Value.IsNil" 0) ReflectliteValue.isNil) Tryd.func40 (by kernel_rfl) (by kernel_rfl) (by kernel_rfl) (by kernel_rfl)
  have h4 := @run_callFunc_extern Tryd.prog 97 _ (ReflectliteType.abiMethod fun t => do pure (.int .u8 (← Rtype.kind t))) Tryd.func97 (by kernel_rfl) (by kernel_rfl) (by kernel_rfl) (by kernel_rfl)
  have h5 := @run_callFunc_extern Tryd.prog 110 _ (ReflectliteType.method ReflectliteType.elem) Tryd.func110 (by kernel_rfl) (by kernel_rfl) (by kernel_rfl) (by kernel_rfl)
  have h6 := @run_callFunc_extern Tryd.prog 111 _ (ReflectliteType.relation "Implements" ReflectliteType.implements_) Tryd.func111 (by kernel_rfl) (by kernel_rfl) (by kernel_rfl) (by kernel_rfl)
  have h7 := @run_callFunc_extern Tryd.prog 58 _ ReflectliteType.typeOf Tryd.func58 (by kernel_rfl) (by kernel_rfl) (by kernel_rfl) (by kernel_rfl)
  have h8 := @run_callFunc_extern Tryd.prog 108 _ (ReflectliteType.relation "AssignableTo" ReflectliteType.assignableTo) Tryd.func108 (by kernel_rfl) (by kernel_rfl) (by kernel_rfl) (by kernel_rfl)
  have h9 := @run_callFunc_extern Tryd.prog 59 _ (ReflectliteValue.method (ReflectliteValue.valueError "reflectlite.Value.Elem" 0) ReflectliteValue.elem) Tryd.func59 (by kernel_rfl) (by kernel_rfl) (by kernel_rfl) (by kernel_rfl)
  have h10 := @run_callFunc_extern Tryd.prog 60 _ ReflectliteValue.set Tryd.func60 (by kernel_rfl) (by kernel_rfl) (by kernel_rfl) (by kernel_rfl)
  have q1 := rfl_valueOf 59 (Or.inl rfl)
  have q2 := rfl_type 59 (Or.inl rfl)
  have q3 := rfl_kindP 59 (Or.inl rfl)
  have q4 := rfl_kindW
  have q5 := rfl_elemT 59 55 (Or.inl ⟨rfl, rfl⟩)
  have q6 := rfl_impl 55 (Or.inl rfl)
  have q7 := rfl_typeOf 55 (Or.inl rfl)
  have q8 := rfl_assign 55 55 (Or.inl rfl) (Or.inl rfl)
  have q9 := rfl_valueW
  have hlt : g < w.heap.size := ht.lt
  have n3 := rfl_isNil 59 55 (Or.inl rfl) Tryd.underlying59 ⟨w.heap.size, 0, none⟩ ⟨g, 0, none⟩
  have n9 := rfl_elemV 59 55 (Or.inl ⟨rfl, rfl⟩) Tryd.underlying59 ⟨w.heap.size, 0, none⟩ ⟨g, 0, none⟩
  have m1 := rfl_mKind
  have m2 := rfl_mElem
  have m3 := rfl_mImpl
  have m4 := rfl_mAssign
  have hg0 : w.cell? ⟨1, 0, none⟩ = some (.iface 112 (.agg #[.pointer (some ⟨4, 42, none⟩)])) := hg
  have hgl : 1 < w.heap.size := lt_of_cell hg0
  have hgA : ∀ o1 o2, ((w.alloc o1).alloc o2).cell? ⟨1, 0, none⟩ = some (.iface 112 (.agg #[.pointer (some ⟨4, 42, none⟩)])) := fun o1 o2 => by
    rw [World.cell?_alloc_lt _ _ ⟨1, 0, none⟩ (by simp; omega), World.cell?_alloc_lt _ _ ⟨1, 0, none⟩ hgl]; exact hg0
  go_enter Tryd.func24, Tryd.ntmps24
  go_wp2_with fail
  refine (asI_wrong x y x0 y0 g w.heap.size _ (by rw [World.cell?_alloc_lt _ _ ⟨w.heap.size, 0, none⟩ (by simp)]; simp) ((ht.alloc _).alloc _)).mono ?_
  rintro e wz ⟨rfl, hB, hK⟩
  go_wp2_with fail
  go_ret
  exact ⟨rfl, hB, (((Kept.refl _ _).alloc _).alloc _).trans hK⟩
set_option maxRecDepth 20000 in
set_option maxHeartbeats 8000000 in
theorem unwrap_any (x y : Int) (w : World) : Calls Tryd.prog 102 #[.agg #[.int .i64 x, .int .i64 y]] w fun e w' => e = .returned (.iface 24 (.int .i64 y)) ∧ w.alloc (.cells #[.int .i64 x, .int .i64 y] 55) = w' := by
  go_enter Tryd.func102, Tryd.ntmps102
  go_wp2_with fail
  go_ret
  exact ⟨rfl, rfl⟩
set_option maxRecDepth 20000 in
set_option maxHeartbeats 8000000 in
theorem asI_code (x y y0 : Int) (g b : Nat) (w : World) (hb : w.cell? ⟨b, 0, none⟩ = some (.pointer (some ⟨g, 0, none⟩))) (ht : Blk w g 24 #[.int .i64 y0]) :
    Calls Tryd.prog 41 #[.iface 55 (.agg #[.int .i64 x, .int .i64 y]), .iface 60 (.pointer (some ⟨g, 0, none⟩)), .agg #[.pointer (some ⟨4, 60, none⟩), .pointer (some ⟨b, 0, none⟩), .int .u64 150], .iface 112 (.agg #[.pointer (some ⟨4, 24, none⟩)])] w fun e w' => e = .returned (.bool true) ∧ Blk w' g 24 #[.int .i64 y] ∧ Kept (fun k => k = g) w w' := by
  have h1 := @run_callFunc_extern Tryd.prog 38 _ (fun args => ReflectliteValue.unpack (args.getD 0 (.tuple #[]))) Tryd.func38 (by kernel_rfl) (by kernel_rfl) (by kernel_rfl) (by kernel_rfl)
  have h2 := @run_callFunc_extern Tryd.prog 39 _ (ReflectliteValue.methodAny (ReflectliteValue.valueError "reflectlite.Value.Type" 0) (fun t _ _ _ => ReflectliteType.toType t)) Tryd.func39 (by kernel_rfl) (by kernel_rfl) (by kernel_rfl) (by kernel_rfl)
  have h3 := @run_callFunc_extern Tryd.prog 40 _ (ReflectliteValue.method (ReflectliteValue.valueError "reflectlite.Value.IsNil" 0) ReflectliteValue.isNil) Tryd.func40 (by kernel_rfl) (by kernel_rfl) (by kernel_rfl) (by kernel_rfl)
  have h4 := @run_callFunc_extern Tryd.prog 97 _ (ReflectliteType.abiMethod fun t => do pure (.int .u8 (← Rtype.kind t))) Tryd.func97 (by kernel_rfl) (by kernel_rfl) (by kernel_rfl) (by kernel_rfl)
  have h5 := @run_callFunc_extern Tryd.prog 110 _ (ReflectliteType.method ReflectliteType.elem) Tryd.func110 (by kernel_rfl) (by kernel_rfl) (by kernel_rfl) (by kernel_rfl)
  have h6 := @run_callFunc_extern Tryd.prog 111 _ (ReflectliteType.relation "Implements" ReflectliteType.implements_) Tryd.func111 (by kernel_rfl) (by kernel_rfl) (by kernel_rfl) (by kernel_rfl)
  have h7 := @run_callFunc_extern Tryd.prog 58 _ ReflectliteType.typeOf Tryd.func58 (by kernel_rfl) (by kernel_rfl) (by kernel_rfl) (by kernel_rfl)
  have h8 := @run_callFunc_extern Tryd.prog 108 _ (ReflectliteType.relation "AssignableTo" ReflectliteType.assignableTo) Tryd.func108 (by kernel_rfl) (by kernel_rfl) (by kernel_rfl) (by kernel_rfl)
  have h9 := @run_callFunc_extern Tryd.prog 59 _ (ReflectliteValue.method (ReflectliteValue.valueError "reflectlite.Value.Elem" 0) ReflectliteValue.elem) Tryd.func59 (by kernel_rfl) (by kernel_rfl) (by kernel_rfl) (by kernel_rfl)
  have h10 := @run_callFunc_extern Tryd.prog 60 _ ReflectliteValue.set Tryd.func60 (by kernel_rfl) (by kernel_rfl) (by kernel_rfl) (by kernel_rfl)
  have q7 := rfl_typeOf 55 (Or.inl rfl)
  have q7b := rfl_typeOf 24 (Or.inr rfl)
  have q8 := rfl_assign 55 24 (Or.inl rfl) (Or.inr rfl)
  have q8b := rfl_assign 24 24 (Or.inr rfl) (Or.inr rfl)
  have q9 := rfl_valueE
  have q10 := rfl_noAs
  have q11 := rfl_unwraps
  have m5 := rfl_mUnwrap
  have m4 := rfl_mAssign
  have hgl : g < w.heap.size := ht.lt
  have hbl : b < w.heap.size := lt_of_cell hb
  have n9 := fun o o2 => rfl_elemV 60 24 (Or.inr ⟨rfl, rfl⟩) Tryd.underlying60 ⟨b, 0, none⟩ ⟨g, 0, none⟩ ((w.alloc o).alloc o2) (by rw [World.cell?_alloc_lt _ _ ⟨b, 0, none⟩ (by simp; omega), World.cell?_alloc_lt _ _ ⟨b, 0, none⟩ hbl]; exact hb)
  have hfl : flE 24 = 386 := rfl
  have st := fun o o2 => rfl_setE ⟨g, 0, none⟩ ⟨w.heap.size + 1 + 1, 0, none⟩ y (.int .i64 y0) (((w.alloc o).alloc o2).alloc (.cells #[.int .i64 y] 24)) (by
    have := (Blk.new ((w.alloc o).alloc o2) 24 #[.int .i64 y]).cell 0
    simpa using this) (by
    have := (((ht.alloc o).alloc o2).alloc (.cells #[.int .i64 y] 24)).cell 0
    simpa using this) (Blk.frozen (((ht.alloc o).alloc o2).alloc (.cells #[.int .i64 y] 24)) 0)
  go_enter Tryd.func41, Tryd.ntmps41
  go_wp2_with fail
  refine wp_loop_rounds 2 ?_
  rw [rounds_succ]
  go_wp2_with fail
  refine (unwrap_any x y _).mono ?_
  rintro e wz ⟨rfl, rfl⟩
  go_wp2_with fail
  rw [rounds_succ]
  go_wp2_with fail
  go_ret
  refine ⟨rfl, ?_, ((((Kept.refl (fun k => k = g) w).alloc _).alloc _).alloc _).setCell (p := ⟨g, 0, none⟩) _ (fun _ => rfl)⟩
  have hs := (((ht.alloc (.cells #[.pointer (some ⟨4, 60, none⟩), .pointer (some ⟨b, 0, none⟩), .int .u64 150] 86)).alloc (.cells #[.int .i64 x, .int .i64 y] 55)).alloc (.cells #[.int .i64 y] 24)).set (u := .int .i64 y) 0
  simpa using hs
set_option maxRecDepth 20000 in
set_option maxHeartbeats 8000000 in
theorem as_code (x y y0 : Int) (g : Nat) (w : World) (hg : ErrT w) (ht : Blk w g 24 #[.int .i64 y0]) :
    Calls Tryd.prog 24 #[.iface 55 (.agg #[.int .i64 x, .int .i64 y]), .iface 60 (.pointer (some ⟨g, 0, none⟩))] w fun e w' => e = .returned (.bool true) ∧ Blk w' g 24 #[.int .i64 y] ∧ Kept (fun k => k = g) w w' := by
  have h1 := @run_callFunc_extern Tryd.prog 38 _ (fun args => ReflectliteValue.unpack (args.getD 0 (.tuple #[]))) Tryd.func38 (by kernel_rfl) (by kernel_rfl) (by kernel_rfl) (by kernel_rfl)
  have h2 := @run_callFunc_extern Tryd.prog 39 _ (ReflectliteValue.methodAny (ReflectliteValue.valueError "reflectlite.Value.Type" 0) (fun t _ _ _ => ReflectliteType.toType t)) Tryd.func39 (by kernel_rfl) (by kernel_rfl) (by kernel_rfl) (by kernel_rfl)
  have h3 := @run_callFunc_extern Tryd.prog 40 _ (ReflectliteValue.method (ReflectliteValue.valueError "reflectlite.Value.IsNil" 0) ReflectliteValue.isNil) Tryd.func40 (by kernel_rfl) (by kernel_rfl) (by kernel_rfl) (by kernel_rfl)
  have h4 := @run_callFunc_extern Tryd.prog 97 _ (ReflectliteType.abiMethod fun t => do pure (.int .u8 (← Rtype.kind t))) Tryd.func97 (by kernel_rfl) (by kernel_rfl) (by kernel_rfl) (by kernel_rfl)
  have h5 := @run_callFunc_extern Tryd.prog 110 _ (ReflectliteType.method ReflectliteType.elem) Tryd.func110 (by kernel_rfl) (by kernel_rfl) (by kernel_rfl) (by kernel_rfl)
  have h6 := @run_callFunc_extern Tryd.prog 111 _ (ReflectliteType.relation "Implements" ReflectliteType.implements_) Tryd.func111 (by kernel_rfl) (by kernel_rfl) (by kernel_rfl) (by kernel_rfl)
  have h7 := @run_callFunc_extern Tryd.prog 58 _ ReflectliteType.typeOf Tryd.func58 (by kernel_rfl) (by kernel_rfl) (by kernel_rfl) (by kernel_rfl)
  have h8 := @run_callFunc_extern Tryd.prog 108 _ (ReflectliteType.relation "AssignableTo" ReflectliteType.assignableTo) Tryd.func108 (by kernel_rfl) (by kernel_rfl) (by kernel_rfl) (by kernel_rfl)
  have h9 := @run_callFunc_extern Tryd.prog 59 _ (ReflectliteValue.method (ReflectliteValue.valueError "reflectlite.Value.Elem" 0) ReflectliteValue.elem) Tryd.func59 (by kernel_rfl) (by kernel_rfl) (by kernel_rfl) (by kernel_rfl)
  have h10 := @run_callFunc_extern Tryd.prog 60 _ ReflectliteValue.set Tryd.func60 (by kernel_rfl) (by kernel_rfl) (by kernel_rfl) (by kernel_rfl)
  have q1 := rfl_valueOf 60 (Or.inr rfl)
  have q2 := rfl_type 60 (Or.inr rfl)
  have q3 := rfl_kindP 60 (Or.inr rfl)
  have q4 := rfl_kindE
  have q5 := rfl_elemT 60 24 (Or.inr ⟨rfl, rfl⟩)
  have q6 := rfl_impl 24 (Or.inr rfl)
  have hlt : g < w.heap.size := ht.lt
  have n3 := rfl_isNil 60 24 (Or.inr rfl) Tryd.underlying60 ⟨w.heap.size, 0, none⟩ ⟨g, 0, none⟩
  have m1 := rfl_mKind
  have m2 := rfl_mElem
  have m3 := rfl_mImpl
  have m4 := rfl_mAssign
  have hg0 : w.cell? ⟨1, 0, none⟩ = some (.iface 112 (.agg #[.pointer (some ⟨4, 42, none⟩)])) := hg
  have hgl : 1 < w.heap.size := lt_of_cell hg0
  have hgA : ∀ o1 o2, ((w.alloc o1).alloc o2).cell? ⟨1, 0, none⟩ = some (.iface 112 (.agg #[.pointer (some ⟨4, 42, none⟩)])) := fun o1 o2 => by
    rw [World.cell?_alloc_lt _ _ ⟨1, 0, none⟩ (by simp; omega), World.cell?_alloc_lt _ _ ⟨1, 0, none⟩ hgl]; exact hg0
  go_enter Tryd.func24, Tryd.ntmps24
  go_wp2_with fail
  refine (asI_code x y y0 g w.heap.size _ (by rw [World.cell?_alloc_lt _ _ ⟨w.heap.size, 0, none⟩ (by simp)]; simp) ((ht.alloc _).alloc _)).mono ?_
  rintro e wz ⟨rfl, hB, hK⟩
  go_wp2_with fail
  go_ret
  exact ⟨rfl, hB, (((Kept.refl _ _).alloc _).alloc _).trans hK⟩
end Go.Proofs.YtfpdlmddakgilaaDoor

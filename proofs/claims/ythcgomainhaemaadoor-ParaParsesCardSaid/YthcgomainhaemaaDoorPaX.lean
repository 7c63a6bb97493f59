/- What the rows of para ask: arguments that are paragraphs; the cell of MaxLen; the wrap that keeps the world's shape and the row's list. -/
import Derived.Test.YthcgomainhaemaaDoorOpn
import Derived.Test.YthcgomainhaemaaDoorPaD
import Derived.Test.YthcgomainhaemaaDoorBldB
import Derived.HandedShaped
import Derived.Handed
import Derived.Shelf.Vars
namespace Go.Proofs.YthcgomainhaemaaDoor
open Go.ChangeShapes Go.WideShapes Go.ChangeAt Go.RowKit
theorem opens_field {H : Type} {enc : TypeId × Value → H} {W : World} : Opens enc Tryd.prog W 37 Rfield := by
  intro fuel cs x h hnf
  obtain ⟨xs, n, _, hx, hl, hlen, hf⟩ := DataW.trod_struct Tryd.underlying37 h
  match xs, hlen with
  | [y0, y1], _ =>
    have hl : cs.length = 2 := hl.trans (by kernel_rfl)
    match cs, hl with
    | [c0, c1], _ =>
      have k0 : DataW.trod enc Tryd.prog W 0 (fun _ => true) true n 9 [c0] = some y0 := hf 0 _ rfl
      have k1 : DataW.trod enc Tryd.prog W 0 (fun _ => true) true n 9 [c1] = some y1 := hf 1 _ rfl
      obtain ⟨nm, e0, _, _⟩ := DataW.trod_string Tryd.underlying9 k0
      obtain ⟨vr, e1, _, _⟩ := DataW.trod_string Tryd.underlying9 k1
      have e0 : c0 = .string nm := by simpa using e0
      have e1 : c1 = .string vr := by simpa using e1
      refine ⟨⟨nm.data.toList, vr.data.toList⟩, ?_⟩
      rw [e0, e1]
      simp [bs, Rfield]
theorem maxC_of {W : World} (h : W.ShapedOpen Tryd.prog) : MaxC W :=
  cell_of_shapedOpen_int (zero := #[.int .i64 0]) (t := 3) h (of_decide_eq_true (by kernel_rfl)) (by kernel_rfl) rfl (by kernel_rfl) (by kernel_rfl) Tryd.underlying3
/-- The row's list and the world's shape, both handed to the walk. -/
theorem returns_and_shaped {H : Type} {enc : TypeId × Value → H} {a : Assume} {C : Checked} {os : Os} {f : FuncId} {fn : Func} {s : ChangeSpec} {conds : List PathCond} {apart fresh handsOn again : Bool} {X : World → Array Value → Prop}
    (hX : ∀ (w w' : World) (args : Array Value), w.heap = w'.heap → X w args → X w' args) (own : ownKnob C.prog.godebug = none) (started : os.Started) (noInit : C.prog.inits.idxOf? f = none) (hfn : C.prog.funcs[f]? = some fn)
    (witness : ∃ (w : World) (tape : Tape) (i : Input), w.os = os ∧ (w.forCall tape i).Shaped C.prog ∧ i.vars = [] ∧ Input.okWide C.prog (w.forCall tape i) .any w.heap.size f i ∧
      ((s.pre enc C.prog fn conds apart (w.forCall tape i).memory i.args ∧ X (w.forCall tape i).memory i.args) ∧ sizedMet enc C.prog fn (OpenSpec.ofChange s) apart (w.forCall tape i).memory i.args) ∧ a.holds C.prog (lone (Frame.enter C.prog f i.args .normal) [] (w.forCall tape i)))
    (walk : ∀ (W : World) (base : Nat) (args : Array Value) (ds gs : List (DataW H)) (before : List MemPlace),
      (∀ (j : Nat) t v, fn.params[j]? = some t → args[j]? = some v → Value.okWide C.prog W .any base t v) → DataW.Whole enc C.prog fn.params.toList s.vars apart W args.toList ds gs before → X W args → W.ShapedOpen C.prog →
      Calls C.prog f args W fun e W' => ∃ v, e = .returned v ∧ s.post enc C.prog fn apart fresh handsOn again W args v W') :
    ReturnsInHanded a C os f .any (fun w args => (s.pre enc C.prog fn conds apart w args ∧ X w args) ∧ sizedMet enc C.prog fn (OpenSpec.ofChange s) apart w args) (s.post enc C.prog fn apart fresh handsOn again) := by
  refine returnsInHanded_of_calls own started noInit witness fun w tape i _ sh _ ok pre _ => ?_
  obtain ⟨_, _, _, g, hg, _, _, _, _, hv⟩ := ok
  cases Option.some.inj (hg.symm.trans hfn)
  obtain ⟨⟨⟨ds, gs, before, hw, _⟩, hx⟩, _⟩ := pre
  refine (walk (w.forCall tape i) w.heap.size i.args ds gs before hv (DataW.Whole.of_heap (w' := w.forCall tape i) (by rfl) hw) (hX (w.forCall tape i).memory _ _ (by rfl) hx) sh).mono ?_
  rintro e W' ⟨v, rfl, hp⟩
  exact ChangeSpec.post_blind hp
end Go.Proofs.YthcgomainhaemaaDoor

/- From the row's hypothesis on its listed variables, a type's handle among them, to the cells; and a world that meets it. -/
import Derived.Test.YtfpdlmddakgilaaDoorRows
import Derived.Test.YtfpdlmddakgilaaDoorAsE
import Derived.Test.YtfpdlmddakgilaaDoorAdB
import Derived.Test.YtfpdlmddakgilaaDoorOpn
import Derived.Test.YtfpdlmddakgilaaDoorRow
import Derived.LaidHandle
import Derived.Stop.Joined
namespace Go.Proofs.YtfpdlmddakgilaaDoor
open Go.ChangeShapes Go.WideShapes Go.RowKit
theorem eT : Tryd.prog.globalNamed "errors.errorType" = some 1 := by kernel_rfl
theorem eR : (Tryd.prog.cutTypes.find? (·.1 == "internal/reflectlite.rtype")).map (·.2) = some 112 := by kernel_rfl
theorem eRow : ((List.range 166).filter fun t => Tryd.prog.rowNamed t [101, 114, 114, 111, 114]) = [42] := by kernel_rfl
theorem eSize : Tryd.prog.types.size = 166 := by kernel_rfl
noncomputable def listD : List (String × DataW Unit) := [("drayage/version.words", Rows.laid_drayage_version_words), ("drayage/adep.signs", Rows.laid_drayage_adep_signs)]
noncomputable def listL : List (String × DataW Unit) := [("errors.errorType", Rows.laid_errors_errorType), ("drayage/version.words", Rows.laid_drayage_version_words), ("drayage/adep.signs", Rows.laid_drayage_adep_signs)]
theorem data_of_laid {W : World} (h : laidMetH Tryd.prog listL W) : laidMet Tryd.prog listD W := by
  have h' : laidMet Tryd.prog listD W ∧ handlesMet Tryd.prog [("errors.errorType", Rows.laid_errors_errorType)] W := h
  exact h'.1
theorem errT_of_laid {W : World} (h : laidMetH Tryd.prog listL W) : ErrT W := by
  have h' : laidMet Tryd.prog listD W ∧ handlesMet Tryd.prog [("errors.errorType", Rows.laid_errors_errorType)] W := h
  obtain ⟨name, u, ty, e1, e2, e3, e4, e5⟩ := h'.2 _ (List.mem_singleton.2 rfl)
  have en : name = [101, 114, 114, 111, 114] := (Option.some.inj e1).symm
  subst en
  obtain rfl := Option.some.inj (eR.symm.trans e2)
  have hm : ty ∈ (List.range 166).filter fun t => Tryd.prog.rowNamed t [101, 114, 114, 111, 114] := List.mem_filter.2 ⟨List.mem_range.2 (by rw [← eSize]; exact e3), e4⟩
  rw [eRow] at hm
  obtain rfl := List.mem_singleton.1 hm
  have hh : typeHandle Tryd.prog 42 = .pointer (some ⟨4, 42, none⟩) := by kernel_rfl
  rw [hh] at e5
  simpa [ErrT] using World.var?_cell eT e5 0
/-- The settled world, with the handle in its variable. -/
noncomputable def handW (os : Os) : World :=
  let w0 := World.holding Tryd.prog os ⟨#[], #[], []⟩
  { w0 with heap := w0.heap.modify 1 fun
      | .cells _ t frozen => .cells #[.iface 112 (.agg #[.pointer (some ⟨4, 42, none⟩)])] t frozen
      | o => o }
noncomputable def laidW (os : Os) : World := (handW os).layVars Tryd.prog listD
theorem laidW_os (os : Os) : (laidW os).os = os := (World.layVars_os _ _ _).trans rfl
theorem laidW_met (os : Os) (args : Array Value) : laidMetH Tryd.prog listL ((laidW os).forCall (fun _ _ => 0) ⟨#[], args, []⟩).memory := by
  have e1 : (listD.filter fun x => (listD.map (·.1)).contains x.1) = listD := List.filter_eq_self.2 fun x hx => List.contains_iff_mem.2 (List.mem_map.2 ⟨x, hx, rfl⟩)
  have e2 : (listD.filter fun x => !(listD.map (·.1)).contains x.1) = [] := List.filter_eq_nil_iff.2 fun x hx => by rw [List.contains_iff_mem.2 (List.mem_map.2 ⟨x, hx, rfl⟩)]; simp
  have h : laidMet Tryd.prog listD (laidW os) := laidMet_layVars (w0 := handW os) (listD.map (·.1)) [] (by rw [e1]; rfl) (by rw [e1]; kernel_rfl) (by rw [e1]; kernel_rfl) (by rw [e2]; exact LaidIn.none)
  exact laidMetH_of_parts (h.of_heap (by simp [World.memory, World.forCall, Input.heap])) (by kernel_rfl)
instance : Inhabited Wt := ⟨⟨false, [], 0, []⟩⟩
set_option maxRecDepth 100000 in
open Go.ChangeShapes Go.WideShapes Go.ChangeAt in
theorem opens_want {H : Type} {enc : TypeId × Value → H} {W : World} : Opens enc Tryd.prog W 40 Rwant := by
  intro fuel cs x h hnf
  obtain ⟨xs, n, _, hx, hl, hlen, hf⟩ := DataW.trod_struct Tryd.underlying40 h
  match xs, hlen with
  | [y0, y1], _ =>
    have hl : cs.length = 4 := hl.trans (by kernel_rfl)
    match cs, hl with
    | [c0, c1, c2, c3], _ =>
      have k0 : DataW.trod enc Tryd.prog W 0 (fun _ => true) true n 4 [c0] = some y0 := hf 0 _ rfl
      have k1 : DataW.trod enc Tryd.prog W 0 (fun _ => true) true n 38 [c1, c2, c3] = some y1 := hf 1 _ rfl
      obtain ⟨z0, z1, z2, m, _, _, g0, g1, g2⟩ := Deep.trod_struct3 Tryd.underlying38 k1
      have g0 : DataW.trod enc Tryd.prog W 0 (fun _ => true) true m 9 [c1] = some z0 := g0
      have g1 : DataW.trod enc Tryd.prog W 0 (fun _ => true) true m 3 [c2] = some z1 := g1
      have g2 : DataW.trod enc Tryd.prog W 0 (fun _ => true) true m 9 [c3] = some z2 := g2
      obtain ⟨b, e0, _⟩ := DataW.trod_bool Tryd.underlying4 k0
      obtain ⟨nm, e1, _, _⟩ := DataW.trod_string Tryd.underlying9 g0
      obtain ⟨op, e2, _, _⟩ := DataW.trod_int Tryd.underlying3 g1
      obtain ⟨vr, e3, _, _⟩ := DataW.trod_string Tryd.underlying9 g2
      have e0 : c0 = .bool b := by simpa using e0
      have e1 : c1 = .string nm := by simpa using e1
      have e2 : c2 = .int .i64 op := by simpa using e2
      have e3 : c3 = .string vr := by simpa using e3
      refine ⟨⟨b, nm.data.toList, op, vr.data.toList⟩, ?_⟩
      rw [e0, e1, e2, e3]
      simp [bs, Rwant]
end Go.Proofs.YtfpdlmddakgilaaDoor

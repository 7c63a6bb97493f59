/- The law RdepParses: any text is the dependency that the document says, or refused at the place and by the error that it says. Proved for every input, as the card states it: the row with its listed variables tied to the program's text. -/
import Derived.Test.YtjdcegogkafmoaaDoorCards
import Derived.Test.YtjdcegogkafmoaaDoorTie
import Derived.Test.YtjdcegogkafmoaaDoorRow
import Derived.Test.YtjdcegogkafmoaaDoorReE
import Derived.SevenTiedAt
namespace Go.Proofs.YtjdcegogkafmoaaDoor.rdepParses
open Go.ChangeShapes Go.WideShapes Go.ChangeAt Go.RowKit
open Go.ChangeMaps (open_string shut_string)
theorem own : ownKnob Tryd.prog.godebug = none := by kernel_rfl
theorem laidOut : laidOutB Tryd.prog = true := by kernel_rfl
set_option maxRecDepth 100000 in
theorem lifted (os : Os) (started : os.Started) (H : Type) (enc : TypeId × Value → H) :
    ReturnsInHanded {} Tryd.checked os 3 .any (fun w args => (Rows.rdepParsesSpec.pre enc Tryd.prog Tryd.f3 [] false w args ∧ laidMetH Tryd.prog Rows.rdepParsesRow.laid w) ∧ sizedMet enc Tryd.prog Tryd.f3 (OpenSpec.ofChange Rows.rdepParsesSpec) false w args)
      (Rows.rdepParsesSpec.post enc Tryd.prog Tryd.f3 false true false false) := by
  refine returnsInHanded_of_change_and (C := Tryd.checked) (X := fun w _ => laidMetH Tryd.prog Rows.rdepParsesRow.laid w) (fun _ _ _ hh h => h.of_heap hh) own started (by kernel_rfl) Tryd.func3
    (ChangeSpec.witness_shaped (enc := enc) (C := Tryd.checked) (os := os) (X := fun w _ => laidMetH Tryd.prog Rows.rdepParsesRow.laid w) false (World.laidAll Tryd.prog os Rows.rdepParsesRow.laid) #[.string ⟨#[]⟩] 8 (World.laidAll_os _ _ _)
      (World.shaped_of_ZipB (by kernel_rfl) (by kernel_rfl)) (by kernel_rfl) (by kernel_rfl) (by kernel_rfl)
      (by rw [MakeChecks.laidMetH_plain _ _ _ (by kernel_rfl)]; exact laidMet_laidAll _ (by kernel_rfl) (by kernel_rfl))) ?_
  intro W base args ds gs before hval0 hW _ _ hL _
  have hval : ∀ (j : Nat) t v, Tryd.f3.params[j]? = some t → args[j]? = some v → Value.okWide Tryd.prog W .any base t v := hval0
  have hW' := hW
  obtain ⟨p, q, hA0, hV, rfl, hnf, _⟩ := hW
  have hA : DataW.TrodAll enc Tryd.prog W 0 (fun _ => true) true Tryd.f3.params.toList args.toList ds p := hA0
  rw [Tryd.params3] at hA hval
  have hK := hA
  obtain ⟨v0, vs0, d0, ds0, p0, q0, hargs, rfl, rfl, h0, r0⟩ := trodAll_cons hA
  have hL2 : laidMet Tryd.prog Rows.rdepParsesRow.laid W := by rw [← MakeChecks.laidMetH_plain _ _ _ (by kernel_rfl)]; exact hL
  have hT0 : laidMet Tryd.prog [("drayage/version.words", Rows.laid_drayage_version_words), ("drayage/rdep.signs", Rows.laid_drayage_rdep_signs), ("drayage/rdep.words", Rows.laid_drayage_rdep_words)] W := hL2
  have hD0 : (Rows.laid_drayage_version_words : DataW Unit) = .agg (wordsL.map fun z => .lit (.string z)) := by kernel_rfl
  have hx0 : Words W := fun i hi => by
    have hlt : i < wordsL.length := hi
    rw [texts_of_head (g := 3) (t := 102) (e := 9) (n := 9) (by kernel_rfl) (by kernel_rfl) (by kernel_rfl) (by kernel_rfl) (by kernel_rfl) (by kernel_rfl) (hD0 ▸ hT0) i hlt]
    simp [bs, List.getD, hlt]
  have hT1 := hT0.tail
  have hD1 : (Rows.laid_drayage_rdep_signs : DataW Unit) = .agg (signsR.map fun z => .lit (.string z)) := by kernel_rfl
  have hx1 : SignsT W := fun i hi => by
    have hlt : i < signsR.length := hi
    rw [texts_of_head (g := 0) (t := 69) (e := 9) (n := 6) (by kernel_rfl) (by kernel_rfl) (by kernel_rfl) (by kernel_rfl) (by kernel_rfl) (by kernel_rfl) (hD1 ▸ hT1) i hlt]
    simp [bs, List.getD, hlt]
  have hT2 := hT1.tail
  have hD2 : (Rows.laid_drayage_rdep_words : DataW Unit) = .agg (wordsR.map fun z => .lit (.string z)) := by kernel_rfl
  have hx2 : WordsT W := fun i hi => by
    have hlt : i < wordsR.length := hi
    rw [texts_of_head (g := 1) (t := 69) (e := 9) (n := 6) (by kernel_rfl) (by kernel_rfl) (by kernel_rfl) (by kernel_rfl) (by kernel_rfl) (by kernel_rfl) (hD2 ▸ hT2) i hlt]
    simp [bs, List.getD, hlt]
  obtain ⟨rfl, rfl, rfl⟩ := trodAll_nil r0
  obtain rfl : args = #[v0] := by cases args; simp_all
  obtain ⟨rfl, rfl⟩ := trodVars_none hV
  obtain ⟨x0, rfl, rfl, rfl, w0⟩ := open_string Tryd.underlying9 (hval 0 9 v0 rfl rfl) h0
  clear hA0
  refine (law_parsesR x0 W w0 hx0 hx1 hx2).mono fun e W' ⟨he, hb⟩ => ?_
  subst he
  exact ⟨_, rfl, _, _, _, [], _, [], hW', trodAll_mk1 (shut_bool Tryd.underlying4 _), args_kept laidOut hb _ _ _ _ (by kernel_rfl) hK, rfl, hb.frame _, fun h => by cases h⟩
theorem said : Rows.RdepParsesSaid :=
  OpenClaim.holds_of_wide 3 Tryd.f3 rfl rfl rfl rfl rfl rfl rfl ⟨rfl, rfl, rfl, rfl, rfl⟩ rfl rfl rfl rfl rfl (by kernel_rfl) Tryd.func3 (by kernel_rfl)
    (of_decide_eq_true (by kernel_rfl)) (by unfold Func.isWrapper; first | (rw [if_pos (by decide +kernel)]; kernel_rfl) | (rw [if_neg (by decide +kernel)]; exact ⟨rfl, rfl⟩))
    (fun os started H enc _ => lifted os started H enc)
theorem card : Rows.RdepParsesCardSaid :=
  Claim7.holds_tied_plain_at .later [] _ _ _ _ said (fun _ h => by cases h) (by kernel_rfl) (fun _ h => by cases h) rdepParses_row_tie rfl ⟨rfl, rfl⟩ (by kernel_rfl) rfl
    (fun f fn hf hfn => by
      obtain rfl : f = 3 := Option.some.inj ((show Tryd.prog.funcNamed "drayage/drayagelaw15.RdepParses" = some 3 by kernel_rfl).symm.trans hf) |>.symm
      obtain rfl : fn = Tryd.f3 := (Option.some.inj (Tryd.func3.symm.trans hfn)).symm
      exact ⟨by kernel_rfl, fun j t ht => by
        rw [Tryd.params3] at ht
        have hm : t ∈ [9] := by simpa using Array.mem_of_getElem? ht
        have hall : ([9].all fun u => !Tryd.prog.wantsStandIn u) = true := by kernel_rfl
        exact (show Tryd.prog.wantsStandIn t = false by simpa using List.all_eq_true.1 hall t hm)⟩)
    (by kernel_rfl)
#print axioms card
end Go.Proofs.YtjdcegogkafmoaaDoor.rdepParses

/- The law AdepBack: words that are written are read as they were; a text that is read, written, is read as the same. Proved for every input, as the card states it: the row with its listed variables tied to the program's text. -/
import Derived.Test.YtfpdlmddakgilaaDoorCards
import Derived.Test.YtfpdlmddakgilaaDoorTie
import Derived.Test.YtfpdlmddakgilaaDoorRow
import Derived.Test.YtfpdlmddakgilaaDoorAeF
import Derived.Test.YtfpdlmddakgilaaDoorAeG
import Derived.SevenTiedAt
namespace Go.Proofs.YtfpdlmddakgilaaDoor.adepBack
open Go.ChangeShapes Go.WideShapes Go.ChangeAt Go.RowKit
open Go.ChangeMaps (open_string shut_string)
theorem own : ownKnob Tryd.prog.godebug = none := by kernel_rfl
theorem laidOut : laidOutB Tryd.prog = true := by kernel_rfl
set_option maxRecDepth 100000 in
theorem lifted (os : Os) (started : os.Started) (H : Type) (enc : TypeId × Value → H) :
    ReturnsInHanded {} Tryd.checked os 4 .any (fun w args => (Rows.adepBackSpec.pre enc Tryd.prog Tryd.f4 [] false w args ∧ laidMetH Tryd.prog Rows.adepBackRow.laid w) ∧ sizedMet enc Tryd.prog Tryd.f4 (OpenSpec.ofChange Rows.adepBackSpec) false w args)
      (Rows.adepBackSpec.post enc Tryd.prog Tryd.f4 false true false false) := by
  refine returnsInHanded_of_change_and (C := Tryd.checked) (X := fun w _ => laidMetH Tryd.prog Rows.adepBackRow.laid w) (fun _ _ _ hh h => h.of_heap hh) own started (by kernel_rfl) Tryd.func4
    (ChangeSpec.witness_shaped (enc := enc) (C := Tryd.checked) (os := os) (X := fun w _ => laidMetH Tryd.prog Rows.adepBackRow.laid w) false (laidW os) #[.slice none 0 0, .string ⟨#[]⟩] 8 (laidW_os _)
      (World.shaped_of_ZipB (by kernel_rfl) (by kernel_rfl)) (by kernel_rfl) (by kernel_rfl) (by kernel_rfl)
      (laidW_met os _)) ?_
  intro W base args ds gs before hval0 hW _ _ hL _
  have hval : ∀ (j : Nat) t v, Tryd.f4.params[j]? = some t → args[j]? = some v → Value.okWide Tryd.prog W .any base t v := hval0
  have hW' := hW
  obtain ⟨p, q, hA0, hV, rfl, hnf, _⟩ := hW
  have hA : DataW.TrodAll enc Tryd.prog W 0 (fun _ => true) true Tryd.f4.params.toList args.toList ds p := hA0
  rw [Tryd.params4] at hA hval
  have hK := hA
  obtain ⟨v0, vs0, d0, ds0, p0, q0, hargs, rfl, rfl, h0, r0⟩ := trodAll_cons hA
  obtain ⟨v1, vs1, d1, ds1, p1, q1, rfl, rfl, rfl, h1, r1⟩ := trodAll_cons r0
  have hL2 := data_of_laid hL
  have hErr := errT_of_laid hL
  have hT0 : laidMet Tryd.prog [("drayage/version.words", Rows.laid_drayage_version_words), ("drayage/adep.signs", Rows.laid_drayage_adep_signs)] W := hL2
  have hD0 : (Rows.laid_drayage_version_words : DataW Unit) = .agg (wordsL.map fun z => .lit (.string z)) := by kernel_rfl
  have hx0 : Words W := fun i hi => by
    have hlt : i < wordsL.length := hi
    rw [texts_of_head (g := 3) (t := 137) (e := 9) (n := 9) (by kernel_rfl) (by kernel_rfl) (by kernel_rfl) (by kernel_rfl) (by kernel_rfl) (by kernel_rfl) (hD0 ▸ hT0) i hlt]
    simp [bs, List.getD, hlt]
  have hT1 := hT0.tail
  have hD1 : (Rows.laid_drayage_adep_signs : DataW Unit) = .agg (signsA.map fun z => .lit (.string z)) := by kernel_rfl
  have hx1 : SignsA W := fun i hi => by
    have hlt : i < signsA.length := hi
    rw [texts_of_head (g := 0) (t := 49) (e := 9) (n := 7) (by kernel_rfl) (by kernel_rfl) (by kernel_rfl) (by kernel_rfl) (by kernel_rfl) (by kernel_rfl) (hD1 ▸ hT1) i hlt]
    simp [bs, List.getD, hlt]
  obtain ⟨rfl, rfl, rfl⟩ := trodAll_nil r1
  obtain rfl : args = #[v0, v1] := by cases args; simp_all
  obtain ⟨rfl, rfl⟩ := trodVars_none hV
  obtain ⟨l0, s0⟩ := open_sl (sz := 4) Tryd.underlying23 (by kernel_rfl) (by omega) opens_want (hval 0 23 v0 rfl rfl) h0 (fun b off hb => hnf b off (by simp [hb]))
  obtain ⟨x1, rfl, rfl, rfl, w1⟩ := open_string Tryd.underlying9 (hval 1 9 v1 rfl rfl) h1
  clear hA0
  refine (law_backA v0 l0 x1 W s0 w1 hx0 hx1 hErr).mono fun e W' ⟨he, hb⟩ => ?_
  subst he
  exact ⟨_, rfl, _, _, _, [], _, [], hW', trodAll_mk1 (shut_bool Tryd.underlying4 _), args_kept laidOut hb _ _ _ _ (by kernel_rfl) hK, rfl, hb.frame _, fun h => by cases h⟩
theorem said : Rows.AdepBackSaid :=
  OpenClaim.holds_of_wide 4 Tryd.f4 rfl rfl rfl rfl rfl rfl rfl ⟨rfl, rfl, rfl, rfl, rfl⟩ rfl rfl rfl rfl rfl (by kernel_rfl) Tryd.func4 (by kernel_rfl)
    (of_decide_eq_true (by kernel_rfl)) (by unfold Func.isWrapper; first | (rw [if_pos (by decide +kernel)]; kernel_rfl) | (rw [if_neg (by decide +kernel)]; exact ⟨rfl, rfl⟩))
    (fun os started H enc _ => lifted os started H enc)
theorem card : Rows.AdepBackCardSaid :=
  Claim7.holds_tied_plain_at .later [] _ _ _ _ said (fun _ h => by cases h) (by kernel_rfl) (fun _ h => by cases h) adepBack_row_tie rfl ⟨rfl, rfl⟩ (by kernel_rfl) rfl
    (fun f fn hf hfn => by
      obtain rfl : f = 4 := Option.some.inj ((show Tryd.prog.funcNamed "drayage/drayagelaw16.AdepBack" = some 4 by kernel_rfl).symm.trans hf) |>.symm
      obtain rfl : fn = Tryd.f4 := (Option.some.inj (Tryd.func4.symm.trans hfn)).symm
      exact ⟨by kernel_rfl, fun j t ht => by
        rw [Tryd.params4] at ht
        have hm : t ∈ [23, 9] := by simpa using Array.mem_of_getElem? ht
        have hall : ([23, 9].all fun u => !Tryd.prog.wantsStandIn u) = true := by kernel_rfl
        exact (show Tryd.prog.wantsStandIn t = false by simpa using List.all_eq_true.1 hall t hm)⟩)
    (by kernel_rfl)
#print axioms card
end Go.Proofs.YtfpdlmddakgilaaDoor.adepBack

/- The text of any core, and the core of any text, are as the document says, or refused. Proved for every input, as the card states it: the row with its listed variables tied to the program's text. -/
import Derived.Test.YtdfpdmddiapnmaaGreatDoorCards
import Derived.Test.YtdfpdmddiapnmaaGreatDoorTie
import Derived.Test.YtdfpdmddiapnmaaGreatDoorRow
import Derived.Test.YtdfpdmddiapnmaaGreatDoorVmX
import Derived.Test.YtdfpdmddiapnmaaGreatDoorVmR
import Derived.SevenTiedAt
namespace Go.Proofs.YtdfpdmddiapnmaaGreatDoor.vmapCores
open Go.ChangeShapes Go.WideShapes Go.ChangeAt Go.RowKit
open Go.ChangeMaps (open_string shut_string)
theorem own : ownKnob Tryz.prog.godebug = none := by kernel_rfl
theorem laidOut : laidOutB Tryz.prog = true := by kernel_rfl
set_option maxRecDepth 100000 in
theorem lifted (os : Os) (started : os.Started) (H : Type) (enc : TypeId × Value → H) :
    ReturnsInHanded {} Tryz.checked os 3 .any (fun w args => (Rows.vmapCoresSpec.pre enc Tryz.prog Tryz.f3 [] false w args ∧ laidMetH Tryz.prog Rows.vmapCoresRow.laid w) ∧ sizedMet enc Tryz.prog Tryz.f3 (OpenSpec.ofChange Rows.vmapCoresSpec) false w args)
      (Rows.vmapCoresSpec.post enc Tryz.prog Tryz.f3 false true false false) := by
  refine returnsInHanded_of_change_and (C := Tryz.checked) (X := fun w _ => laidMetH Tryz.prog Rows.vmapCoresRow.laid w) (fun _ _ _ hh h => h.of_heap hh) own started (by kernel_rfl) Tryz.func3
    (ChangeSpec.witness_shaped (enc := enc) (C := Tryz.checked) (os := os) (X := fun w _ => laidMetH Tryz.prog Rows.vmapCoresRow.laid w) false (World.laidAll Tryz.prog os Rows.vmapCoresRow.laid) #[.int .i64 0, .agg #[.int .i64 0, .slice none 0 0, .string ⟨#[]⟩, .string ⟨#[]⟩, .int .i64 0, .int .i64 0], .string ⟨#[]⟩] 8 (World.laidAll_os _ _ _)
      (World.shaped_of_ZipB (by kernel_rfl) (by kernel_rfl)) (by kernel_rfl) (by kernel_rfl) (by kernel_rfl)
      (by rw [MakeChecks.laidMetH_plain _ _ _ (by kernel_rfl)]; exact laidMet_laidAll _ (by kernel_rfl) (by kernel_rfl))) ?_
  intro W base args ds gs before hval0 hW _ _ hL _
  have hval : ∀ (j : Nat) t v, Tryz.f3.params[j]? = some t → args[j]? = some v → Value.okWide Tryz.prog W .any base t v := hval0
  have hW' := hW
  obtain ⟨p, q, hA0, hV, rfl, hnf, _⟩ := hW
  have hA : DataW.TrodAll enc Tryz.prog W 0 (fun _ => true) true Tryz.f3.params.toList args.toList ds p := hA0
  rw [Tryz.params3] at hA hval
  have hK := hA
  obtain ⟨v0, vs0, d0, ds0, p0, q0, hargs, rfl, rfl, h0, r0⟩ := trodAll_cons hA
  obtain ⟨v1, vs1, d1, ds1, p1, q1, rfl, rfl, rfl, h1, r1⟩ := trodAll_cons r0
  obtain ⟨v2, vs2, d2, ds2, p2, q2, rfl, rfl, rfl, h2, r2⟩ := trodAll_cons r1
  have hL2 : laidMet Tryz.prog Rows.vmapCoresRow.laid W := by rw [← MakeChecks.laidMetH_plain _ _ _ (by kernel_rfl)]; exact hL
  have hL3 := hL2.tail.tail
  have hdat : (Rows.laid_internal_strconv_uint64pow10 : DataW Unit) = Lib.tabData .u64 Lib.pow10Tab := by kernel_rfl
  have htab : Tab W := Lib.tabIs_of_head (g := 5) (t := 122) (e := 112) (n := 20) (by kernel_rfl) (by kernel_rfl) (by kernel_rfl) (by kernel_rfl) (by kernel_rfl) (by kernel_rfl) (hdat ▸ hL3)
  have hL2 : laidMet Tryz.prog Rows.vmapCoresRow.laid W := by rw [← MakeChecks.laidMetH_plain _ _ _ (by kernel_rfl)]; exact hL
  have hT0 := hL2.tail.tail.tail.tail
  have hD0 : (Rows.laid_drayage_version_words : DataW Unit) = .agg (wordsL.map fun z => .lit (.string z)) := by kernel_rfl
  have hx0 : Words W := fun i hi => by
    have hlt : i < wordsL.length := hi
    rw [texts_of_head (g := 1) (t := 99) (e := 9) (n := 9) (by kernel_rfl) (by kernel_rfl) (by kernel_rfl) (by kernel_rfl) (by kernel_rfl) (by kernel_rfl) (hD0 ▸ hT0) i hlt]
    simp [bs, List.getD, hlt]
  have hT1 := hL2.tail.tail.tail.tail.tail
  have hD1 : (Rows.laid_drayage_vmap_pres : DataW Unit) = .agg (presL.map fun z => .lit (.string z)) := by kernel_rfl
  have hx1 : Pres W := fun i hi => by
    have hlt : i < presL.length := hi
    rw [texts_of_head (g := 0) (t := 46) (e := 9) (n := 4) (by kernel_rfl) (by kernel_rfl) (by kernel_rfl) (by kernel_rfl) (by kernel_rfl) (by kernel_rfl) (hD1 ▸ hT1) i hlt]
    simp [bs, List.getD, hlt]
  obtain ⟨rfl, rfl, rfl⟩ := trodAll_nil r2
  obtain rfl : args = #[v0, v1, v2] := by cases args; simp_all
  obtain ⟨rfl, rfl⟩ := trodVars_none hV
  obtain ⟨x0, rfl, rfl, rfl, w0⟩ := open_int Tryz.underlying3 (hval 0 3 v0 rfl rfl) h0
  obtain ⟨c1, n1, rfl, s1⟩ := open_core (hval 1 24 v1 rfl rfl) h1 (fun b off hb => hnf b off (by simp [hb]))
  obtain ⟨x2, rfl, rfl, rfl, w2⟩ := open_string Tryz.underlying9 (hval 2 9 v2 rfl rfl) h2
  clear hA0
  refine (law_cores x0 n1 c1 x2 W (wf_i64 w0) s1 w2 htab hx0 hx1).mono fun e W' ⟨he, hb⟩ => ?_
  subst he
  exact ⟨_, rfl, _, _, _, [], _, [], hW', trodAll_mk1 (shut_bool Tryz.underlying4 _), args_kept laidOut hb _ _ _ _ (by kernel_rfl) hK, rfl, hb.frame _, fun h => by cases h⟩
theorem said : Rows.VmapCoresSaid :=
  OpenClaim.holds_of_wide 3 Tryz.f3 rfl rfl rfl rfl rfl rfl rfl ⟨rfl, rfl, rfl, rfl, rfl⟩ rfl rfl rfl rfl rfl (by kernel_rfl) Tryz.func3 (by kernel_rfl)
    (of_decide_eq_true (by kernel_rfl)) (by unfold Func.isWrapper; first | (rw [if_pos (by decide +kernel)]; kernel_rfl) | (rw [if_neg (by decide +kernel)]; exact ⟨rfl, rfl⟩))
    (fun os started H enc _ => lifted os started H enc)
theorem card : Rows.VmapCoresCardSaid :=
  Claim7.holds_tied_plain_at .later [] _ _ _ _ said (fun _ h => by cases h) (by kernel_rfl) (fun _ h => by cases h) vmapCores_row_tie rfl ⟨rfl, rfl⟩ (by kernel_rfl) rfl
    (fun f fn hf hfn => by
      obtain rfl : f = 3 := Option.some.inj ((show Tryz.prog.funcNamed "drayage/drayagelaw13.VmapCores" = some 3 by kernel_rfl).symm.trans hf) |>.symm
      obtain rfl : fn = Tryz.f3 := (Option.some.inj (Tryz.func3.symm.trans hfn)).symm
      exact ⟨by kernel_rfl, fun j t ht => by
        rw [Tryz.params3] at ht
        have hm : t ∈ [3, 24, 9] := by simpa using Array.mem_of_getElem? ht
        have hall : ([3, 24, 9].all fun u => !Tryz.prog.wantsStandIn u) = true := by kernel_rfl
        exact (show Tryz.prog.wantsStandIn t = false by simpa using List.all_eq_true.1 hall t hm)⟩)
    (by kernel_rfl)
#print axioms card
end Go.Proofs.YtdfpdmddiapnmaaGreatDoor.vmapCores

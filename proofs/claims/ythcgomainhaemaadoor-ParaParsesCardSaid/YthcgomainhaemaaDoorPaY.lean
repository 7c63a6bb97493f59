/- The walks of the document's Value and Check on paragraphs. -/
import Derived.Test.YthcgomainhaemaaDoorPaW
import Derived.Test.YthcgomainhaemaaDoorPaQ
namespace Go.Proofs.YthcgomainhaemaaDoor
open Go.RowKit
theorem ctl_splitP : ∀ (l a : List UInt8), (splitP 10 l a).any ctlB = (ctlB a || ctlB l)
  | [], a => by simp [splitP, ctlB]
  | c :: t, a => by
    rw [splitP]
    split
    · rename_i h
      subst h
      rw [List.any_cons, ctl_splitP t []]
      simp [ctlB]
    · rw [ctl_splitP t (a ++ [c])]
      simp [ctlB, List.any_append, Bool.or_assoc]
theorem ctl_has (a : List UInt8) : ctlB a = (a.contains 0 || a.contains 13) := by
  induction a with
  | nil => rfl
  | cons c t ih =>
    rw [ctlB] at ih ⊢
    rw [List.any_cons, ih, List.contains_cons, List.contains_cons]
    have e1 : decide (c = 0) = ((0 : UInt8) == c) := by rw [Bool.eq_iff_iff, decide_eq_true_iff, beq_iff_eq]; exact eq_comm
    have e2 : decide (c = 13) = ((13 : UInt8) == c) := by rw [Bool.eq_iff_iff, decide_eq_true_iff, beq_iff_eq]; exact eq_comm
    rw [e1, e2]
    cases (0 : UInt8) == c <;> cases (13 : UInt8) == c <;> cases t.contains 0 <;> cases t.contains 13 <;> rfl
theorem bare_nil (a : List UInt8) : bareL a = [] ↔ blankL a = true := by
  rw [bareL]
  cases h : trimL a with
  | nil => simp [trimR, ← dw_nil]; exact h
  | cons c t =>
    have hb : blk c = false := by
      have := trimL_no32 a
      rw [h] at this
      simp [blk]
      intro e
      exact this (by rw [e]; rfl)
    rw [trimR_cons, if_neg (by rw [blankL_cons, hb]; simp)]
    have hn : blankL a ≠ true := fun e => by
      rw [← dw_nil] at e
      rw [trimL, e] at h
      cases h
    simp [hn]
theorem bare_is (a : List UInt8) : bareL a = a ↔ bareB a = true := ⟨fun h => by rw [← h]; exact bareB_bare a, bare_bare a⟩
/-- The value's lines from the i-th on. -/
def goV : Nat → List (List UInt8) → Bool
  | _, [] => true
  | i, a :: t => if ctlB a = true then false else if i = 0 ∧ bareL a ≠ a ∨ i ≠ 0 ∧ bareL a = [] then false else goV (i + 1) t
theorem goV_drop (k : Nat) (L : List (List UInt8)) (h : k < L.length) : goV k (L.drop k) = if ctlB L[k] = true then false else if k = 0 ∧ bareL L[k] ≠ L[k] ∨ k ≠ 0 ∧ bareL L[k] = [] then false else goV (k + 1) (L.drop (k + 1)) := by
  rw [List.drop_eq_getElem_cons h]; rfl
theorem goV_pos (t : List (List UInt8)) : ∀ i, i ≠ 0 → goV i t = (!t.any ctlB && t.all fun x => !blankL x) := by
  induction t with
  | nil => intro i _; rfl
  | cons a t ih =>
    intro i hi
    rw [goV, ih (i + 1) (by omega)]
    simp only [hi, false_and, false_or, ne_eq, not_false_eq_true, true_and, bare_nil]
    rw [List.any_cons, List.all_cons]
    cases ctlB a <;> cases blankL a <;> simp
theorem goV_zero (s : List UInt8) : valOk s = goV 0 (splitB 10 s) := by
  have h := ctl_splitP s []
  rw [valOk, splitB]
  cases hL : splitP 10 s [] with
  | nil => exact absurd hL (splitP_ne s [])
  | cons a t =>
    rw [hL] at h
    have h2 : ctlB s = (ctlB a || t.any ctlB) := by rw [List.any_cons] at h; rw [h]; simp [ctlB]
    rw [goV, goV_pos t _ (by omega), h2, linesOk]
    simp only [true_and, ne_eq, not_true_eq_false, false_and, or_false, bare_is]
    cases ctlB a <;> cases bareB a <;> cases t.any ctlB <;> simp
theorem splitP_len : ∀ (l a : List UInt8) (n : Nat), a.length + l.length ≤ n → (splitP 10 l a).length ≤ l.length + 1 ∧ ∀ x ∈ splitP 10 l a, x.length ≤ n
  | [], a, n, h => by simp [splitP]; simpa using h
  | c :: t, a, n, h => by
    simp at h
    rw [splitP]
    split
    · obtain ⟨h1, h2⟩ := splitP_len t [] n (by simp; omega)
      refine ⟨by simp; omega, fun x hx => ?_⟩
      rcases List.mem_cons.1 hx with rfl | hx
      · omega
      · exact h2 x hx
    · obtain ⟨h1, h2⟩ := splitP_len t (a ++ [c]) n (by simp; omega)
      exact ⟨by simp; omega, h2⟩
theorem has_lit (s : List UInt8) (c : UInt8) (n : Int) (hn : (c.toNat : Int) = n) (w : World) (hs : s.length ≤ 1000000000) :
    Calls Tryd.prog 30 #[.string (bs s), .int .u8 n] w fun e w' => e = .returned (.bool (s.contains c)) ∧ w = w' := by
  subst hn; exact has_any s c w hs
set_option maxRecDepth 20000 in
set_option maxHeartbeats 8000000 in
theorem rvalue_any (s : List UInt8) (w : World) (hs : s.length ≤ 100000000) :
    Calls Tryd.prog 26 #[.string (bs s)] w fun e w' => e = .returned (.bool (valOk s)) ∧ Below w.heap.size w w' := by
  have HX : Hid (valOk s = goV 0 ((splitB 10 s).drop 0)) := Lib.hid (goV_zero s)
  generalize valOk s = res at HX
  obtain ⟨hL1, hL2⟩ := splitP_len s [] s.length (by simp)
  rw [show splitP 10 s [] = splitB 10 s from rfl] at hL1 hL2
  have HL2 := Lib.hid hL2
  clear hL2
  go_enter Tryd.func26, Tryd.ntmps26
  go_wp2_with fail
  refine (lines_any s _ (by omega)).mono ?_
  rintro e w1 ⟨⟨v, rfl, hsl⟩, hb1⟩
  generalize splitB 10 s = L at HX hL1 HL2 hsl
  obtain ⟨A, cap, rfl, hc1, hc2⟩ := hsl.form
  unfold maxLen at hc2
  go_wp2_with fail
  go_loopg [4] L.length (fun G s4 wr => ∃ k : Nat, k ≤ L.length ∧ G = L.length - k ∧ s4 = .int .i64 k ∧ Below w.heap.size w wr ∧ Sl 1 Rtext nowhere wr (.slice A L.length cap) L ∧ Hid (res = goV k (L.drop k)))
  case atStart => exact ⟨0, Nat.zero_le _, rfl, rfl, hb1, hsl, HX⟩
  case round =>
    clear HX hsl hb1
    obtain ⟨k, hk, rfl, rfl, hbw, hsl, HE⟩ := hrel
    by_cases hlt : k < L.length
    · obtain ⟨_, _, _, b, off, rfl, hc⟩ := hsl.text (by omega)
      have ck := hc k hlt
      have hll := HL2.out _ (List.getElem_mem hlt)
      have HST := Lib.hid (HE.out.trans (goV_drop k L hlt))
      clear hc HE
      generalize L[k] = a at ck hll HST
      have i1 : (0 : Int) ≤ (k : Int) := by omega
      have i2 : (k : Int) < (L.length : Int) := by omega
      go_wp2_with fail
      refine (has_lit a 0 0 rfl _ (by omega)).mono ?_
      rintro e w2 ⟨rfl, rfl⟩
      cases h0 : a.contains 0 with
      | true =>
        have HV := Lib.hid (show res = false by rw [HST.out, if_pos (by rw [ctl_has, h0]; rfl)])
        clear HST h0
        go_wp2_with fail
        go_ret
        exact ⟨by rw [HV.out]; rfl, hbw⟩
      | false =>
        go_wp2_with fail
        refine (has_lit a 13 13 rfl _ (by omega)).mono ?_
        rintro e w2 ⟨rfl, rfl⟩
        cases h1 : a.contains 13 with
        | true =>
          have HV := Lib.hid (show res = false by rw [HST.out, if_pos (by rw [ctl_has, h0, h1]; rfl)])
          clear HST h0 h1
          go_wp2_with fail
          go_ret
          exact ⟨by rw [HV.out]; rfl, hbw⟩
        | false =>
          have HST2 := Lib.hid (show res = if k = 0 ∧ bareL a ≠ a ∨ k ≠ 0 ∧ bareL a = [] then false else goV (k + 1) (L.drop (k + 1)) by rw [HST.out, if_neg (by rw [ctl_has, h0, h1]; simp)])
          clear HST h0 h1
          have RB : Hid (∀ W, Calls Tryd.prog 31 #[.string (bs a)] W fun e w' => e = .returned (.string (bs (bareL a))) ∧ W = w') := Lib.hid fun W => bare_any a W (by omega)
          have q1 := beq_bs2 (bareL a) a
          have q2 := beq_bs2 (bareL a) []
          have q3 : (bs ([] : List UInt8)).toList = [] := toList_bs _
          rw [q3] at q2
          have hqe : ((bs (bareL a)).toList != (bs a).toList) = !decide (bareL a = a) := by rw [bne, q1]
          obtain ⟨x1, hx1⟩ : ∃ x, decide (bareL a = a) = x := ⟨_, rfl⟩
          obtain ⟨x2, hx2⟩ : ∃ x, decide (bareL a = []) = x := ⟨_, rfl⟩
          have HST3 := Lib.hid (show res = if k = 0 ∧ x1 = false ∨ k ≠ 0 ∧ x2 = true then false else goV (k + 1) (L.drop (k + 1)) by rw [HST2.out, ← hx1, ← hx2]; simp)
          rw [hx1] at q1 hqe
          rw [hx2] at q2
          clear hx1 hx2 HST2 q3
          generalize bareL a = r at RB q1 q2 hqe
          by_cases hk0 : k = 0
          · have e0 : ((k : Int) == 0) = true := by simp [hk0]
            have e1 : ¬ 0 < k := by omega
            cases x1 with
            | true =>
              have HV := Lib.hid (show res = goV (k + 1) (L.drop (k + 1)) by rw [HST3.out, if_neg (by simp [hk0])])
              clear HST3 hk0
              go_upto_region 7 with fail
              refine wp_region_plan (fun W => W.cell? ⟨b, off + k, none⟩ = some (.string (bs a))) [(false, 0), (false, 1), (false, 2), (false, 3), (false, 4), (false, 5), (false, 6), (false, 7), (false, 8), (false, 9), (false, 10), (false, 11), (false, 12), (false, 13), (false, 14), (false, 15), (false, 16), (false, 17), (false, 18), (false, 19), (false, 20), (false, 21), (false, 22), (false, 23), (false, 24), (false, 25)] (by kernel_rfl) (by kernel_rfl) (by simpa using ck) ?_
              simp only [planOps, List.map, List.getD_cons_zero, List.getD_cons_succ]
              iterate 26 ((first | refine plan_quiet_guarded (v := ?_) rfl (fun w' hw' => ?_) ?_ | refine plan_calm_guarded (v := ?_) (tt_of) (fun w' hw' => ?_) ?_); rotate_left; (focus (go_simp <;> (first | with_reducible rfl | (rw [if_neg (by simp [undef])]; try rfl) | (refine (RB.out _).mono ?_; rintro e w2 ⟨rfl, rfl⟩; constructor <;> with_reducible rfl)))); simp only [Act.put, List.setIfInBounds_toArray, List.set_cons_zero, List.set_cons_succ])
              refine plan_end ?_
              go_wp2_with fail
              go_roundg (L.length - (k + 1))
              case measure => omega
              case rel => exact ⟨k + 1, by omega, rfl, by simp, hbw.drew, hsl.keep good_text ((Kept.refl _ wr).drew), HV⟩
            | false =>
              have HV := Lib.hid (show res = false by rw [HST3.out, if_pos (by simp [hk0])])
              clear HST3 hk0
              go_upto_region 7 with fail
              refine wp_region_plan (fun W => W.cell? ⟨b, off + k, none⟩ = some (.string (bs a))) [(false, 0), (false, 1), (false, 2), (false, 3), (false, 4), (false, 5), (false, 6), (false, 7), (false, 8), (false, 9), (false, 10), (false, 11), (false, 12), (false, 13), (false, 14), (false, 15), (false, 16), (false, 17), (false, 18), (false, 19), (false, 20), (false, 21), (false, 22), (false, 23), (false, 24), (false, 25)] (by kernel_rfl) (by kernel_rfl) (by simpa using ck) ?_
              simp only [planOps, List.map, List.getD_cons_zero, List.getD_cons_succ]
              iterate 26 ((first | refine plan_quiet_guarded (v := ?_) rfl (fun w' hw' => ?_) ?_ | refine plan_calm_guarded (v := ?_) (tt_of) (fun w' hw' => ?_) ?_); rotate_left; (focus (go_simp <;> (first | with_reducible rfl | (rw [if_neg (by simp [undef])]; try rfl) | (refine (RB.out _).mono ?_; rintro e w2 ⟨rfl, rfl⟩; constructor <;> with_reducible rfl)))); simp only [Act.put, List.setIfInBounds_toArray, List.set_cons_zero, List.set_cons_succ])
              refine plan_end ?_
              go_wp2_with fail
              go_ret
              exact ⟨by rw [HV.out]; rfl, hbw.drew⟩
          · have e0 : ((k : Int) == 0) = false := by simpa using hk0
            have e1 : 0 < k := by omega
            cases x2 with
            | false =>
              have HV := Lib.hid (show res = goV (k + 1) (L.drop (k + 1)) by rw [HST3.out, if_neg (by simp [hk0])])
              clear HST3 hk0
              go_upto_region 7 with fail
              refine wp_region_plan (fun W => W.cell? ⟨b, off + k, none⟩ = some (.string (bs a))) [(false, 0), (false, 1), (false, 2), (false, 3), (false, 4), (false, 5), (false, 6), (false, 7), (false, 8), (false, 9), (false, 10), (false, 11), (false, 12), (false, 13), (false, 14), (false, 15), (false, 16), (false, 17), (false, 18), (false, 19), (false, 20), (false, 21), (false, 22), (false, 23), (false, 24), (false, 25)] (by kernel_rfl) (by kernel_rfl) (by simpa using ck) ?_
              simp only [planOps, List.map, List.getD_cons_zero, List.getD_cons_succ]
              iterate 26 ((first | refine plan_quiet_guarded (v := ?_) rfl (fun w' hw' => ?_) ?_ | refine plan_calm_guarded (v := ?_) (tt_of) (fun w' hw' => ?_) ?_); rotate_left; (focus (go_simp <;> (first | with_reducible rfl | (rw [if_neg (by simp [undef])]; try rfl) | (refine (RB.out _).mono ?_; rintro e w2 ⟨rfl, rfl⟩; constructor <;> with_reducible rfl)))); simp only [Act.put, List.setIfInBounds_toArray, List.set_cons_zero, List.set_cons_succ])
              refine plan_end ?_
              go_wp2_with fail
              go_roundg (L.length - (k + 1))
              case measure => omega
              case rel => exact ⟨k + 1, by omega, rfl, by simp, hbw.drew, hsl.keep good_text ((Kept.refl _ wr).drew), HV⟩
            | true =>
              have HV := Lib.hid (show res = false by rw [HST3.out, if_pos (by simp [hk0])])
              clear HST3 hk0
              go_upto_region 7 with fail
              refine wp_region_plan (fun W => W.cell? ⟨b, off + k, none⟩ = some (.string (bs a))) [(false, 0), (false, 1), (false, 2), (false, 3), (false, 4), (false, 5), (false, 6), (false, 7), (false, 8), (false, 9), (false, 10), (false, 11), (false, 12), (false, 13), (false, 14), (false, 15), (false, 16), (false, 17), (false, 18), (false, 19), (false, 20), (false, 21), (false, 22), (false, 23), (false, 24), (false, 25)] (by kernel_rfl) (by kernel_rfl) (by simpa using ck) ?_
              simp only [planOps, List.map, List.getD_cons_zero, List.getD_cons_succ]
              iterate 26 ((first | refine plan_quiet_guarded (v := ?_) rfl (fun w' hw' => ?_) ?_ | refine plan_calm_guarded (v := ?_) (tt_of) (fun w' hw' => ?_) ?_); rotate_left; (focus (go_simp <;> (first | with_reducible rfl | (rw [if_neg (by simp [undef])]; try rfl) | (refine (RB.out _).mono ?_; rintro e w2 ⟨rfl, rfl⟩; constructor <;> with_reducible rfl)))); simp only [Act.put, List.setIfInBounds_toArray, List.set_cons_zero, List.set_cons_succ])
              refine plan_end ?_
              go_wp2_with fail
              go_ret
              exact ⟨by rw [HV.out]; rfl, hbw.drew⟩
    · have HV := Lib.hid (show res = true by rw [HE.out, List.drop_eq_nil_of_le (by omega)]; rfl)
      have hkl : k = L.length := by omega
      subst hkl
      clear HE
      go_wp2_with fail
      go_ret
      exact ⟨by rw [HV.out]; rfl, hbw⟩
end Go.Proofs.YthcgomainhaemaaDoor

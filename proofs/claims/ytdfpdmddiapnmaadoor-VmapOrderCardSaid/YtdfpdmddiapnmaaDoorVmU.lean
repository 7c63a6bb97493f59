/- Cores of versions, in plain words: the text of a core is a right version, and parts as it was put together. -/
import Derived.Test.YtdfpdmddiapnmaaDoorVmT
namespace Go.Proofs.YtdfpdmddiapnmaaDoor
theorem no_byte (f : Int) (c : Co) (h : Fit f c) (b : UInt8) (h1 : isDig b = false) (h2 : b ≠ 46) (h3 : isSmall b = false) (h4 : b ≠ sgnB f) : b ∉ propT f c := fun hm => by
  rcases prop_mem f c h b hm with e | e | e | e
  · rw [h1] at e; cases e
  · exact h2 e
  · rw [h3] at e; cases e
  · exact h4 e
theorem dec_no (n : Int) (h : numOk n = true) (b : UInt8) (h1 : isDig b = false) : b ∉ decI n := fun hm => by
  have := (dec_num n h).dig b hm
  rw [h1] at this; cases this
theorem madeB_of (l o : List UInt8) (h0 : l ≠ []) (h : ∀ c ∈ l, madeP o c = true) : madeB l o = true := by
  simp only [madeB, Bool.and_eq_true, List.all_eq_true]
  exact ⟨by cases l with | nil => exact absurd rfl h0 | cons => rfl, h⟩
theorem made_dig (o : List UInt8) (c : UInt8) (h : isDig c = true) : madeP o c = true := by simp [madeP, h]
theorem made_small (o : List UInt8) (c : UInt8) (h : isSmall c = true) : madeP o c = true := by simp [madeP, isLet, h]
theorem prop_ne (f : Int) (c : Co) (h : Fit f c) : propT f c ≠ [] ∧ headDig (propT f c) = true := by
  obtain ⟨d, t, e, hd⟩ := numsT_head _ h.nums h.n0
  unfold propT
  rw [e, List.cons_append]
  exact ⟨by simp, hd⟩
theorem text2 (c : Co) : textC 2 c = textC 1 c := by simp [textC, epT, propT, preT, sgnB, dashF]
theorem text_eq1 (f : Int) (hf : f ≠ 3) (c : Co) : textC f c = epT f c ++ (propT f c ++ 45 :: decI c.rev) := by
  unfold textC dashF
  rw [if_neg hf]
  rfl
theorem rest58 (f : Int) (hf : f ≠ 3) (c : Co) (h : Fit f c) : (58 : UInt8) ∉ propT f c ++ 45 :: decI c.rev := by
  intro hm
  rcases List.mem_append.1 hm with hm | hm
  · refine no_byte f c h 58 (by decide +kernel) (by decide) (by decide +kernel) ?_ hm
    unfold sgnB
    rw [if_neg hf]
    decide
  · rcases List.mem_cons.1 hm with hm | hm
    · exact absurd hm (by decide)
    · exact dec_no _ h.rev 58 (by decide +kernel) hm
theorem ep_cut (f : Int) (hf : f ≠ 3) (c : Co) (h : Fit f c) : dRest (textC f c) = propT f c ++ 45 :: decI c.rev ∧ (if dEp (textC f c) = [] then 0 else udN (dEp (textC f c))) = c.epoch ∧ epOk (textC f c) = true ∧ noughtB (dEp (textC f c)) = false ∧ rEpOk (textC f c) = true := by
  have hr := rest58 f hf c h
  rw [text_eq1 f hf c]
  unfold epT
  by_cases he : c.epoch = 0
  · rw [if_neg (fun x => x.2 he), List.nil_append]
    have hi := in_no _ _ hr
    unfold dRest dEp epOk rEpOk
    rw [hi]
    simp [he]
    rfl
  · rw [if_pos ⟨hf, he⟩, List.append_assoc, List.singleton_append]
    have hn := dec_num _ h.ep
    obtain ⟨k0, k1, k2⟩ := cut_at (decI c.epoch) (propT f c ++ 45 :: decI c.rev) 58 (dec_no _ h.ep 58 (by decide +kernel))
    have hb : numB (decI c.epoch) = true := by
      simp only [numB, Bool.and_eq_true, List.all_eq_true]
      exact ⟨by cases hd : decI c.epoch with | nil => exact absurd hd hn.ne | cons => rfl, hn.dig⟩
    have hl := hn.len
    unfold dRest dEp epOk rEpOk
    rw [k0, if_pos rfl, if_pos rfl, k1, k2]
    refine ⟨rfl, by rw [if_neg hn.ne]; exact hn.ud, ?_, hn.nought, ?_⟩
    · simp [hb, hl]
    · simp [hb, hl, hn.nought]
theorem prop_made (f : Int) (c : Co) (h : Fit f c) (o : List UInt8) (h1 : madeP o 46 = true) (h2 : madeP o (sgnB f) = true) : madeB (propT f c) o = true := by
  refine madeB_of _ _ (prop_ne f c h).1 (fun d hd => ?_)
  rcases prop_mem f c h d hd with e | e | e | e
  · exact made_dig o d e
  · rw [e]; exact h1
  · exact made_small o d e
  · rw [e]; exact h2
theorem rev_made (c : Co) (h : numOk c.rev = true) (o : List UInt8) : madeB (decI c.rev) o = true := madeB_of _ _ (dec_num _ h).ne (fun d hd => made_dig o d ((dec_num _ h).dig d hd))
theorem back1 (c : Co) (h : Fit 1 c) : vErr 1 (textC 1 c) = 0 ∧ candC 1 (textC 1 c) = c := by
  obtain ⟨h1, h2, h3, _⟩ := ep_cut 1 (by decide) c h
  obtain ⟨l1, l2, l3⟩ := last_at (propT 1 c) (decI c.rev) (dec_no _ h.rev 45 (by decide +kernel))
  refine ⟨?_, ?_⟩
  · unfold vErr
    rw [if_pos (.inl rfl), if_neg (by have := h.len; omega), if_pos]
    rw [vOk1, dOk, h3, h1]
    unfold restOk
    rw [l2, l3, rev_made c h.rev, prop_made 1 c h _ (by decide +kernel) (by decide +kernel), (prop_ne 1 c h).2]
    simp
  · unfold candC
    rw [show vPart 1 (textC 1 c) = (dEp (textC 1 c), dPr (dRest (textC 1 c)), dRev (dRest (textC 1 c))) from rfl]
    show candP 1 (dEp (textC 1 c)) (dPr (dRest (textC 1 c))) (dRev (dRest (textC 1 c))) = c
    rw [h1, l2, l3]
    exact cand_prop 1 c h _ h2
theorem back2 (c : Co) (h : Fit 2 c) : vErr 2 (textC 2 c) = 0 ∧ candC 2 (textC 2 c) = c := by
  obtain ⟨h1, h2, _, _, h3⟩ := ep_cut 2 (by decide) c h
  have hno : (45 : UInt8) ∉ propT 2 c := no_byte 2 c h 45 (by decide +kernel) (by decide) (by decide +kernel) (by decide +kernel)
  obtain ⟨_, l2, l3⟩ := cut_at (propT 2 c) (decI c.rev) 45 hno
  refine ⟨?_, ?_⟩
  · unfold vErr
    rw [if_pos (.inr (.inl rfl)), if_neg (by rw [text2]; have := h.len; omega), if_pos]
    rw [vOk2, rOk, h3, h1, l2, l3, rev_made c h.rev, prop_made 2 c h _ (by decide +kernel) (by decide +kernel)]
    rfl
  · unfold candC
    show candP 2 (dEp (textC 2 c)) (cutA (dRest (textC 2 c)) 45) (cutB (dRest (textC 2 c)) 45) = c
    rw [h1, l2, l3]
    exact cand_prop 2 c h _ h2
/-- Nothing, or a byte that is no digit. -/
def NoDig (r : List UInt8) : Prop := ∀ c t, r = c :: t → isDig c = false
theorem digs_app (d r : List UInt8) (h : ∀ c ∈ d, isDig c = true) (hr : NoDig r) : digs (d ++ r) = d ∧ past isDig (d ++ r) = r := by
  have h1 : digs (d ++ r) = d := by
    unfold digs
    rw [List.takeWhile_append_of_pos h]
    cases r with
    | nil => simp
    | cons c t => simp [List.takeWhile_cons, hr c t rfl]
  refine ⟨h1, ?_⟩
  unfold past
  unfold digs at h1
  rw [h1]
  simp
theorem nums_back (l : List Int) : ∀ (k : Int) (r : List UInt8) (acc : List Pc), l.all numOk = true → l ≠ [] → NoDig r → (∀ t, r ≠ 46 :: t) → ∃ a, numsP k (numsT l ++ r) acc = some (a, r) := by
  induction l with
  | nil => intro k r acc _ h0; exact absurd rfl h0
  | cons n l ih =>
    intro k r acc h _ hr h46
    simp only [List.all_cons, Bool.and_eq_true] at h
    have hn := dec_num n h.1
    cases l with
    | nil =>
      rw [numsT_one]
      obtain ⟨d1, d2⟩ := digs_app (decI n) r hn.dig hr
      exact ⟨_, by rw [nums_end _ _ _ (by rw [d1]; exact hn.ne) (by rw [d2]; exact h46), d2]⟩
    | cons m l =>
      rw [numsT_cons, List.append_assoc, List.cons_append]
      obtain ⟨d1, d2⟩ := digs_app (decI n) (46 :: (numsT (m :: l) ++ r)) hn.dig (fun c t e => by injection e with e _; rw [← e]; decide +kernel)
      rw [nums_dot _ _ _ _ (by rw [d1]; exact hn.ne) d2]
      exact ih _ _ _ h.2 (by simp) hr h46
theorem word_rank (p : List UInt8) (h : p ∈ presL) : ¬ wordI p < 0 := by
  simp only [presL, List.mem_cons, List.not_mem_nil, or_false] at h
  rcases h with rfl | rfl | rfl | rfl <;> decide +kernel
theorem smalls_app (p r : List UInt8) (h : ∀ c ∈ p, isSmall c = true) (hr : ∃ c t, r = c :: t ∧ isSmall c = false) : smalls (p ++ r) = p ∧ past isSmall (p ++ r) = r := by
  obtain ⟨c, t, rfl, hc⟩ := hr
  have h1 : smalls (p ++ c :: t) = p := by
    unfold smalls
    rw [List.takeWhile_append_of_pos h]
    simp [List.takeWhile_cons, hc]
  refine ⟨h1, ?_⟩
  unfold past
  unfold smalls at h1
  rw [h1]
  simp
theorem dig_small (c : UInt8) (h : isDig c = true) : isSmall c = false := by
  have := byte_allV (fun c => !isDig c || !isSmall c) (by decide +kernel) c
  simpa [h] using this
theorem apk_back (c : Co) (h : Fit 3 c) : ∃ a, apkP (propT 3 c ++ (45 :: 114 :: decI c.rev)) = some (a, propT 3 c, decI c.rev) := by
  have hrev := dec_num _ h.rev
  have hb : numB (decI c.rev) = true := by
    simp only [numB, Bool.and_eq_true, List.all_eq_true]
    exact ⟨by cases hd : decI c.rev with | nil => exact absurd hd hrev.ne | cons => rfl, hrev.dig⟩
  obtain ⟨R, hR⟩ : ∃ R, R = 45 :: 114 :: decI c.rev := ⟨_, rfl⟩
  have hw : ∀ acc, ∃ b, wordsP (preT 3 c ++ R) acc = some (b, R) := by
    intro acc
    unfold preT
    split
    · rw [List.nil_append]
      exact ⟨acc, words_end R acc (fun t e => by rw [hR] at e; injection e with e; cases e)⟩
    · rename_i hp
      have hm : c.pre ∈ presL := by
        rcases h.pre with ⟨e, _⟩ | ⟨_, e⟩
        · exact absurd e hp
        · exact e
      have hpn := dec_num _ h.pn
      have hsm : ∃ d t, decI c.preNum ++ R = d :: t ∧ isSmall d = false := by
        cases hd : decI c.preNum with
        | nil => exact absurd hd hpn.ne
        | cons d t => exact ⟨d, t ++ R, rfl, dig_small d (hpn.dig d (by rw [hd]; simp))⟩
      obtain ⟨s1, s2⟩ := smalls_app c.pre (decI c.preNum ++ R) (pre_mem c h.pre) hsm
      obtain ⟨d1, d2⟩ := digs_app (decI c.preNum) R hpn.dig (fun x t e => by rw [hR] at e; injection e with e _; rw [← e]; decide +kernel)
      rw [show (sgnB 3 :: (c.pre ++ decI c.preNum)) ++ R = 95 :: (c.pre ++ (decI c.preNum ++ R)) by simp [sgnB], words_next _ _ (by rw [s1]; exact word_rank _ hm), s1, s2, d2]
      exact ⟨_, words_end R _ (fun t e => by rw [hR] at e; injection e with e; cases e)⟩
  have hend : ∀ b, apkEnd (propT 3 c ++ R) (some (b, R)) = some (b ++ [(2, decI c.rev, 0), (1, [], 0)], propT 3 c, decI c.rev) := by
    intro b
    have h1 : revT R = some (decI c.rev) := by rw [hR]; show (if numB (decI c.rev) = true then _ else _) = _; rw [if_pos hb]
    have h2 : R ≠ [] := by rw [hR]; simp
    simp [apkEnd, h1, h2]
  have hprop : propT 3 c ++ R = numsT c.nums ++ (c.letter ++ (preT 3 c ++ R)) := by simp [propT]
  have hnd : NoDig (c.letter ++ (preT 3 c ++ R)) ∧ ∀ t, c.letter ++ (preT 3 c ++ R) ≠ 46 :: t := by
    have hlm := let_mem _ h.lt
    cases hl : c.letter with
    | nil =>
      unfold preT
      split
      · refine ⟨fun x t e => ?_, fun t e => ?_⟩
        · rw [hR] at e; simp at e; rw [← e.1]; decide +kernel
        · rw [hR] at e; simp at e
      · refine ⟨fun x t e => ?_, fun t e => ?_⟩
        · simp at e; rw [← e.1]; decide +kernel
        · simp [sgnB] at e
    | cons d u =>
      have hd := hlm d (by rw [hl]; simp)
      refine ⟨fun x t e => ?_, fun t e => ?_⟩
      · rw [List.cons_append] at e
        injection e with e _
        rw [← e]
        cases hx : isDig d with
        | false => rfl
        | true => rw [dig_small d hx] at hd; cases hd
      · rw [List.cons_append] at e
        injection e with e _
        rw [e] at hd
        revert hd
        decide +kernel
  obtain ⟨a, ha⟩ := nums_back c.nums 7 (c.letter ++ (preT 3 c ++ R)) [] h.nums h.n0 hnd.1 hnd.2
  have hsign : ∀ acc, (signP (c.letter ++ (preT 3 c ++ R)) acc).2 = preT 3 c ++ R := by
    intro acc
    have hlt := h.lt
    match hl : c.letter, hlt with
    | [], _ =>
      rw [List.nil_append]
      have : ∀ x t, preT 3 c ++ R = x :: t → isSmall x = false := by
        intro x t e
        unfold preT at e
        split at e
        · rw [hR] at e; simp at e; rw [← e.1]; decide +kernel
        · simp at e; rw [← e.1]; decide +kernel
      cases hq : preT 3 c ++ R with
      | nil => rfl
      | cons x t => simp [signP, this x t hq]
    | [d], hlt =>
      have hd : isSmall d = true := hlt
      rw [List.singleton_append]
      simp [signP, hd]
    | d :: e :: u, hlt => simp [letOk] at hlt
  rw [← hR]
  obtain ⟨b, hb2⟩ := hw (signP (c.letter ++ (preT 3 c ++ R)) a).1
  refine ⟨b ++ [(2, decI c.rev, 0), (1, [], 0)], ?_⟩
  unfold apkP
  rw [hprop, ha]
  show apkEnd _ (wordsP (signP _ a).2 (signP _ a).1) = _
  rw [hsign, hb2, ← hprop, hend]
theorem back3 (c : Co) (h : Fit 3 c) : vErr 3 (textC 3 c) = 0 ∧ candC 3 (textC 3 c) = c := by
  obtain ⟨h1, h2⟩ := h.apk rfl
  have ht : textC 3 c = propT 3 c ++ (45 :: 114 :: decI c.rev) := by
    unfold textC epT dashF
    rw [if_neg (fun x => x.1 rfl), if_pos rfl]
    rfl
  obtain ⟨a, ha⟩ := apk_back c h
  refine ⟨?_, ?_⟩
  · unfold vErr
    rw [if_pos (.inr (.inr rfl)), if_neg (by omega), if_pos]
    rw [vOk3, ht, ha]
    rfl
  · unfold candC
    rw [show vPart 3 (textC 3 c) = apkT (textC 3 c) from rfl]
    have : apkT (textC 3 c) = ([], propT 3 c, decI c.rev) := by unfold apkT; rw [ht, ha]
    rw [this]
    exact cand_prop 3 c h [] (by rw [if_pos rfl, h1])
/-- A core that is written is read as it was. -/
theorem back_core (f : Int) (c : Co) (s : List UInt8) (h : prC f c = (s, 0)) : s = textC f c ∧ fmtOk f = true ∧ fits f c = true ∧ vErr f s = 0 ∧ candC f s = c := by
  unfold prC at h
  by_cases hf : fmtOk f = true
  · rw [if_pos hf] at h
    by_cases hc : fits f c = true
    · rw [if_pos hc] at h
      injection h with h _
      subst h
      have hF := fit_of f c hc
      refine ⟨rfl, hf, hc, ?_⟩
      simp only [fmtOk, Bool.or_eq_true, decide_eq_true_eq] at hf
      rcases hf with (rfl | rfl) | rfl
      · exact back1 c hF
      · exact back2 c hF
      · exact back3 c hF
    · rw [if_neg hc] at h
      injection h with _ h
      cases h
  · rw [if_neg hf] at h
    injection h with _ h
    cases h
theorem read_core (f : Int) (c : Co) (s : List UInt8) (h : prC f c = (s, 0)) : paC f s = (c, 0) := by
  obtain ⟨_, _, _, h1, h2⟩ := back_core f c s h
  unfold paC
  rw [if_pos h1, h2, if_pos h]
theorem core_read (f : Int) (c : Co) (s : List UInt8) (h : paC f s = (c, 0)) : prC f c = (s, 0) := by
  unfold paC at h
  split at h
  · split at h
    · rename_i hp
      injection h with h _
      rw [← h]; exact hp
    · injection h with _ h
      cases h
  · rename_i hv
    injection h with _ h
    exact absurd h hv
end Go.Proofs.YtdfpdmddiapnmaaDoor

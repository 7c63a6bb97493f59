/- Words of Apk's dependencies, in plain words: what is written is read as it was; what is read is right. -/
import Derived.Test.YtfpdlmddakgilaaDoorAdD
import Derived.Test.YtfpdlmddakgilaaDoorVerT
namespace Go.Proofs.YtfpdlmddakgilaaDoor
theorem mem_past (p : UInt8 → Bool) (l : List UInt8) (c : UInt8) (h : c ∈ l) : p c = true ∨ c ∈ past p l := by
  induction l with
  | nil => cases h
  | cons a t ih =>
    cases hp : p a with
    | true =>
      have : past p (a :: t) = past p t := by simp [past, List.takeWhile_cons, hp]
      rw [this]
      rcases List.mem_cons.1 h with rfl | h
      · exact .inl hp
      · exact ih h
    | false =>
      have : past p (a :: t) = a :: t := by simp [past, List.takeWhile_cons, hp]
      rw [this]
      exact .inr h
def Ok32 (l : List UInt8) : Prop := ∀ c ∈ l, c ≠ 32
theorem dig_32 (c : UInt8) (h : isDig c = true) : c ≠ 32 := fun e => by subst e; exact absurd h (by decide)
theorem small_32 (c : UInt8) (h : isSmall c = true) : c ≠ 32 := fun e => by subst e; exact absurd h (by decide)
theorem ok_past (p : UInt8 → Bool) (hp : ∀ c, p c = true → c ≠ 32) (l : List UInt8) (h : Ok32 (past p l)) : Ok32 l := fun c hc => by
  rcases mem_past p l c hc with h1 | h1
  · exact hp c h1
  · exact h c h1
theorem nums_ok (r q : List UInt8) (h : numsQ r = some q) : (Ok32 q → Ok32 r) ∧ headDig r = true := by
  induction hn : r.length using Nat.strongRecOn generalizing r with
  | ind n ih =>
    by_cases h0 : digs r = []
    · rw [numsQ_none r h0] at h; cases h
    · have hd : headDig r = true := by
        cases r with
        | nil => exact absurd rfl h0
        | cons c t =>
          cases hc : isDig c with
          | true => exact hc
          | false => exact absurd (by simp [digs, List.takeWhile_cons, hc]) h0
      refine ⟨fun hq => ?_, hd⟩
      by_cases hdot : ∃ t, past isDig r = 46 :: t
      · obtain ⟨t, ht⟩ := hdot
        rw [numsQ_dot r t h0 ht] at h
        have h1 := past_len isDig r
        rw [ht, List.length_cons] at h1
        have h2 := (ih t.length (by omega) t h rfl).1 hq
        refine ok_past isDig dig_32 r ?_
        rw [ht]
        intro c hc
        rcases List.mem_cons.1 hc with rfl | hc
        · decide
        · exact h2 c hc
      · rw [numsQ_end r h0 (fun t e => hdot ⟨t, e⟩)] at h
        injection h with h
        exact ok_past isDig dig_32 r (by rw [h]; exact hq)
theorem words_ok (r q : List UInt8) (h : wordsQ r = some q) (hq : Ok32 q) : Ok32 r := by
  induction hn : r.length using Nat.strongRecOn generalizing r with
  | ind n ih =>
    by_cases hd : ∃ t, r = 95 :: t
    · obtain ⟨t, rfl⟩ := hd
      by_cases hw : wordI (smalls t) < 0
      · rw [wordsQ_none t hw] at h; cases h
      · rw [wordsQ_next t hw] at h
        have h1 := past_len isSmall t
        have h2 := past_len isDig (past isSmall t)
        rw [List.length_cons] at hn
        have h3 := ih _ (by omega) _ h rfl
        have h4 := ok_past isSmall small_32 t (ok_past isDig dig_32 _ h3)
        intro c hc
        rcases List.mem_cons.1 hc with rfl | hc
        · decide
        · exact h4 c hc
    · rw [wordsQ_end r (fun t e => hd ⟨t, e⟩)] at h
      injection h with h
      rw [h]; exact hq
theorem sign_ok (r : List UInt8) (h : Ok32 (signQ r)) : Ok32 r := by
  cases r with
  | nil => exact h
  | cons c t =>
    cases hs : isSmall c with
    | true =>
      have : signQ (c :: t) = t := by simp [signQ, hs]
      rw [this] at h
      intro d hd
      rcases List.mem_cons.1 hd with rfl | hd
      · exact small_32 _ hs
      · exact h d hd
    | false =>
      have : signQ (c :: t) = c :: t := by simp [signQ, hs]
      rw [this] at h
      exact h
theorem apk_ok (l : List UInt8) (h : (apkP l).isSome = true) : Ok32 l ∧ headDig l = true := by
  have h1 : (apkQ l).isSome = true := by rw [← apkP_Q, Option.isSome_map]; exact h
  rw [apkQ] at h1
  cases hn : numsQ l with
  | none => rw [hn] at h1; cases h1
  | some r =>
    obtain ⟨a1, a2⟩ := nums_ok l r hn
    refine ⟨?_, a2⟩
    rw [hn] at h1
    simp only [Option.bind_some] at h1
    cases hw : wordsQ (signQ r) with
    | none => rw [hw] at h1; cases h1
    | some q =>
      rw [hw] at h1
      simp only [Option.bind_some] at h1
      refine a1 (sign_ok r (words_ok _ q hw ?_))
      rw [endQ] at h1
      split at h1
      · rename_i hq; subst hq; intro c hc; cases hc
      · cases ht : revT q with
        | none => rw [ht] at h1; cases h1
        | some t =>
          unfold revT at ht
          split at ht
          · rename_i u
            split at ht
            · rename_i hb
              simp [numB] at hb
              intro c hc
              simp only [List.mem_cons] at hc
              rcases hc with rfl | rfl | hc
              · decide
              · decide
              · exact dig_32 c (hb.2 c hc)
            · cases ht
          · cases ht
theorem ver_ok (l : List UInt8) (h : vErr 3 l = 0) : Ok32 l ∧ headDig l = true := by
  rw [vErr, if_pos (by omega)] at h
  split at h
  · cases h
  · split at h
    · rename_i h2
      exact apk_ok l (by simpa [vOk] using h2)
    · cases h
theorem nmM_facts (c : UInt8) (h : nmM c = true) : c ≠ 32 ∧ c ≠ 33 ∧ noSg c = true := by
  refine ⟨fun e => by subst e; exact absurd h (by decide), fun e => by subst e; exact absurd h (by decide), ?_⟩
  have h1 : c ≠ 60 := fun e => by subst e; exact absurd h (by decide)
  have h2 : c ≠ 61 := fun e => by subst e; exact absurd h (by decide)
  have h3 : c ≠ 62 := fun e => by subst e; exact absurd h (by decide)
  have h4 : c ≠ 126 := fun e => by subst e; exact absurd h (by decide)
  simp [noSg, sgA, h1, h2, h3, h4]
theorem name_facts (s : List UInt8) (h : anmB s = true) : s ≠ [] ∧ ∀ c ∈ s, nmM c = true := by
  cases s with
  | nil => cases h
  | cons c t =>
    refine ⟨by simp, ?_⟩
    simp only [anmB, Bool.and_eq_true, List.all_eq_true] at h
    exact h.2.2
theorem wErr_facts (t : Wt) (h : wErr t = 0) : anmB t.name = true ∧ 0 ≤ t.op ∧ t.op ≤ 6 ∧ (t.op = 0 → t.ver = []) ∧ (t.op ≠ 0 → vErr 3 t.ver = 0) := by
  unfold wErr at h
  split at h
  · rename_i hn
    split at h
    · cases h
    · rename_i ho
      simp [aOpBad] at ho
      refine ⟨hn, by omega, by omega, fun h0 => ho.2 h0, fun h0 => ?_⟩
      rw [if_neg h0] at h
      exact h
  · cases h
theorem tw_app (p : UInt8 → Bool) (a b : List UInt8) (ha : ∀ c ∈ a, p c = true) : (a ++ b).takeWhile p = a ++ b.takeWhile p := by
  induction a with
  | nil => rfl
  | cons c a ih =>
    have h1 := ha c (by simp)
    have h2 := ih fun d hd => ha d (by simp [hd])
    simp [List.takeWhile_cons, h1, h2]
def sgn (o : Int) : List UInt8 := signsA.getD o.toNat []
/-- A relation and what is behind it, read back. -/
theorem aRel_back (o : Int) (v : List UInt8) (h1 : 0 < o) (h2 : o ≤ 6) (hv : headDig v = true) : aRel (sgn o ++ v) = (o, v) ∧ ∃ c t, sgn o ++ v = c :: t ∧ noSg c = false := by
  have hh : ∀ u, v ≠ 61 :: u := fun u e => by subst e; exact absurd hv (by show ¬ isDig 61 = true; decide)
  obtain rfl | rfl | rfl | rfl | rfl | rfl : o = 1 ∨ o = 2 ∨ o = 3 ∨ o = 4 ∨ o = 5 ∨ o = 6 := by omega
  · refine ⟨?_, 60, v, rfl, by decide⟩
    show aRel (60 :: v) = _
    unfold aRel
    split <;> simp_all
  · exact ⟨rfl, 60, 61 :: v, rfl, by decide⟩
  · exact ⟨rfl, 61, v, rfl, by decide⟩
  · exact ⟨rfl, 62, 61 :: v, rfl, by decide⟩
  · refine ⟨?_, 62, v, rfl, by decide⟩
    show aRel (62 :: v) = _
    unfold aRel
    split <;> simp_all
  · exact ⟨rfl, 126, v, rfl, by decide⟩
theorem sgn_32 (o : Int) : Ok32 (sgn o) := by
  unfold sgn
  by_cases h : o.toNat < 7
  · obtain h | h | h | h | h | h | h : o.toNat = 0 ∨ o.toNat = 1 ∨ o.toNat = 2 ∨ o.toNat = 3 ∨ o.toNat = 4 ∨ o.toNat = 5 ∨ o.toNat = 6 := by omega
    all_goals
      rw [h]
      intro c hc
      simp [signsA] at hc
      try (rcases hc with rfl | rfl <;> decide)
      try (subst hc; decide)
  · have : signsA.length ≤ o.toNat := by show 7 ≤ o.toNat; omega
    simp [List.getD, List.getElem?_eq_none this, Ok32]
theorem wordT_ok (t : Wt) (h : wErr t = 0) : Ok32 (wordT t) ∧ wordT t ≠ [] := by
  obtain ⟨h1, h2, h3, h4, h5⟩ := wErr_facts t h
  obtain ⟨n1, n2⟩ := name_facts _ h1
  refine ⟨?_, ?_⟩
  · intro c hc
    simp only [wordT, List.mem_append] at hc
    rcases hc with hc | hc | hc | hc
    · cases hb : t.bar <;> simp [barT, hb] at hc
      subst hc; decide
    · exact (nmM_facts c (n2 c hc)).1
    · exact sgn_32 t.op c hc
    · by_cases h0 : t.op = 0
      · rw [h4 h0] at hc; cases hc
      · exact (ver_ok _ (h5 h0)).1 c hc
  · simp only [wordT, ne_eq, List.append_eq_nil_iff]
    exact fun e => n1 e.2.1
theorem word_back (t : Wt) (h : wErr t = 0) : pWord (wordT t) = .ok t := by
  obtain ⟨h1, h2, h3, h4, h5⟩ := wErr_facts t h
  obtain ⟨n1, n2⟩ := name_facts _ h1
  obtain ⟨bar, name, op, ver⟩ := t
  simp only at h1 h2 h3 h4 h5 n1 n2
  have hrest : aBar (wordT ⟨bar, name, op, ver⟩) = bar ∧ aRest (wordT ⟨bar, name, op, ver⟩) = name ++ (sgn op ++ ver) := by
    cases bar with
    | true => exact ⟨rfl, rfl⟩
    | false =>
      obtain ⟨c, u, rfl⟩ : ∃ c u, name = c :: u := by
        cases name with
        | nil => exact absurd rfl n1
        | cons c u => exact ⟨c, u, rfl⟩
      have h33 := (nmM_facts c (n2 c (by simp))).2.1
      have hb : aBar (wordT ⟨false, c :: u, op, ver⟩) = false := by
        show decide (c = 33) = false
        simpa using h33
      exact ⟨hb, by rw [aRest, hb]; rfl⟩
  have hno : ∀ c ∈ name, noSg c = true := fun c hc => (nmM_facts c (n2 c hc)).2.2
  rw [pWord, hrest.1, hrest.2]
  by_cases h0 : op = 0
  · have hv := h4 h0
    subst h0 hv
    have e1 : aName (name ++ (sgn 0 ++ [])) = name := by
      show (name ++ []).takeWhile noSg = name
      rw [tw_app noSg name [] hno]; simp
    have e2 : aTail (name ++ (sgn 0 ++ [])) = [] := by
      show past noSg (name ++ []) = []
      rw [past, tw_app noSg name [] hno]; simp
    rw [e1, e2, if_pos h1, if_pos rfl]
  · obtain ⟨r1, c, u, r2, r3⟩ := aRel_back op ver (by omega) h3 (ver_ok _ (h5 h0)).2
    have e0 : (name ++ (sgn op ++ ver)).takeWhile noSg = name := by
      rw [tw_app noSg name _ hno, r2]
      simp [List.takeWhile_cons, r3]
    have e1 : aName (name ++ (sgn op ++ ver)) = name := e0
    have e2 : aTail (name ++ (sgn op ++ ver)) = sgn op ++ ver := by
      show (name ++ (sgn op ++ ver)).drop ((name ++ (sgn op ++ ver)).takeWhile noSg).length = _
      rw [e0]; simp
    rw [e1, e2, if_pos h1, if_neg (by rw [r2]; simp), pVer, r1, if_pos (h5 h0)]
theorem wordOf_app (w r : List UInt8) (h : Ok32 w) : wordOf (w ++ 32 :: r) = w := by
  rw [wordOf, tw_app _ w _ (fun c hc => by simpa using h c hc)]
  simp
theorem wordOf_self (w : List UInt8) (h : Ok32 w) : wordOf w = w := by
  have := tw_app (fun c => !decide (c = 32)) w [] (fun c hc => by simpa using h c hc)
  simpa [wordOf] using this
theorem go_back (l : List Wt) (hl : ∀ t ∈ l, wErr t = 0) (a : Nat) (acc : List Wt) (h64 : acc.length + l.length ≤ 64) : goA (wordsT l) a acc = (acc ++ l, 0, 0) := by
  induction l generalizing a acc with
  | nil =>
    show goA [] a acc = _
    rw [goA_nil, List.append_nil]
  | cons t l ih =>
    obtain ⟨o1, o2⟩ := wordT_ok t (hl t (by simp))
    have hb := word_back t (hl t (by simp))
    obtain ⟨c, u, hw⟩ : ∃ c u, wordT t = c :: u := by
      cases h : wordT t with
      | nil => exact absurd h o2
      | cons c u => exact ⟨c, u, rfl⟩
    have hc : c ≠ 32 := o1 c (by rw [hw]; simp)
    have hac : acc.length ≠ 64 := by simp only [List.length_cons] at h64; omega
    cases l with
    | nil =>
      have e : wordsT [t] = c :: u := by rw [← hw]; simp [wordsT, Lib.join]
      rw [e, goA_ok c u a acc hc hac t (by rw [← hw, wordOf_self _ o1, hb]), ← hw, wordOf_self _ o1, List.drop_length, goA_nil]
    | cons x l =>
      have e : wordsT (t :: x :: l) = c :: (u ++ 32 :: wordsT (x :: l)) := by
        have : wordsT (t :: x :: l) = wordT t ++ 32 :: wordsT (x :: l) := by simp [wordsT, Lib.join]
        rw [this, hw]; rfl
      have e2 : c :: (u ++ 32 :: wordsT (x :: l)) = wordT t ++ 32 :: wordsT (x :: l) := by rw [hw]; rfl
      rw [e, goA_ok c _ a acc hc hac t (by rw [e2, wordOf_app _ _ o1, hb]), e2, wordOf_app _ _ o1, List.drop_left, goA_blank,
        ih (fun y hy => hl y (by simp [hy])) _ _ (by simp only [List.length_append, List.length_cons, List.length_nil] at h64 ⊢; omega)]
      simp
/-- What is written is read as it was. -/
theorem back_readA (l : List Wt) (h : chkA l = 0) : parseA (wordsT l) = (l, 0, 0) := by
  obtain ⟨h1, h2⟩ := chkA_ok l h
  exact go_back l h2 0 [] (by simpa using h1)
theorem aRel_op (c : UInt8) (t : List UInt8) (h : noSg c = false) : 0 < (aRel (c :: t)).1 ∧ (aRel (c :: t)).1 ≤ 6 := by
  have : c = 60 ∨ c = 61 ∨ c = 62 ∨ c = 126 := by
    simp [noSg, sgA] at h
    grind
  rcases this with rfl | rfl | rfl | rfl
  · unfold aRel
    split <;> simp_all
  · exact ⟨by show (0 : Int) < 3; decide, by show (3 : Int) ≤ 6; decide⟩
  · unfold aRel
    split <;> simp_all
  · exact ⟨by show (0 : Int) < 6; decide, by show (6 : Int) ≤ 6; decide⟩
theorem aTail_head (r : List UInt8) (c : UInt8) (t : List UInt8) (h : aTail r = c :: t) : noSg c = false := by
  induction r with
  | nil => cases h
  | cons d u ih =>
    cases hd : noSg d with
    | true =>
      have : aTail (d :: u) = aTail u := by simp [aTail, past, List.takeWhile_cons, hd]
      rw [this] at h
      exact ih h
    | false =>
      have : aTail (d :: u) = d :: u := by simp [aTail, past, List.takeWhile_cons, hd]
      rw [this] at h
      injection h with h1 _
      rw [← h1]; exact hd
theorem pWord_ok (s : List UInt8) (t : Wt) (h : pWord s = .ok t) : wErr t = 0 := by
  unfold pWord at h
  split at h
  · rename_i hn
    split at h
    · injection h with h
      subst h
      simp [wErr, hn, aOpBad]
    · rename_i ht
      unfold pVer at h
      split at h
      · rename_i hv
        injection h with h
        subst h
        obtain ⟨c, u, hcu⟩ : ∃ c u, aTail (aRest s) = c :: u := by
          cases hx : aTail (aRest s) with
          | nil => exact absurd hx ht
          | cons c u => exact ⟨c, u, rfl⟩
        have hop := aRel_op c u (aTail_head _ c u hcu)
        rw [← hcu] at hop
        have h0 : (aRel (aTail (aRest s))).1 ≠ 0 := by omega
        have hob : aOpBad ⟨aBar s, aName (aRest s), (aRel (aTail (aRest s))).1, (aRel (aTail (aRest s))).2⟩ = false := by
          simp [aOpBad]
          omega
        simp only [wErr, hn, if_true, hob, h0, if_false]
        simpa using hv
      · cases h
  · cases h
theorem pWord_code (s : List UInt8) (k : Nat) (e : Int) (h : pWord s = .bad k e) : e ≠ 0 := by
  unfold pWord at h
  split at h
  · split at h
    · cases h
    · unfold pVer at h
      split at h
      · cases h
      · rename_i hv
        injection h with h1 h2
        rw [← h2]; exact hv
  · injection h with h1 h2
    rw [← h2]; decide
/-- What is read is right; a fault lies in the text. -/
theorem go_right (r : List UInt8) (a : Nat) (acc : List Wt) (h64 : acc.length ≤ 64) (hacc : ∀ t ∈ acc, wErr t = 0) :
    ((goA r a acc).2.2 = 0 ∧ (goA r a acc).2.1 = 0 ∧ (goA r a acc).1.length ≤ 64 ∧ ∀ t ∈ (goA r a acc).1, wErr t = 0) ∨
    ((goA r a acc).2.2 ≠ 0 ∧ (goA r a acc).1 = [] ∧ 0 ≤ (goA r a acc).2.1 ∧ (goA r a acc).2.1 ≤ (a : Int) + r.length) := by
  induction hn : r.length using Nat.strongRecOn generalizing r a acc with
  | ind n ih =>
    cases r with
    | nil => rw [goA_nil]; exact .inl ⟨rfl, rfl, h64, hacc⟩
    | cons c t =>
      rw [List.length_cons] at hn
      by_cases hc : c = 32
      · subst hc
        rw [goA_blank]
        rcases ih t.length (by omega) t (a + 1) acc h64 hacc rfl with h | ⟨g1, g2, g3, g4⟩
        · exact .inl h
        · exact .inr ⟨g1, g2, g3, by omega⟩
      · by_cases hf : acc.length = 64
        · rw [goA_full c t a acc hc hf]
          refine .inr ⟨by show (4 : Int) ≠ 0; decide, rfl, ?_, ?_⟩
          · show (0 : Int) ≤ (a : Int); omega
          · show (a : Int) ≤ _; omega
        · have hwl := wordOf_len (c :: t)
          have hwp := wordOf_pos c t hc
          rw [List.length_cons] at hwl
          cases hp : pWord (wordOf (c :: t)) with
          | bad k e =>
            rw [goA_bad c t a acc hc hf k e hp]
            have := pWord_bad _ k e hp
            refine .inr ⟨pWord_code _ k e hp, rfl, ?_, ?_⟩
            · show (0 : Int) ≤ (a : Int) + k; omega
            · show (a : Int) + k ≤ _; omega
          | ok w =>
            rw [goA_ok c t a acc hc hf w hp]
            have hdl : ((c :: t).drop (wordOf (c :: t)).length).length = t.length + 1 - (wordOf (c :: t)).length := by rw [List.length_drop, List.length_cons]
            rcases ih _ (by rw [hdl] <;> omega) ((c :: t).drop (wordOf (c :: t)).length) (a + (wordOf (c :: t)).length) (acc ++ [w]) (by simp; omega) (fun x hx => by
              rcases List.mem_append.1 hx with hx | hx
              · exact hacc x hx
              · simp at hx; subst hx; exact pWord_ok _ _ hp) rfl with h | ⟨g1, g2, g3, g4⟩
            · exact .inl h
            · refine .inr ⟨g1, g2, g3, ?_⟩
              rw [hdl] at g4
              omega
theorem chkA_zero (l : List Wt) (h1 : l.length ≤ 64) (h2 : ∀ t ∈ l, wErr t = 0) : chkA l = 0 := by
  rw [chkA, if_neg (by omega)]
  clear h1
  induction l with
  | nil => rfl
  | cons t l ih =>
    rw [firstW, if_pos (h2 t (by simp))]
    exact ih fun x hx => h2 x (by simp [hx])
end Go.Proofs.YtfpdlmddakgilaaDoor

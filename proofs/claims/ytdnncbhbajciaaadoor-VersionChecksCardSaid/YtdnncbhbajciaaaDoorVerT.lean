/- The parts of an Apk version without its pieces, as the program and as the reference goes about it. -/
import Derived.Test.YtdnncbhbajciaaaDoorVerQ
namespace Go.Proofs.YtdnncbhbajciaaaDoor
open Go
/-- What is behind the numbers. -/
def numsQ (r : List UInt8) : Option (List UInt8) := (numsP 6 r []).map (·.2)
theorem numsP_any (k : Int) (r : List UInt8) (acc : List Pc) : (numsP k r acc).map (·.2) = numsQ r := by
  suffices h : ∀ (k' : Int) (acc' : List Pc), (numsP k r acc).map (·.2) = (numsP k' r acc').map (·.2) from h 6 []
  induction hn : r.length using Nat.strongRecOn generalizing k r acc with
  | ind n ih =>
    intro k' acc'
    by_cases h0 : digs r = []
    · rw [nums_none k r acc h0, nums_none k' r acc' h0]
    · by_cases hd : ∃ t, past isDig r = 46 :: t
      · obtain ⟨t, ht⟩ := hd
        rw [nums_dot k r t acc h0 ht, nums_dot k' r t acc' h0 ht]
        have h1 := past_len isDig r
        rw [ht, List.length_cons] at h1
        exact ih t.length (by omega) 6 t _ rfl 6 _
      · rw [nums_end k r acc h0 (fun t e => hd ⟨t, e⟩), nums_end k' r acc' h0 (fun t e => hd ⟨t, e⟩)]
        rfl
theorem numsQ_none (r : List UInt8) (h : digs r = []) : numsQ r = none := by rw [numsQ, nums_none _ _ _ h]; rfl
theorem numsQ_dot (r t : List UInt8) (h : digs r ≠ []) (hr : past isDig r = 46 :: t) : numsQ r = numsQ t := by
  rw [numsQ, nums_dot 6 r t [] h hr, numsP_any]
theorem numsQ_end (r : List UInt8) (h : digs r ≠ []) (hr : ∀ t, past isDig r ≠ 46 :: t) : numsQ r = some (past isDig r) := by
  rw [numsQ, nums_end 6 r [] h hr]; rfl
def signQ (r : List UInt8) : List UInt8 := match r with
  | c :: t => if isSmall c = true then t else c :: t
  | [] => []
theorem signP_any (r : List UInt8) (acc : List Pc) : (signP r acc).2 = signQ r := by
  cases r with
  | nil => rfl
  | cons c t => cases hs : isSmall c <;> simp [signP, signQ, hs]
def wordsQ (r : List UInt8) : Option (List UInt8) := (wordsP r []).map (·.2)
theorem wordsP_any (r : List UInt8) (acc : List Pc) : (wordsP r acc).map (·.2) = wordsQ r := by
  suffices h : ∀ acc' : List Pc, (wordsP r acc).map (·.2) = (wordsP r acc').map (·.2) from h []
  induction hn : r.length using Nat.strongRecOn generalizing r acc with
  | ind n ih =>
    intro acc'
    by_cases hd : ∃ t, r = 95 :: t
    · obtain ⟨t, rfl⟩ := hd
      by_cases hw : wordI (smalls t) < 0
      · rw [words_none t acc hw, words_none t acc' hw]
      · rw [words_next t acc hw, words_next t acc' hw]
        have h1 := past_len isSmall t
        have h2 := past_len isDig (past isSmall t)
        rw [List.length_cons] at hn
        exact ih _ (by omega) _ _ rfl _
    · rw [words_end r acc (fun t e => hd ⟨t, e⟩), words_end r acc' (fun t e => hd ⟨t, e⟩)]
      rfl
theorem wordsQ_none (t : List UInt8) (h : wordI (smalls t) < 0) : wordsQ (95 :: t) = none := by rw [wordsQ, words_none t _ h]; rfl
theorem wordsQ_next (t : List UInt8) (h : ¬ wordI (smalls t) < 0) : wordsQ (95 :: t) = wordsQ (past isDig (past isSmall t)) := by rw [wordsQ, words_next t _ h, wordsP_any]
theorem wordsQ_end (r : List UInt8) (h : ∀ t, r ≠ 95 :: t) : wordsQ r = some r := by rw [wordsQ, words_end r _ h]; rfl
def endQ (l q : List UInt8) : Option (List UInt8 × List UInt8) := if q = [] then some (l, []) else match revT q with
  | some t => some (l.take (l.length - q.length), t)
  | none => none
def apkQ (l : List UInt8) : Option (List UInt8 × List UInt8) := (numsQ l).bind fun r => (wordsQ (signQ r)).bind (endQ l)
theorem apkP_Q (l : List UInt8) : (apkP l).map (fun x => x.2) = apkQ l := by
  have h1 := numsP_any 7 l []
  rw [apkQ, ← h1, apkP]
  cases hn : numsP 7 l [] with
  | none => rfl
  | some x =>
    obtain ⟨a, r⟩ := x
    have h2 := wordsP_any (signP r a).2 (signP r a).1
    rw [signP_any] at h2
    simp only [Option.map_some, Option.bind_some]
    rw [signP_any, ← h2]
    cases hw : wordsP (signQ r) (signP r a).1 with
    | none => rfl
    | some y =>
      obtain ⟨b, q⟩ := y
      simp only [apkEnd, endQ, Option.map_some, Option.bind_some]
      split
      · rfl
      · cases revT q <;> rfl
/-- As the reference takes the words: all letters are one's. -/
def wordsX (r : List UInt8) : Option (List UInt8) :=
  match r with
  | 95 :: t => if wordI (lets t) < 0 then none else wordsX (past isDig (past isLet t))
  | q => some q
termination_by r.length
decreasing_by
  have h1 := past_len isLet t
  have h2 := past_len isDig (past isLet t)
  simp only [List.length_cons]
  omega
theorem wordsX_none (t : List UInt8) (h : wordI (lets t) < 0) : wordsX (95 :: t) = none := by rw [wordsX, if_pos h]
theorem wordsX_next (t : List UInt8) (h : ¬ wordI (lets t) < 0) : wordsX (95 :: t) = wordsX (past isDig (past isLet t)) := by rw [wordsX, if_neg h]
theorem wordsX_end (r : List UInt8) (h : ∀ t, r ≠ 95 :: t) : wordsX r = some r := by
  rw [wordsX]
  exact h
theorem small_let (c : UInt8) (h : isSmall c = true) : isLet c = true := by simp [isLet, h]
/-- Small letters, then no letter, or a large one. -/
theorem lets_smalls (t : List UInt8) : lets t = smalls t ∨ ∃ c r, past isSmall t = c :: r ∧ isBig c = true ∧ ∃ x ∈ lets t, isBig x = true := by
  induction t with
  | nil => exact .inl rfl
  | cons c t ih =>
    cases hs : isSmall c with
    | true =>
      have hl := small_let c hs
      have e1 : lets (c :: t) = c :: lets t := by simp [lets, List.takeWhile_cons, hl]
      have e2 : smalls (c :: t) = c :: smalls t := by simp [smalls, List.takeWhile_cons, hs]
      have e3 : past isSmall (c :: t) = past isSmall t := by simp [past, List.takeWhile_cons, hs]
      rcases ih with h | ⟨d, r, h1, h2, x, hx, hx2⟩
      · exact .inl (by rw [e1, e2, h])
      · exact .inr ⟨d, r, by rw [e3]; exact h1, h2, x, by rw [e1]; exact List.mem_cons_of_mem _ hx, hx2⟩
    | false =>
      cases hb : isBig c with
      | false =>
        have hl : isLet c = false := by simp [isLet, hs, hb]
        exact .inl (by simp [lets, smalls, List.takeWhile_cons, hs, hl])
      | true =>
        have hl : isLet c = true := by simp [isLet, hb]
        exact .inr ⟨c, t, by simp [past, List.takeWhile_cons, hs], hb, c, by simp [lets, List.takeWhile_cons, hl], hb⟩
theorem wordFrom_in (l : List UInt8) : ∀ (ws : List (List UInt8)) (k : Nat), 0 ≤ wordFrom l ws k → l ∈ ws
  | [], _, h => by simp [wordFrom] at h
  | x :: r, k, h => by
    rw [wordFrom] at h
    split at h
    · rename_i e; simp [e]
    · exact List.mem_cons_of_mem _ (wordFrom_in l r (k + 1) h)
theorem words_noBig : (wordsL.all fun l => l.all fun x => !isBig x) = true := by decide +kernel
theorem word_small (l : List UInt8) (h : 0 ≤ wordI l) : ∀ x ∈ l, isBig x = false := by
  have h1 := wordFrom_in l wordsL 0 h
  intro x hx
  have h2 := List.all_eq_true.1 words_noBig l h1
  have h3 := List.all_eq_true.1 h2 x hx
  simpa using h3
theorem words_same (l r : List UInt8) : (wordsQ r).bind (endQ l) = (wordsX r).bind (endQ l) := by
  induction hn : r.length using Nat.strongRecOn generalizing r with
  | ind n ih =>
    by_cases hd : ∃ t, r = 95 :: t
    · obtain ⟨t, rfl⟩ := hd
      rw [List.length_cons] at hn
      rcases lets_smalls t with h | ⟨c, q, h1, h2, x, hx, hx2⟩
      · by_cases hw : wordI (smalls t) < 0
        · rw [wordsQ_none t hw, wordsX_none t (by rw [h]; exact hw)]
        · rw [wordsQ_next t hw, wordsX_next t (by rw [h]; exact hw)]
          have e : past isLet t = past isSmall t := by
            have h' : t.takeWhile isLet = t.takeWhile isSmall := h
            simp only [past, h']
          rw [e]
          have h1 := past_len isSmall t
          have h2 := past_len isDig (past isSmall t)
          exact ih _ (by omega) _ rfl
      · have hwl : wordI (lets t) < 0 := by
          apply Classical.byContradiction
          intro hge
          have := word_small (lets t) (by omega) x hx
          rw [hx2] at this
          cases this
        rw [wordsX_none t hwl]
        by_cases hw : wordI (smalls t) < 0
        · rw [wordsQ_none t hw]
        · rw [wordsQ_next t hw, h1]
          have hc : isDig c = false := by
            simp [isBig] at h2
            simp [isDig]; omega
          have hp : past isDig (c :: q) = c :: q := by simp [past, List.takeWhile_cons, hc]
          have h95 : ∀ u, c :: q ≠ 95 :: u := fun u e => by
            injection e with e1
            subst e1
            exact absurd h2 (by decide)
          rw [hp, wordsQ_end _ h95]
          have hr : revT (c :: q) = none := by
            rw [revT_dash]
            have : dashR (c :: q) = false := by
              have h45 : ¬ c = 45 := fun e => by subst e; exact absurd h2 (by decide)
              unfold dashR
              split
              · rename_i e; injection e with e1; exact absurd e1 h45
              · rfl
            rw [this]
            rfl
          simp [endQ, hr]
    · rw [wordsQ_end r (fun t e => hd ⟨t, e⟩), wordsX_end r (fun t e => hd ⟨t, e⟩)]
theorem apkQ_X (l : List UInt8) : apkQ l = (numsQ l).bind fun r => (wordsX (signQ r)).bind (endQ l) := by
  rw [apkQ]
  congr 1
  funext r
  exact words_same l (signQ r)
end Go.Proofs.YtdnncbhbajciaaaDoor

/- Fields of dependencies of Dpkg, in plain words: the things read stand in order; the document's way to the first that is wrong is the program's. -/
import Derived.Test.YtdnncbhbajciaaaDoorDdF
namespace Go.Proofs.YtdnncbhbajciaaaDoor
/-- b stands behind a. -/
def OrdI (a b : It) : Prop := b.rest.length ≤ a.rest.length ∧ (b.kind = 0 → b.rest.length < a.rest.length)
def Span (hi lo : Nat) (its : List It) : Prop := (∀ it ∈ its, lo < it.rest.length ∧ it.rest.length ≤ hi) ∧ its.Pairwise OrdI
theorem Span.nil (hi lo : Nat) : Span hi lo [] := ⟨(fun _ h => by cases h), List.Pairwise.nil⟩
theorem Span.one {hi lo : Nat} (it : It) (h1 : lo < it.rest.length) (h2 : it.rest.length ≤ hi) : Span hi lo [it] := ⟨(fun x hx => by simp at hx; subst hx; exact ⟨h1, h2⟩), List.pairwise_singleton _ _⟩
theorem Span.wide {hi lo hi' lo' : Nat} {its : List It} (h : Span hi lo its) (h1 : hi ≤ hi') (h2 : lo' ≤ lo) : Span hi' lo' its :=
  ⟨fun it hit => by have := h.1 it hit; omega, h.2⟩
theorem Span.app {hi mid lo : Nat} {a b : List It} (h : Span hi mid a) (k : Span mid lo b) (h1 : mid ≤ hi) (h2 : lo ≤ mid) : Span hi lo (a ++ b) := by
  refine ⟨fun it hit => ?_, List.pairwise_append.2 ⟨h.2, k.2, fun x hx y hy => ?_⟩⟩
  · rcases List.mem_append.1 hit with h0 | h0
    · have := h.1 it h0; omega
    · have := k.1 it h0; omega
  · have := h.1 x hx
    have := k.1 y hy
    exact ⟨by omega, fun _ => by omega⟩
theorem pRel2_span (op : Int) (r : List UInt8) : ∀ a q i, pRel2 op r = .ok a q i → Span r.length q.length i := by
  intro a q i h
  unfold pRel2 at h
  split at h
  · cases h
  · rename_i hne
    split at h
    · rename_i t ht
      injection h with _ h2 h4
      subst h2 h4
      have h1 := skipB_len t
      have h3 := skipB_len (behind vEnds r)
      have h4 := upTo_pos vEnds r hne
      rw [ht, List.length_cons] at h3
      exact Span.one _ (by simp only; omega) (Nat.le_refl _)
    · cases h
theorem pRel_span (r : List UInt8) : ∀ a q i, pRel r = .ok a q i → Span r.length q.length i := by
  intro a q i h
  unfold pRel at h
  split at h
  · cases h
  · have h1 := pRel2_span _ _ a q i h
    have h2 := skipB_len (pOp (skipB r)).2
    have h3 := pOp_len (skipB r)
    have h4 := skipB_len r
    exact h1.wide (by omega) (Nat.le_refl _)
theorem pArchs_span (r : List UInt8) (acc : List (List UInt8)) (its : List It) : ∀ a q i, pArchs r acc its = .ok a q i → ∃ n, i = its ++ n ∧ Span r.length q.length n := by
  induction hn : r.length using Nat.strongRecOn generalizing r acc its with
  | ind n ih =>
    intro a q i h
    have hl := pArchs_len _ _ _ _ _ _ h
    rw [pArchs] at h
    have h3 := notP_len r
    have h4 := skipB_len (behind wEnds (notP r).2)
    have h5 := behind_len wEnds (notP r).2
    split at h
    · cases h
    · rename_i hne
      have h6 := upTo_pos _ _ hne
      split at h
      · rename_i t ht
        injection h with _ h2 h7
        subst h2 h7
        have h1 := skipB_len t
        rw [ht, List.length_cons] at h4
        exact ⟨_, rfl, Span.one _ (by simp only; omega) (by simp only; omega)⟩
      · split at h
        · cases h
        · have hl2 := pArchs_len _ _ _ _ _ _ h
          obtain ⟨m, rfl, hm⟩ := ih _ (by omega) _ _ _ rfl a q i h
          refine ⟨_, List.append_assoc _ _ _, ?_⟩
          exact Span.app (mid := (skipB (behind wEnds (notP r).2)).length) (Span.one _ (by simp only; omega) (by simp only; omega)) hm (by omega) (by omega)
theorem pQual_span (r : List UInt8) : ∀ a q i, pQual r = .ok a q i → Span r.length q.length i := by
  intro a q i h
  unfold pQual at h
  split at h
  · rename_i t
    split at h
    · cases h
    · rename_i hne
      injection h with _ h2 h4
      subst h2 h4
      have := upTo_pos wEnds t hne
      exact Span.one _ (by simp only; omega) (by simp)
  · injection h with _ h2 h4
    subst h2 h4
    exact Span.nil _ _
theorem pRelQ_span (r : List UInt8) : ∀ a q i, pRelQ r = .ok a q i → Span r.length q.length i := by
  intro a q i h
  unfold pRelQ at h
  split at h
  · rename_i t
    exact (pRel_span t a q i h).wide (by simp) (Nat.le_refl _)
  · injection h with _ h2 h4
    subst h2 h4
    exact Span.nil _ _
theorem pArchQ_span (r : List UInt8) : ∀ a q i, pArchQ r = .ok a q i → Span r.length q.length i := by
  intro a q i h
  unfold pArchQ at h
  split at h
  · rename_i t
    obtain ⟨n, rfl, hn⟩ := pArchs_span (skipB t) _ _ a q i h
    have := skipB_len t
    exact hn.wide (by simp; omega) (Nat.le_refl _)
  · injection h with _ h2 h4
    subst h2 h4
    exact Span.nil _ _
theorem pTerm_span (r : List UInt8) : ∀ a q i, pTerm r = .ok a q i → Span r.length q.length i := by
  intro a q i h
  unfold pTerm at h
  split at h
  · cases h
  · rename_i hne
    have h0 := upTo_pos nEnds r hne
    unfold pTerm1 at h
    split at h
    · cases h
    · rename_i q1 r1 i1 e1
      have h1 := pQual_len _ _ _ _ e1
      have s1 := pQual_span _ _ _ _ e1
      have h1' := skipB_len r1
      unfold pTerm2 at h
      split at h
      · cases h
      · rename_i ov r2 i2 e2
        have h2 := pRelQ_len _ _ _ _ e2
        have s2 := pRelQ_span _ _ _ _ e2
        unfold pTerm3 at h
        split at h
        · cases h
        · rename_i a3 r3 i3 e3
          have h3 := pArchQ_len _ _ _ _ e3
          have s3 := pArchQ_span _ _ _ _ e3
          injection h with _ h4 h5
          subst h4 h5
          have s12 := Span.app (s1.wide (Nat.le_refl _) h1') s2 (by omega) (by omega)
          have s123 := Span.app s12 s3 (by omega) (by omega)
          have s0 : Span r.length (behind nEnds r).length [⟨0, r, []⟩, ⟨1, r, upTo nEnds r⟩] := by
            refine ⟨fun it hit => ?_, ?_⟩
            · simp at hit
              rcases hit with rfl | rfl <;> exact ⟨by simp only; omega, Nat.le_refl _⟩
            · rw [List.pairwise_cons]
              refine ⟨fun b hb => ?_, List.pairwise_singleton _ _⟩
              simp at hb
              subst hb
              exact ⟨Nat.le_refl _, fun h => by simp at h⟩
          exact Span.app s0 s123 (by omega) (by omega)
theorem pGroup_span (r : List UInt8) (acc : List Tm) (its : List It) : ∀ a q i, pGroup r acc its = .ok a q i → ∃ n, i = its ++ n ∧ Span r.length q.length n := by
  induction hn : r.length using Nat.strongRecOn generalizing r acc its with
  | ind n ih =>
    intro a q i h
    cases ht : pTerm r with
    | bad b => rw [pGroup_bad r acc its b ht] at h; cases h
    | ok t r1 i1 =>
      have h1 := pTerm_len _ _ _ _ ht
      have s1 := pTerm_span _ _ _ _ ht
      by_cases hd : ∃ u, r1 = 124 :: u
      · obtain ⟨u, rfl⟩ := hd
        rw [pGroup_next r acc its t u i1 ht] at h
        have h2 := skipB_len u
        have h3 := pGroup_len _ _ _ _ _ _ h
        rw [List.length_cons] at h1 s1
        obtain ⟨m, rfl, hm⟩ := ih _ (by omega) _ _ _ rfl a q i h
        exact ⟨_, List.append_assoc _ _ _, Span.app (s1.wide (by omega) (by omega)) hm (by omega) (by omega)⟩
      · rw [pGroup_end r acc its t r1 i1 ht (fun u e => hd ⟨u, e⟩)] at h
        injection h with _ h2 h4
        subst h2 h4
        exact ⟨_, rfl, hn ▸ s1⟩
theorem pField_nil (r : List UInt8) (acc : List (List Tm)) (its : List It) : ∀ a q i, pField r acc its = .ok a q i → q = [] := by
  induction hn : r.length using Nat.strongRecOn generalizing r acc its with
  | ind n ih =>
    intro a q i h
    cases ht : pGroup r [] [] with
    | bad b => rw [pField_bad r acc its b ht] at h; cases h
    | ok t r1 i1 =>
      have h1 := pGroup_len _ _ _ _ _ _ ht
      by_cases h0 : r1 = []
      · subst h0
        rw [pField_end r acc its t _ ht] at h
        injection h with _ h2 h4
        exact h2.symm
      · by_cases hd : ∃ u, r1 = 44 :: u
        · obtain ⟨u, rfl⟩ := hd
          rw [pField_next r acc its t u _ ht] at h
          have h2 := skipB_len u
          rw [List.length_cons] at h1
          exact ih _ (by omega) _ _ _ rfl a q i h
        · rw [pField_no r acc its t r1 _ ht h0 (fun u e => hd ⟨u, e⟩)] at h
          cases h
theorem pField_span (r : List UInt8) (acc : List (List Tm)) (its : List It) : ∀ a q i, pField r acc its = .ok a q i → ∃ n, i = its ++ n ∧ Span r.length q.length n := by
  induction hn : r.length using Nat.strongRecOn generalizing r acc its with
  | ind n ih =>
    intro a q i h
    cases ht : pGroup r [] [] with
    | bad b => rw [pField_bad r acc its b ht] at h; cases h
    | ok t r1 i1 =>
      have h1 := pGroup_len _ _ _ _ _ _ ht
      obtain ⟨m1, hm1, s1⟩ := pGroup_span _ _ _ _ _ _ ht
      simp at hm1
      subst hm1
      by_cases h0 : r1 = []
      · subst h0
        rw [pField_end r acc its t _ ht] at h
        injection h with _ h2 h4
        subst h2 h4
        exact ⟨_, rfl, hn ▸ s1⟩
      · by_cases hd : ∃ u, r1 = 44 :: u
        · obtain ⟨u, rfl⟩ := hd
          rw [pField_next r acc its t u _ ht] at h
          have h2 := skipB_len u
          rw [List.length_cons] at h1 s1
          obtain ⟨m, rfl, hm⟩ := ih _ (by omega) _ _ _ rfl a q i h
          have hq := pField_nil _ _ _ _ _ _ h
          subst hq
          exact ⟨_, List.append_assoc _ _ _, Span.app (s1.wide (by omega) (by omega)) hm (by omega) (Nat.zero_le _)⟩
        · rw [pField_no r acc its t r1 _ ht h0 (fun u e => hd ⟨u, e⟩)] at h
          cases h
theorem pAll_span (s : List UInt8) : ∀ a q i, pAll s = .ok a q i → Span s.length 0 i := by
  intro a q i h
  unfold pAll at h
  split at h
  · injection h with _ h2 h4
    subst h4
    exact Span.nil _ _
  · obtain ⟨n, rfl, hn⟩ := pField_span _ _ _ _ _ _ h
    have := skipB_len s
    exact hn.wide this (Nat.zero_le _)
/-- Where a thing stands. -/
def itAt (s : List UInt8) (it : It) : Int := (s.length : Int) - it.rest.length
def isHd (it : It) : Bool := it.kind == 0
def isPt (it : It) : Bool := !(it.kind == 0)
/-- The document's way: the first part that is wrong, of those ahead of large. -/
def scanR (s : List UInt8) (large : Int) : List It → Option (Int × Int)
  | [] => none
  | p :: r => if large ≤ itAt s p then none else if itErr p = 0 then scanR s large r else some (itAt s p, itErr p)
def largeR (s : List UInt8) (hs : List It) (k : Nat) : Int := match hs[k]? with
  | some h => itAt s h
  | none => (s.length : Int) + 1
theorem all_stuck (n : Nt) (its : List It) (h : n.code ≠ 0) : (n.all its).code = n.code ∧ (n.all its).rest = n.rest := by
  induction its generalizing n with
  | nil => exact ⟨rfl, rfl⟩
  | cons it its ih =>
    have hst : (n.step it).code = n.code ∧ (n.step it).rest = n.rest := by
      unfold Nt.step Nt.note
      split
      · rw [if_neg (fun e => h e.1)]; exact ⟨rfl, rfl⟩
      · rw [if_neg (fun e => h e.1)]; exact ⟨rfl, rfl⟩
    have := ih (n.step it) (by rw [hst.1]; exact h)
    rw [hst.1, hst.2] at this
    exact this
def ntIs (s : List UInt8) (n : Nt) (x : Option (Int × Int)) : Prop := match x with
  | none => n.code = 0
  | some (a, c) => n.code = c ∧ c ≠ 0 ∧ wAt s n = a
theorem scanR_none (s : List UInt8) (large : Int) (l : List It) (h : ∀ p ∈ l, large ≤ itAt s p) : scanR s large l = none := by
  cases l with
  | nil => rfl
  | cons p r => rw [scanR, if_pos (h p (by simp))]
theorem scan_is (s : List UInt8) (its : List It) (hp : its.Pairwise OrdI) (hb : ∀ it ∈ its, it.rest.length ≤ s.length) (n : Nt) (hc : n.code = 0) (ht : n.terms ≤ 64) :
    ntIs s (n.all its) (match scanR s (largeR s (its.filter isHd) (64 - n.terms)) (its.filter isPt) with
      | some x => some x
      | none => if 64 - n.terms < (its.filter isHd).length then some (largeR s (its.filter isHd) (64 - n.terms), 4) else none) := by
  induction its generalizing n with
  | nil => simp [scanR, ntIs, Nt.all, hc]
  | cons it its ih =>
    rw [List.pairwise_cons] at hp
    have ih' := ih hp.2 (fun x hx => hb x (by simp [hx]))
    show ntIs s ((n.step it).all its) _
    by_cases hk : it.kind = 0
    · have e1 : isHd it = true := by simp [isHd, hk]
      have e2 : isPt it = false := by simp [isPt, hk]
      rw [List.filter_cons_of_pos e1, List.filter_cons_of_neg (by simp [e2])]
      by_cases h64 : 64 < n.terms + 1
      · have h0 : 64 - n.terms = 0 := by omega
        rw [h0]
        have hst : n.step it = ⟨n.terms + 1, it.rest, 4⟩ := by
          rw [Nt.step, if_pos hk, if_pos h64, Nt.note, if_pos ⟨hc, by decide⟩]
        have hl : largeR s (it :: its.filter isHd) 0 = itAt s it := rfl
        rw [hl, scanR_none _ _ _ (fun p hp' => by
          have := (hp.1 p (List.mem_filter.1 hp').1).1
          unfold itAt; omega)]
        simp only [List.length_cons, Nat.zero_lt_succ, if_true]
        obtain ⟨g1, g2⟩ := all_stuck (n.step it) its (by rw [hst]; show (4 : Int) ≠ 0; decide)
        rw [hst] at g1 g2 ⊢
        refine ⟨g1, by decide, ?_⟩
        rw [wAt, g1, g2]
        rfl
      · have hst : n.step it = ⟨n.terms + 1, n.rest, n.code⟩ := by
          rw [Nt.step, if_pos hk, if_neg h64, Nt.note, if_neg (fun e => e.2 rfl)]
        have h2 := ih' (n.step it) (by rw [hst]; exact hc) (by rw [hst]; show n.terms + 1 ≤ 64; omega)
        have h3 : 64 - (n.step it).terms + 1 = 64 - n.terms := by rw [hst]; show 64 - (n.terms + 1) + 1 = _; omega
        rw [← h3]
        have hl : largeR s (it :: its.filter isHd) (64 - (n.step it).terms + 1) = largeR s (its.filter isHd) (64 - (n.step it).terms) := by simp [largeR]
        rw [hl, List.length_cons]
        simp only [Nat.add_lt_add_iff_right]
        exact h2
    · have e1 : isHd it = false := by simp [isHd, hk]
      have e2 : isPt it = true := by simp [isPt, hk]
      rw [List.filter_cons_of_neg (by simp [e1]), List.filter_cons_of_pos e2]
      have hlt : ¬ largeR s (its.filter isHd) (64 - n.terms) ≤ itAt s it := by
        unfold largeR
        split
        · rename_i h hh
          have hm := List.mem_of_getElem? hh
          rw [List.mem_filter] at hm
          have h5 := (hp.1 h hm.1).2 (by simpa [isHd] using hm.2)
          unfold itAt; omega
        · unfold itAt; omega
      rw [scanR, if_neg hlt]
      by_cases he : itErr it = 0
      · have hst : n.step it = n := by rw [Nt.step, if_neg hk, Nt.note, if_neg (fun e => e.2 he)]
        rw [if_pos he, hst]
        exact ih' n hc ht
      · have hst : n.step it = ⟨n.terms, it.rest, itErr it⟩ := by rw [Nt.step, if_neg hk, Nt.note, if_pos ⟨hc, he⟩]
        rw [if_neg he]
        obtain ⟨g1, g2⟩ := all_stuck (n.step it) its (by rw [hst]; exact he)
        rw [hst] at g1 g2 ⊢
        refine ⟨g1, he, ?_⟩
        rw [wAt, g1, g2, if_neg he]
        rfl
/-- The document's answer. -/
def refS (s : List UInt8) : List (List Tm) × Int × Int := match pAll s with
  | .bad b => ([], (s.length : Int) - b.length, 3)
  | .ok l _ its => match scanR s (largeR s (its.filter isHd) 64) (its.filter isPt) with
    | some x => ([], x.1, x.2)
    | none => if 64 < (its.filter isHd).length then ([], largeR s (its.filter isHd) 64, 4) else (l, 0, 0)
theorem ref_is (s : List UInt8) : refS s = parseS s := by
  unfold refS parseS
  cases h : pAll s with
  | bad b => rfl
  | ok l q its =>
    have hsp := pAll_span _ _ _ _ h
    have := scan_is s its hsp.2 (fun it hit => (hsp.1 it hit).2) nt0 rfl (Nat.zero_le _)
    have e : 64 - nt0.terms = 64 := rfl
    rw [e] at this
    show (match scanR s (largeR s (its.filter isHd) 64) (its.filter isPt) with
      | some x => ([], x.1, x.2)
      | none => if 64 < (its.filter isHd).length then ([], largeR s (its.filter isHd) 64, 4) else (l, 0, 0)) = if (nt0.all its).code = 0 then (l, 0, 0) else ([], wAt s (nt0.all its), (nt0.all its).code)
    revert this
    cases scanR s (largeR s (its.filter isHd) 64) (its.filter isPt) with
    | some x =>
      intro this
      obtain ⟨a, c⟩ := x
      obtain ⟨g1, g2, g3⟩ := this
      show ([], a, c) = if (nt0.all its).code = 0 then _ else _
      rw [g1, g3, if_neg g2]
    | none =>
      by_cases h64 : 64 < (its.filter isHd).length
      · simp only [if_pos h64]
        intro this
        obtain ⟨g1, g2, g3⟩ := this
        rw [g1, g3, if_neg g2]
      · simp only [if_neg h64]
        intro this
        have this : (nt0.all its).code = 0 := this
        rw [if_pos this]
end Go.Proofs.YtdnncbhbajciaaaDoor

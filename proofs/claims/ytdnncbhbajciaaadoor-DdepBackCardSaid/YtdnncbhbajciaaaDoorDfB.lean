/- Fields of dependencies of Dpkg, in plain words: what is read is right, and not long when written; where a field is wrong lies in it. -/
import Derived.Test.YtdnncbhbajciaaaDoorDfA
import Derived.Test.YtdnncbhbajciaaaDoorDdU
namespace Go.Proofs.YtdnncbhbajciaaaDoor
def AllOk (its : List It) : Prop := ∀ it ∈ its, it.kind ≠ 0 → itErr it = 0
theorem code_ok (its : List It) : ∀ n : Nt, n.terms ≤ 64 → (n.all its).code = 0 → AllOk its ∧ (n.all its).terms ≤ 64 := by
  induction its with
  | nil => intro n ht _; exact ⟨(fun _ h => by cases h), ht⟩
  | cons it its ih =>
    intro n ht h
    have h : ((n.step it).all its).code = 0 := h
    have h0 : (n.step it).code = 0 := by
      cases Int.decEq (n.step it).code 0 with
      | isTrue e => exact e
      | isFalse e => rw [(all_stuck _ its e).1] at h; exact absurd h e
    have key : (it.kind ≠ 0 → itErr it = 0) ∧ (n.step it).terms ≤ 64 := by
      unfold Nt.step at h0 ⊢
      by_cases hk : it.kind = 0
      · rw [if_pos hk] at h0 ⊢
        by_cases h64 : 64 < n.terms + 1
        · exfalso
          rw [if_pos h64] at h0
          unfold Nt.note at h0
          by_cases hc : n.code = 0
          · rw [if_pos ⟨hc, by decide⟩] at h0; cases h0
          · rw [if_neg (fun e => hc e.1)] at h0; exact hc h0
        · rw [if_neg h64, note_terms]
          exact ⟨fun e => absurd hk e, by show n.terms + 1 ≤ 64; omega⟩
      · rw [if_neg hk] at h0 ⊢
        rw [note_terms]
        refine ⟨fun _ => ?_, ht⟩
        cases Int.decEq (itErr it) 0 with
        | isTrue e => exact e
        | isFalse e =>
          unfold Nt.note at h0
          by_cases hc : n.code = 0
          · rw [if_pos ⟨hc, e⟩] at h0; exact absurd h0 e
          · rw [if_neg (fun e => hc e.1)] at h0; exact absurd h0 hc
    obtain ⟨h1, h2⟩ := ih _ key.2 h
    exact ⟨fun x hx => (List.mem_cons.1 hx).elim (fun e => e ▸ key.1) (h1 x), h2⟩
def wt (l : List (List UInt8)) : Nat := (l.map fun b => b.length + 1).sum
theorem wt_snoc (l : List (List UInt8)) (a : List UInt8) : wt (l ++ [a]) = wt l + (a.length + 1) := by simp [wt]
theorem notP_bare (r : List UInt8) : bareW ((notP r).1 ++ upTo wEnds (notP r).2) = upTo wEnds (notP r).2 := by
  unfold notP
  split
  · rfl
  · rename_i h
    rw [List.nil_append]
    unfold bareW
    split
    · rename_i t e
      exfalso
      cases r with
      | nil => simp [upTo] at e
      | cons c u =>
        have hc : c = 33 := by
          by_cases hb : noEnd wEnds c = true
          · simp only [upTo, List.takeWhile_cons, hb, if_true] at e
            injection e
          · simp [upTo, List.takeWhile_cons, hb] at e
        subst hc
        have : upTo wEnds (33 :: u) = [] := by
          have h33 : noEnd wEnds 33 = false := by decide +kernel
          simp [upTo, List.takeWhile_cons, h33]
        rw [this] at e; cases e
    · rfl
theorem notP_sum (r : List UInt8) : (notP r).1.length + (notP r).2.length = r.length := by
  unfold notP
  split <;> simp; omega
theorem pArchs_right (r : List UInt8) (acc : List (List UInt8)) (its : List It) : ∀ a q i, pArchs r acc its = .ok a q i → AllOk i → (∀ b ∈ acc, wordB (bareW b) = true) → (∀ b ∈ a, wordB (bareW b) = true) ∧ wt a + q.length ≤ wt acc + r.length := by
  induction hn : r.length using Nat.strongRecOn generalizing r acc its with
  | ind n ih =>
    intro a q i h hok hacc
    obtain ⟨m, hm, _⟩ := pArchs_span _ _ _ _ _ _ h
    have h' := h
    rw [pArchs] at h
    have h3 := notP_sum r
    have h4 := skipB_len (behind wEnds (notP r).2)
    have h5 := behind_len wEnds (notP r).2
    split at h
    · cases h
    · rename_i hne
      have h6 := upTo_pos _ _ hne
      have hnew : itErr ⟨2, (notP r).2, upTo wEnds (notP r).2⟩ = 0 → ∀ b ∈ acc ++ [(notP r).1 ++ upTo wEnds (notP r).2], wordB (bareW b) = true := by
        intro he b hb
        rcases List.mem_append.1 hb with hb | hb
        · exact hacc b hb
        · rw [List.mem_singleton.1 hb, notP_bare]
          simp only [itErr] at he
          cases hw : wordB (upTo wEnds (notP r).2) with
          | true => rfl
          | false => rw [hw] at he; simp at he
      split at h
      · rename_i t ht
        injection h with e1 e2 e3
        subst e1 e2 e3
        have h1 := skipB_len t
        rw [ht, List.length_cons] at h4
        refine ⟨hnew (hok _ (by simp) (by simp)), ?_⟩
        rw [wt_snoc, List.length_append]
        omega
      · split at h
        · cases h
        · rename_i hs
          obtain ⟨m2, hm2, _⟩ := pArchs_span _ _ _ _ _ _ h
          have he : itErr ⟨2, (notP r).2, upTo wEnds (notP r).2⟩ = 0 := hok _ (by rw [hm2]; simp) (by simp)
          obtain ⟨g1, g2⟩ := ih _ (by omega) _ _ _ rfl a q i h hok (hnew he)
          refine ⟨g1, ?_⟩
          rw [wt_snoc, List.length_append] at g2
          omega
theorem pQual_right (r : List UInt8) : ∀ a q i, pQual r = .ok a q i → AllOk i → a = [] ∨ wordB a = true := by
  intro a q i h hok
  unfold pQual at h
  split at h
  · split at h
    · cases h
    · injection h with e1 e2 e3
      subst e1 e2 e3
      have := hok _ (List.mem_singleton.2 rfl) (by simp)
      simp only [itErr] at this
      right
      rename_i t _
      cases hw : wordB (upTo wEnds t) with
      | true => rfl
      | false => rw [hw] at this; simp at this
  · injection h with e1 _ _
    exact .inl e1.symm
theorem pOp_range (r : List UInt8) : 0 ≤ (pOp r).1 ∧ (pOp r).1 ≤ 5 := by
  unfold pOp
  split <;> simp
theorem pRelQ_right (r : List UInt8) : ∀ a q i, pRelQ r = .ok a q i → AllOk i → (a.1 = 0 ∧ a.2 = []) ∨ (a.1 ≠ 0 ∧ 0 ≤ a.1 ∧ a.1 ≤ 5 ∧ vErr 1 a.2 = 0) := by
  intro a q i h hok
  unfold pRelQ at h
  split at h
  · rename_i t
    unfold pRel at h
    have hr := pOp_range (skipB t)
    split at h
    · cases h
    · rename_i h0
      unfold pRel2 at h
      split at h
      · cases h
      · split at h
        · injection h with e1 e2 e3
          subst e1 e2 e3
          exact .inr ⟨h0, hr.1, hr.2, by simpa [itErr] using hok _ (List.mem_singleton.2 rfl) (by simp)⟩
        · cases h
  · injection h with e1 _ _
    subst e1
    exact .inl ⟨rfl, rfl⟩
theorem pArchQ_right (r : List UInt8) : ∀ a q i, pArchQ r = .ok a q i → AllOk i → (∀ b ∈ a, wordB (bareW b) = true) ∧ wt a + q.length ≤ r.length := by
  intro a q i h hok
  unfold pArchQ at h
  split at h
  · rename_i t
    obtain ⟨h1, h2⟩ := pArchs_right _ _ _ _ _ _ h hok (fun _ h => by cases h)
    have := skipB_len t
    refine ⟨h1, ?_⟩
    have h0 : wt [] = 0 := rfl
    rw [List.length_cons]
    omega
  · injection h with e1 e2 _
    subst e1 e2
    exact ⟨(fun _ h => by cases h), by simp [wt]⟩
theorem AllOk.left {a b : List It} (h : AllOk (a ++ b)) : AllOk a := fun it hit => h it (List.mem_append_left _ hit)
theorem AllOk.right {a b : List It} (h : AllOk (a ++ b)) : AllOk b := fun it hit => h it (List.mem_append_right _ hit)
theorem pTerm_right (r : List UInt8) : ∀ a q i, pTerm r = .ok a q i → AllOk i → tErr a = 0 ∧ wt a.archs + q.length ≤ r.length := by
  intro a q i h hok
  unfold pTerm at h
  split at h
  · cases h
  · rename_i hne
    have h0 := upTo_pos nEnds r hne
    unfold pTerm1 at h
    split at h
    · cases h
    · rename_i q1 r1 i1 e1
      have h1 := pQual_len _ _ _ _ e1
      have h1' := skipB_len r1
      unfold pTerm2 at h
      split at h
      · cases h
      · rename_i ov r2 i2 e2
        have h2 := pRelQ_len _ _ _ _ e2
        unfold pTerm3 at h
        split at h
        · cases h
        · rename_i a3 r3 i3 e3
          injection h with g1 g2 g3
          subst g1 g2 g3
          have hok' : AllOk ([⟨0, r, []⟩] ++ ([⟨1, r, upTo nEnds r⟩] ++ ((i1 ++ i2) ++ i3))) := hok
          have k1 := pQual_right _ _ _ _ e1 hok'.right.right.left.left
          have k2 := pRelQ_right _ _ _ _ e2 hok'.right.right.left.right
          obtain ⟨k3, k4⟩ := pArchQ_right _ _ _ _ e3 hok'.right.right.right
          have kn : nameB (upTo nEnds r) = true := by
            have := hok'.right.left _ (List.mem_singleton.2 rfl) (by simp)
            simp only [itErr] at this
            cases hw : nameB (upTo nEnds r) with
            | true => rfl
            | false => rw [hw] at this; simp at this
          refine ⟨?_, by show wt a3 + r3.length ≤ r.length; omega⟩
          unfold tErr
          have b1 : nmBad ⟨upTo nEnds r, ov.1, ov.2, q1, a3⟩ = false := by
            simp only [nmBad, kn]
            rcases k1 with rfl | k1
            · rfl
            · simp [k1]
          have b2 : arBad a3 = false := by
            simp only [arBad, List.any_eq_false]
            intro x hx
            simp [k3 x hx]
          rw [b1, if_neg (by simp)]
          show (if arBad a3 = true then 10 else _) = 0
          rw [b2, if_neg (by simp)]
          rcases k2 with ⟨z1, z2⟩ | ⟨z0, z1, z2, z3⟩
          · have b3 : opBad ⟨upTo nEnds r, ov.1, ov.2, q1, a3⟩ = false := by simp [opBad, z1, z2]
            rw [b3, if_neg (by simp), if_pos z1]
          · have b3 : opBad ⟨upTo nEnds r, ov.1, ov.2, q1, a3⟩ = false := by simp [opBad, z0]; omega
            rw [b3, if_neg (by simp), if_neg z0]
            exact z3
def gw (g : List Tm) : Nat := (g.map fun t => wt t.archs).sum
def fw (l : List (List Tm)) : Nat := (l.map gw).sum
theorem gw_snoc (g : List Tm) (t : Tm) : gw (g ++ [t]) = gw g + wt t.archs := by simp [gw]
theorem fw_snoc (l : List (List Tm)) (g : List Tm) : fw (l ++ [g]) = fw l + gw g := by simp [fw]
theorem sumT_snoc (l : List (List Tm)) (g : List Tm) : sumT (l ++ [g]) = sumT l + g.length := by simp [sumT]
theorem pGroup_right (r : List UInt8) (acc : List Tm) (its : List It) (n : Nt) : ∀ a q i, pGroup r acc its = .ok a q i → AllOk i → (∀ t ∈ acc, tErr t = 0) →
    (∀ t ∈ a, tErr t = 0) ∧ a ≠ [] ∧ gw a + q.length ≤ gw acc + r.length ∧ (n.all i).terms + acc.length = (n.all its).terms + a.length := by
  induction hn : r.length using Nat.strongRecOn generalizing r acc its with
  | ind m ih =>
    intro a q i h hok hacc
    cases ht : pTerm r with
    | bad b => rw [pGroup_bad r acc its b ht] at h; cases h
    | ok t r1 i1 =>
      have h1 := pTerm_len _ _ _ _ ht
      have htm := pTerm_terms r (n.all its) _ _ _ ht
      rw [← Nt.all_app] at htm
      have hnew : tErr t = 0 → ∀ x ∈ acc ++ [t], tErr x = 0 := fun e x hx => (List.mem_append.1 hx).elim (hacc x) (fun hx => by rw [List.mem_singleton.1 hx]; exact e)
      by_cases hd : ∃ u, r1 = 124 :: u
      · obtain ⟨u, rfl⟩ := hd
        rw [pGroup_next r acc its t u i1 ht] at h
        have h2 := skipB_len u
        obtain ⟨m2, hm2, _⟩ := pGroup_span _ _ _ _ _ _ h
        rw [List.length_cons] at h1
        have hok1 : AllOk i1 := by rw [hm2] at hok; exact hok.left.right
        obtain ⟨k1, k2⟩ := pTerm_right _ _ _ _ ht hok1
        rw [List.length_cons] at k2
        obtain ⟨g1, g2, g3, g4⟩ := ih _ (by omega) _ _ _ rfl a q i h hok (hnew k1)
        rw [gw_snoc] at g3
        rw [List.length_append, List.length_singleton] at g4
        exact ⟨g1, g2, by omega, by omega⟩
      · rw [pGroup_end r acc its t r1 i1 ht (fun u e => hd ⟨u, e⟩)] at h
        injection h with e1 e2 e3
        subst e1 e2 e3
        obtain ⟨k1, k2⟩ := pTerm_right _ _ _ _ ht hok.right
        refine ⟨hnew k1, by simp, ?_, ?_⟩
        · rw [gw_snoc]; omega
        · rw [List.length_append, List.length_singleton]; omega
theorem pField_right (r : List UInt8) (acc : List (List Tm)) (its : List It) (n : Nt) : ∀ a q i, pField r acc its = .ok a q i → AllOk i → (∀ g ∈ acc, g ≠ [] ∧ ∀ t ∈ g, tErr t = 0) →
    (∀ g ∈ a, g ≠ [] ∧ ∀ t ∈ g, tErr t = 0) ∧ fw a ≤ fw acc + r.length ∧ (n.all i).terms + sumT acc = (n.all its).terms + sumT a := by
  induction hn : r.length using Nat.strongRecOn generalizing r acc its with
  | ind m ih =>
    intro a q i h hok hacc
    cases ht : pGroup r [] [] with
    | bad b => rw [pField_bad r acc its b ht] at h; cases h
    | ok t r1 i1 =>
      have h1 := pGroup_len _ _ _ _ _ _ ht
      have hnew : (t ≠ [] ∧ ∀ x ∈ t, tErr x = 0) → ∀ x ∈ acc ++ [t], x ≠ [] ∧ ∀ y ∈ x, tErr y = 0 := fun e x hx => (List.mem_append.1 hx).elim (hacc x) (fun hx => by rw [List.mem_singleton.1 hx]; exact e)
      have hz : gw [] = 0 := rfl
      by_cases h0 : r1 = []
      · subst h0
        rw [pField_end r acc its t _ ht] at h
        injection h with e1 e2 e3
        subst e1 e2 e3
        obtain ⟨k1, k2, k3, k4⟩ := pGroup_right _ _ _ (n.all its) _ _ _ ht hok.right (fun _ h => by cases h)
        rw [← Nt.all_app] at k4
        have k4 : (n.all (its ++ i1)).terms + 0 = (n.all its).terms + t.length := k4
        refine ⟨hnew ⟨k2, k1⟩, ?_, ?_⟩
        · rw [fw_snoc]; simp at k3; omega
        · rw [sumT_snoc]; omega
      · by_cases hd : ∃ u, r1 = 44 :: u
        · obtain ⟨u, rfl⟩ := hd
          rw [pField_next r acc its t u _ ht] at h
          have h2 := skipB_len u
          rw [List.length_cons] at h1
          obtain ⟨m2, hm2, _⟩ := pField_span _ _ _ _ _ _ h
          have hok1 : AllOk i1 := by rw [hm2] at hok; exact hok.left.right
          obtain ⟨k1, k2, k3, k4⟩ := pGroup_right _ _ _ (n.all its) _ _ _ ht hok1 (fun _ h => by cases h)
          rw [← Nt.all_app] at k4
          have k4 : (n.all (its ++ i1)).terms + 0 = (n.all its).terms + t.length := k4
          obtain ⟨g1, g2, g3⟩ := ih _ (by omega) _ _ _ rfl a q i h hok (hnew ⟨k2, k1⟩)
          rw [fw_snoc] at g2
          rw [sumT_snoc] at g3
          rw [List.length_cons] at k3
          exact ⟨g1, by omega, by omega⟩
        · rw [pField_no r acc its t r1 _ ht h0 (fun u e => hd ⟨u, e⟩)] at h
          cases h
theorem firstE_all (l : List Tm) (h : ∀ t ∈ l, tErr t = 0) : firstE l = 0 := by
  induction l with
  | nil => rfl
  | cons t l ih => rw [firstE, if_pos (h t (by simp))]; exact ih fun x hx => h x (by simp [hx])
theorem chk_of (l : List (List Tm)) (h1 : sumT l ≤ 64) (h2 : ∀ g ∈ l, g ≠ [] ∧ ∀ t ∈ g, tErr t = 0) : chkS l = 0 := by
  unfold chkS
  rw [if_neg (by omega), if_neg, firstE_all]
  · intro t ht
    obtain ⟨g, hg, ht⟩ := List.mem_flatten.1 ht
    exact (h2 g hg).2 t ht
  · intro e
    obtain ⟨g, hg, he⟩ := List.any_eq_true.1 e
    exact (h2 g hg).1 (List.isEmpty_iff.1 he)
/-- What is read is right, and its architectures are no longer than the text. -/
theorem read_right (s : List UInt8) (h : (parseS s).2.2 = 0) : chkS (parseS s).1 = 0 ∧ fw (parseS s).1 ≤ s.length ∧ (parseS s).2.1 = 0 := by
  unfold parseS at h ⊢
  cases hp : pAll s with
  | bad b => rw [hp] at h; cases h
  | ok l q its =>
    rw [hp] at h
    simp only at h ⊢
    by_cases hc : (nt0.all its).code = 0
    · rw [if_pos hc] at h ⊢
      obtain ⟨k1, k2⟩ := code_ok its nt0 (Nat.zero_le _) hc
      unfold pAll at hp
      split at hp
      · injection hp with e1 _ _
        subst e1
        exact ⟨rfl, Nat.zero_le _, rfl⟩
      · obtain ⟨g1, g2, g3⟩ := pField_right _ _ _ nt0 _ _ _ hp k1 (fun _ h => by cases h)
        have := skipB_len s
        have z1 : fw [] = 0 := rfl
        have g3 : (nt0.all its).terms + 0 = 0 + sumT l := g3
        exact ⟨chk_of l (by omega) g1, by show fw l ≤ s.length; omega, rfl⟩
    · rw [if_neg hc] at h
      exact absurd h hc
theorem pRel_bad (r : List UInt8) : ∀ b, pRel r = .bad b → b.length ≤ r.length := by
  intro b h
  have h1 := skipB_len r
  have h2 := pOp_len (skipB r)
  unfold pRel at h
  split at h
  · injection h with e; rw [← e]; omega
  · have h3 := skipB_len (pOp (skipB r)).2
    unfold pRel2 at h
    split at h
    · injection h with e; rw [← e]; omega
    · split at h
      · cases h
      · injection h with e
        rw [← e]
        have h4 := skipB_len (behind vEnds (skipB (pOp (skipB r)).2))
        have h5 := behind_len vEnds (skipB (pOp (skipB r)).2)
        omega
theorem pArchs_bad (r : List UInt8) (acc : List (List UInt8)) (its : List It) : ∀ b, pArchs r acc its = .bad b → b.length ≤ r.length := by
  induction hn : r.length using Nat.strongRecOn generalizing r acc its with
  | ind n ih =>
    intro b h
    rw [pArchs] at h
    have h3 := notP_len r
    have h4 := skipB_len (behind wEnds (notP r).2)
    have h5 := behind_len wEnds (notP r).2
    split at h
    · injection h with e; rw [← e]; omega
    · rename_i hne
      have h6 := upTo_pos _ _ hne
      split at h
      · cases h
      · split at h
        · injection h with e; rw [← e]; omega
        · have := ih _ (by omega) _ _ _ rfl b h
          omega
theorem pTerm_badl (r : List UInt8) : ∀ b, pTerm r = .bad b → b.length ≤ r.length := by
  intro b h
  unfold pTerm at h
  split at h
  · injection h with e; rw [← e]; exact Nat.le_refl _
  · rename_i hne
    have h0 := upTo_pos nEnds r hne
    unfold pTerm1 at h
    split at h
    · rename_i b1 e1
      injection h with e
      subst e
      unfold pQual at e1
      split at e1
      · rename_i t ht
        rw [ht, List.length_cons] at h0
        split at e1
        · injection e1 with e; rw [← e]; omega
        · cases e1
      · cases e1
    · rename_i q1 r1 i1 e1
      have h1 := pQual_len _ _ _ _ e1
      have h1' := skipB_len r1
      unfold pTerm2 at h
      split at h
      · rename_i b1 e2
        injection h with e
        subst e
        unfold pRelQ at e2
        split at e2
        · rename_i t ht
          have := pRel_bad _ _ e2
          rw [ht, List.length_cons] at h1'
          omega
        · cases e2
      · rename_i ov r2 i2 e2
        have h2 := pRelQ_len _ _ _ _ e2
        unfold pTerm3 at h
        split at h
        · rename_i b1 e3
          injection h with e
          subst e
          unfold pArchQ at e3
          split at e3
          · rename_i t
            have := pArchs_bad _ _ _ _ e3
            have := skipB_len t
            rw [List.length_cons] at h2
            omega
          · cases e3
        · cases h
theorem pGroup_badl (r : List UInt8) (acc : List Tm) (its : List It) : ∀ b, pGroup r acc its = .bad b → b.length ≤ r.length := by
  induction hn : r.length using Nat.strongRecOn generalizing r acc its with
  | ind n ih =>
    intro b h
    cases ht : pTerm r with
    | bad b' =>
      rw [pGroup_bad r acc its b' ht] at h
      injection h with e
      rw [← e, ← hn]
      exact pTerm_badl _ _ ht
    | ok t r1 i1 =>
      have h1 := pTerm_len _ _ _ _ ht
      by_cases hd : ∃ u, r1 = 124 :: u
      · obtain ⟨u, rfl⟩ := hd
        rw [pGroup_next r acc its t u i1 ht] at h
        have h2 := skipB_len u
        rw [List.length_cons] at h1
        have := ih _ (by omega) _ _ _ rfl b h
        omega
      · rw [pGroup_end r acc its t r1 i1 ht (fun u e => hd ⟨u, e⟩)] at h
        cases h
theorem pField_badl (r : List UInt8) (acc : List (List Tm)) (its : List It) : ∀ b, pField r acc its = .bad b → b.length ≤ r.length := by
  induction hn : r.length using Nat.strongRecOn generalizing r acc its with
  | ind n ih =>
    intro b h
    cases ht : pGroup r [] [] with
    | bad b' =>
      rw [pField_bad r acc its b' ht] at h
      injection h with e
      rw [← e, ← hn]
      exact pGroup_badl _ _ _ _ ht
    | ok t r1 i1 =>
      have h1 := pGroup_len _ _ _ _ _ _ ht
      by_cases h0 : r1 = []
      · subst h0
        rw [pField_end r acc its t _ ht] at h
        cases h
      · by_cases hd : ∃ u, r1 = 44 :: u
        · obtain ⟨u, rfl⟩ := hd
          rw [pField_next r acc its t u _ ht] at h
          have h2 := skipB_len u
          rw [List.length_cons] at h1
          have := ih _ (by omega) _ _ _ rfl b h
          omega
        · rw [pField_no r acc its t r1 _ ht h0 (fun u e => hd ⟨u, e⟩)] at h
          injection h with e
          rw [← e]
          omega
theorem note_rest (its : List It) : ∀ n : Nt, n.code = 0 → (n.all its).code ≠ 0 → ∃ it ∈ its, (n.all its).rest = it.rest := by
  induction its with
  | nil => intro n h h'; exact absurd h h'
  | cons it its ih =>
    intro n h h'
    have h' : ((n.step it).all its).code ≠ 0 := h'
    show ∃ x ∈ it :: its, ((n.step it).all its).rest = x.rest
    cases Int.decEq (n.step it).code 0 with
    | isTrue e =>
      obtain ⟨x, hx, hr⟩ := ih _ e h'
      exact ⟨x, by simp [hx], hr⟩
    | isFalse e =>
      refine ⟨it, by simp, ?_⟩
      rw [(all_stuck _ its e).2]
      have key : ∀ (m : Nt) (c : Int), m.code = 0 → (m.note it.rest c).code ≠ 0 → (m.note it.rest c).rest = it.rest := by
        intro m c hm hc
        unfold Nt.note at hc ⊢
        by_cases hx : m.code = 0 ∧ c ≠ 0
        · rw [if_pos hx]
        · rw [if_neg hx] at hc; exact absurd hm hc
      unfold Nt.step at e ⊢
      by_cases hk : it.kind = 0
      · rw [if_pos hk] at e ⊢
        exact key _ _ h e
      · rw [if_neg hk] at e ⊢
        exact key _ _ h e
/-- Where a field is wrong lies in it; then there are no groups. -/
theorem read_wrong (s : List UInt8) (h : (parseS s).2.2 ≠ 0) : (parseS s).1 = [] ∧ 0 ≤ (parseS s).2.1 ∧ (parseS s).2.1 ≤ s.length := by
  unfold parseS at h ⊢
  cases hp : pAll s with
  | bad b =>
    have hb : b.length ≤ s.length := by
      unfold pAll at hp
      split at hp
      · cases hp
      · have := pField_badl _ _ _ _ hp
        have := skipB_len s
        omega
    show ([] : List (List Tm)) = [] ∧ 0 ≤ (s.length : Int) - b.length ∧ (s.length : Int) - b.length ≤ s.length
    exact ⟨rfl, by omega, by omega⟩
  | ok l q its =>
    rw [hp] at h
    simp only at h ⊢
    have hsp := pAll_span _ _ _ _ hp
    by_cases hc : (nt0.all its).code = 0
    · rw [if_pos hc] at h
      exact absurd rfl h
    · rw [if_neg hc]
      obtain ⟨it, hit, hr⟩ := note_rest its nt0 rfl hc
      have := (hsp.1 it hit).2
      have hx : wAt s (nt0.all its) = (s.length : Int) - it.rest.length := by rw [wAt, if_neg hc, hr]
      show ([] : List (List Tm)) = [] ∧ 0 ≤ wAt s (nt0.all its) ∧ wAt s (nt0.all its) ≤ s.length
      rw [hx]
      exact ⟨rfl, by omega, by omega⟩
theorem join_wt (l : List (List UInt8)) : (Lib.join l [32]).length ≤ wt l := by
  induction l with
  | nil => simp [Lib.join, wt]
  | cons a l ih =>
    cases l with
    | nil => rw [join_one]; simp [wt]
    | cons b l =>
      rw [join_cons]
      have : wt (a :: b :: l) = a.length + 1 + wt (b :: l) := by simp [wt]
      rw [this]
      simp only [List.length_append, List.length_cons, List.length_nil]
      omega
theorem wt_len (l : List (List UInt8)) : l.length ≤ wt l := by
  induction l with
  | nil => simp
  | cons a l ih => have : wt (a :: l) = a.length + 1 + wt l := by simp [wt]
                   rw [this, List.length_cons]; omega
theorem termT_short (t : Tm) (h : tErr t = 0) : (termT t).length ≤ 170 + wt t.archs := by
  obtain ⟨hN, hQ, _, o1, o2, v0, v1⟩ := tErr_parts t h
  have n3 := (name_free _ hN).2.2
  have h1 : (qualT t.qual).length ≤ 33 := by
    unfold qualT
    split
    · simp
    · rename_i hq
      have := (word_free _ (hQ.resolve_left hq)).2.2
      simp; omega
  have h2 : (relT t.op t.ver).length ≤ 70 := by
    unfold relT
    split
    · simp
    · rename_i h0
      have := (ver_free _ (v1 h0)).2.2
      have : (signsL.getD t.op.toNat []).length ≤ 2 := by
        obtain h | h | h | h | h | h : t.op.toNat = 0 ∨ t.op.toNat = 1 ∨ t.op.toNat = 2 ∨ t.op.toNat = 3 ∨ t.op.toNat = 4 ∨ t.op.toNat = 5 := by omega
        all_goals rw [h]; decide
      simp only [List.length_append, List.length_cons, List.length_nil]
      omega
  have h3 : (archT t.archs).length ≤ 3 + wt t.archs := by
    unfold archT
    split
    · simp
    · have := join_wt t.archs
      simp only [List.length_append, List.length_cons, List.length_nil]; omega
  simp only [termT, List.length_append]
  omega
theorem groupT_short (g : List Tm) (h : ∀ t ∈ g, tErr t = 0) : (groupT g).length ≤ 173 * g.length + gw g := by
  induction g with
  | nil => simp [groupT, Lib.join]
  | cons t g ih =>
    have h1 := termT_short t (h t (by simp))
    have h2 := ih fun x hx => h x (by simp [hx])
    have h3 : gw (t :: g) = wt t.archs + gw g := by simp [gw]
    rw [h3, List.length_cons]
    cases g with
    | nil => rw [groupT, List.map_cons, List.map_nil, join_one]; omega
    | cons t2 g =>
      rw [groupT, List.map_cons, List.map_cons, join_cons]
      have h4 : (Lib.join (termT t2 :: g.map termT) [32, 124, 32]).length ≤ 173 * (t2 :: g).length + gw (t2 :: g) := h2
      simp only [List.length_append, List.length_cons, List.length_nil] at h4 ⊢
      omega
theorem fieldT_short (l : List (List Tm)) (h : ∀ g ∈ l, g ≠ [] ∧ ∀ t ∈ g, tErr t = 0) : (fieldT l).length ≤ 175 * sumT l + fw l := by
  induction l with
  | nil => simp [fieldT, Lib.join]
  | cons g l ih =>
    have h1 := groupT_short g (h g (by simp)).2
    have h2 := ih fun x hx => h x (by simp [hx])
    have h3 : fw (g :: l) = gw g + fw l := by simp [fw]
    have h4 : sumT (g :: l) = g.length + sumT l := by simp [sumT]
    have h5 : 0 < g.length := List.length_pos_iff.2 (h g (by simp)).1
    rw [h3, h4]
    cases l with
    | nil => rw [fieldT, List.map_cons, List.map_nil, join_one]; omega
    | cons g2 l =>
      rw [fieldT, List.map_cons, List.map_cons, join_cons]
      have h4 : (Lib.join (groupT g2 :: l.map groupT) [44, 32]).length ≤ 175 * sumT (g2 :: l) + fw (g2 :: l) := h2
      simp only [List.length_append, List.length_cons, List.length_nil] at h4 ⊢
      omega
theorem gw_mem (g : List Tm) (t : Tm) (h : t ∈ g) : wt t.archs ≤ gw g := by
  induction g with
  | nil => cases h
  | cons a g ih =>
    have h3 : gw (a :: g) = wt a.archs + gw g := by simp [gw]
    rw [h3]
    rcases List.mem_cons.1 h with rfl | h
    · omega
    · have := ih h; omega
theorem fw_mem (l : List (List Tm)) (g : List Tm) (h : g ∈ l) : gw g ≤ fw l := by
  induction l with
  | nil => cases h
  | cons a l ih =>
    have h3 : fw (a :: l) = gw a + fw l := by simp [fw]
    rw [h3]
    rcases List.mem_cons.1 h with rfl | h
    · omega
    · have := ih h; omega
theorem right_fs (l : List (List Tm)) (h : chkS l = 0) (hw : fw l ≤ 900000) : FS l ∧ (fieldT l).length ≤ 11200 + fw l := by
  obtain ⟨h1, h2, h3⟩ := chk_ok l h
  have hl := sumT_len l h2
  have hs := fieldT_short l (fun g hg => ⟨h2 g hg, h3 g hg⟩)
  refine ⟨⟨by omega, fun g hg => ⟨by have := sumT_mem l g hg; omega, fun t ht => ?_⟩⟩, by omega⟩
  obtain ⟨hN, hQ, hA, o1, o2, v0, v1⟩ := tErr_parts t (h3 g hg t ht)
  have w1 := gw_mem g t ht
  have w2 := fw_mem l g hg
  have w3 := wt_len t.archs
  have w4 := join_wt t.archs
  refine ⟨⟨by have := (name_free _ hN).2.2; omega, ?_, ?_, by omega, fun a ha => ?_⟩, by omega⟩
  · by_cases h0 : t.op = 0
    · rw [v0 h0]; simp
    · have := (ver_free _ (v1 h0)).2.2; omega
  · rcases hQ with e | e
    · rw [e]; simp
    · have := (word_free _ e).2.2; omega
  · have := (word_free _ (hA a ha)).2.2
    have : a.length ≤ (bareW a).length + 1 := by unfold bareW; split <;> simp
    omega
theorem light_fw (l : List (List Tm)) (h : lightB l = true) (h0 : sumT l ≤ 64) : fw l ≤ 385280 := by
  have key : ∀ l : List (List Tm), (∀ g ∈ l, ∀ t ∈ g, wt t.archs ≤ 6020) → fw l ≤ 6020 * sumT l := by
    intro l
    induction l with
    | nil => intro _; simp [fw]
    | cons g l ih =>
      intro h
      have h1 := ih fun x hx => h x (by simp [hx])
      have h2 : gw g ≤ 6020 * g.length := by
        have hg := h g (by simp)
        clear h h1 ih
        induction g with
        | nil => simp [gw]
        | cons t g ih =>
          have := ih fun x hx => hg x (by simp [hx])
          have h3 : gw (t :: g) = wt t.archs + gw g := by simp [gw]
          have := hg t (by simp)
          rw [h3, List.length_cons]; omega
      have h3 : fw (g :: l) = gw g + fw l := by simp [fw]
      have h4 : sumT (g :: l) = g.length + sumT l := by simp [sumT]
      rw [h3, h4]; omega
  have := key l (fun g hg t ht => by
    simp only [lightB, Bool.and_eq_true, List.all_eq_true] at h
    have h1 := h.2 g hg
    simp only [lightG, Bool.and_eq_true, List.all_eq_true] at h1
    have h2 := h1.2 t ht
    simp only [lightT, Bool.and_eq_true, List.all_eq_true, Bool.not_eq_true', decide_eq_false_iff_not] at h2
    obtain ⟨_, _, _, h3, h4⟩ := h2
    have key2 : ∀ l : List (List UInt8), (∀ a ∈ l, a.length ≤ 300) → wt l ≤ 301 * l.length := by
      intro l
      induction l with
      | nil => intro _; simp [wt]
      | cons a l ih =>
        intro h
        have := ih fun x hx => h x (by simp [hx])
        have h5 : wt (a :: l) = a.length + 1 + wt l := by simp [wt]
        have := h a (by simp)
        rw [h5, List.length_cons]; omega
    have := key2 t.archs (fun a ha => by have := h4 a ha; simp [lightA] at this; exact this)
    omega)
  omega
end Go.Proofs.YtdnncbhbajciaaaDoor

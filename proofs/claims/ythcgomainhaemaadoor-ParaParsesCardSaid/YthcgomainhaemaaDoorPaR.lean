/- How large what is read is, and its text: plain. -/
import Derived.Test.YthcgomainhaemaaDoorPaQ
import Derived.Test.YthcgomainhaemaaDoorPaO
namespace Go.Proofs.YthcgomainhaemaaDoor
open Go.RowKit
def wF (f : Fd) : Nat := f.1.length + 2 * f.2.length + 4
def wG : List Fd → Nat
  | [] => 1
  | f :: t => wF f + wG t
def wP : List (List Fd) → Nat
  | [] => 0
  | p :: t => wG p + wP t
theorem wG_app (p q : List Fd) : wG (p ++ q) + 1 = wG p + wG q := by
  induction p with
  | nil => simp [wG]; omega
  | cons f t ih => simp only [List.cons_append, wG]; omega
theorem wP_app (p q : List (List Fd)) : wP (p ++ q) = wP p + wP q := by
  induction p with
  | nil => simp [wP]
  | cons f t ih => simp only [List.cons_append, wP]; omega
theorem wG_mem (p : List Fd) (f : Fd) (h : f ∈ p) : wF f ≤ wG p := by
  induction p with
  | nil => cases h
  | cons g t ih =>
    rcases List.mem_cons.1 h with rfl | h
    · simp [wG]
    · have := ih h; simp only [wG]; omega
theorem wP_mem (l : List (List Fd)) (p : List Fd) (h : p ∈ l) : wG p ≤ wP l := by
  induction l with
  | nil => cases h
  | cons g t ih =>
    rcases List.mem_cons.1 h with rfl | h
    · simp [wP]
    · have := ih h; simp only [wP]; omega
theorem wG_len (p : List Fd) : p.length + 1 ≤ wG p := by
  induction p with
  | nil => simp [wG]
  | cons g t ih => simp only [wG, wF, List.length_cons]; omega
theorem wP_len (l : List (List Fd)) : l.length ≤ wP l := by
  induction l with
  | nil => simp [wP]
  | cons g t ih => have := wG_len g; simp only [wP, List.length_cons]; omega
theorem gapT_len (v : List UInt8) : (gapT v).length ≤ 1 := by
  cases v with
  | nil => simp [gapT]
  | cons c t => rw [gapT]; split <;> simp
theorem pgT_len (p : List Fd) : (pgT p).length + 1 ≤ wG p := by
  induction p with
  | nil => simp [pgT, wG]
  | cons f t ih =>
    have h1 := nlT_len f.2
    have h2 := gapT_len f.2
    have e : pgT (f :: t) = fdT f ++ pgT t := by simp [pgT]
    rw [e, List.length_append, wG, wF, fdT]
    simp only [List.length_append, List.length_cons, List.length_nil]
    omega
theorem parasT_len (l : List (List Fd)) : (parasT l).length ≤ wP l := by
  induction l with
  | nil => simp [parasT, Lib.join_nil]
  | cons p t ih =>
    have h1 := pgT_len p
    have e : (parasT (p :: t)).length ≤ (pgT p).length + 1 + (parasT t).length := by
      rw [parasT, parasT, List.map_cons, Lib.join_cons]
      cases t with
      | nil => simp [Lib.joinTail]; omega
      | cons q r =>
        rw [List.map_cons, Lib.join_cons]
        simp [Lib.joinTail]
        omega
    rw [wP]
    omega
theorem ps_of (l : List (List Fd)) (h : wP l ≤ 1000000) : PS l ∧ (parasT l).length ≤ 1000000 := by
  refine ⟨⟨by have := wP_len l; omega, fun p hp => ?_⟩, by have := parasT_len l; omega⟩
  have h1 := wP_mem l p hp
  refine ⟨by have := wG_len p; omega, fun f hf => ?_⟩
  have h2 := wG_mem p f hf
  unfold wF at h2
  omega
def mS (s : PSt) : Nat := wP s.all + wG s.cur
theorem endP_w (s : PSt) : wP (endP s) ≤ mS s := by
  unfold endP mS
  split
  · omega
  · rw [wP_app]; simp [wP]
theorem line_w (s : PSt) (l : List UInt8) (h0 : (lineP s l).2 = 0) : mS (lineP s l).1 ≤ mS s + 6 * (l.length + 1) := by
  rw [line_is] at h0 ⊢
  split
  · rename_i h; rw [if_pos h] at h0; cases h0
  · rename_i hc
    rw [if_neg hc] at h0
    split
    · have := endP_w s
      show wP (endP s) + wG [] ≤ _
      simp only [wG]
      omega
    · rename_i hb
      rw [if_neg hb] at h0
      split
      · rename_i hh
        rw [if_pos hh] at h0
        split
        · rename_i h; rw [if_pos h] at h0; cases h0
        · rename_i hcu
          obtain ⟨ini, f, hf⟩ : ∃ ini f, s.cur = ini ++ [f] := ⟨s.cur.dropLast, s.cur.getLast hcu, (List.dropLast_concat_getLast hcu).symm⟩
          have hadd : addL s.cur l.tail = ini ++ [(f.1, f.2 ++ 10 :: l.tail)] := by simp [hf, addL]
          show wP s.all + wG (addL s.cur l.tail) ≤ wP s.all + wG s.cur + _
          rw [hadd, hf]
          have e1 := wG_app ini [(f.1, f.2 ++ 10 :: l.tail)]
          have e2 := wG_app ini [f]
          simp only [wG, wF, List.length_append, List.length_cons, List.length_tail] at e1 e2
          omega
      · rename_i hh
        rw [if_neg hh] at h0
        rw [fieldP] at h0 ⊢
        split
        · rename_i h1
          rw [if_pos h1] at h0
          split
          · rename_i h2
            rw [if_pos h2] at h0
            split
            · rename_i h3; rw [if_pos h3] at h0; cases h0
            · rename_i h3
              rw [if_neg h3] at h0
              split
              · rename_i h4; rw [if_pos h4] at h0; cases h0
              · show wP s.all + wG (s.cur ++ [_]) ≤ wP s.all + wG s.cur + _
                have e1 := wG_app s.cur [(trimR (preC58 l), bareL (l.drop ((preC58 l).length + 1)))]
                have t1 := trimR_len (preC58 l)
                have t2 : (preC58 l).length ≤ l.length := (List.takeWhile_prefix _).length_le
                have t3 := bareL_len (l.drop ((preC58 l).length + 1))
                rw [List.length_drop] at t3
                simp only [wG, wF] at e1
                omega
          · rename_i h2; rw [if_neg h2] at h0; cases h0
        · rename_i h1; rw [if_neg h1] at h0; cases h0
theorem go_w : ∀ (n : Nat) (r : List UInt8), r.length ≤ n → ∀ (a : Int) (s : PSt), wP (goP r a s).1 ≤ mS s + (if r = [] then 0 else 6 * (r.length + 1)) := by
  intro n
  induction n with
  | zero =>
    intro r hr a s
    obtain rfl : r = [] := List.eq_nil_of_length_eq_zero (by omega)
    rw [goP_nil]
    exact endP_w s
  | succ n ih =>
    intro r hr a s
    by_cases h0 : r = []
    · subst h0
      rw [goP_nil]
      exact endP_w s
    · have hpos : 0 < r.length := List.length_pos_iff.2 h0
      rw [if_neg h0]
      by_cases h1 : (lineP s (lineOf r)).2 = 0
      · rw [goP_next r a s h0 h1]
        have hlen : (r.drop ((lineOf r).length + 1)).length = r.length - ((lineOf r).length + 1) := List.length_drop
        have h2 := ih (r.drop ((lineOf r).length + 1)) (by omega) (a + (lineOf r).length + 1) (lineP s (lineOf r)).1
        have h3 := line_w s (lineOf r) h1
        have h4 := lineOf_len r
        split at h2
        · omega
        · rename_i hne
          have : 0 < (r.drop ((lineOf r).length + 1)).length := List.length_pos_iff.2 hne
          omega
      · rw [goP_bad r a s h0 h1]
        simp [wP]
theorem parse_w (s : List UInt8) : wP (parseP s).1 ≤ 6 * (s.length + 1) + 1 := by
  have := go_w s.length s (Nat.le_refl _) 0 ⟨[], []⟩
  unfold parseP
  have e : mS ⟨[], []⟩ = 1 := rfl
  rw [e] at this
  split at this <;> omega
theorem light_w (l : List (List Fd)) (h : lightP l = true) : PS l ∧ (parasT l).length ≤ 1000000 := by
  have hF : ∀ (p : List Fd) (n m : Nat), ltF n p = some m → m ≤ n ∨ m ≤ 20000 := by
    intro p
    induction p with
    | nil => intro n m e; simp [ltF] at e; omega
    | cons f t ih =>
      intro n m e
      rw [ltF] at e
      split at e
      · cases e
      · rename_i hf
        simp [fdL] at hf
        have := ih _ _ e
        omega
  have hG : ∀ (p : List Fd) (n m : Nat), ltF n p = some m → wG p + 2 * n ≤ 2 * m + 4 * p.length + 1 := by
    intro p
    induction p with
    | nil => intro n m e; simp [ltF] at e; simp [wG]; omega
    | cons f t ih =>
      intro n m e
      rw [ltF] at e
      split at e
      · cases e
      · have := ih _ _ e
        simp only [wG, wF, List.length_cons]
        omega
  have hP : ∀ (l : List (List Fd)) (n : Nat), n ≤ 20000 → ltG n l = true → wP l + 2 * n ≤ 40000 + 241 * l.length := by
    intro l
    induction l with
    | nil => intro n hn _; simp [wP]; omega
    | cons p t ih =>
      intro n hn e
      rw [ltG] at e
      split at e
      · cases e
      · rename_i hp
        cases hm : ltF n p with
        | none => rw [hm] at e; cases e
        | some m =>
          rw [hm] at e
          have h1 := hG p n m hm
          have h2 := hF p n m hm
          have h3 := ih m (by omega) e
          simp only [wP, List.length_cons]
          omega
  unfold lightP at h
  split at h
  · cases h
  · exact ps_of l (by have := hP l 0 (by omega) h; omega)
end Go.Proofs.YthcgomainhaemaaDoor

/- What is read is right, and not too large: plain. -/
import Derived.Test.YthcgomainhaemaaDoorPaP
namespace Go.Proofs.YthcgomainhaemaaDoor
open Go.RowKit
theorem pgErr_snoc (p : List Fd) (f : Fd) : ∀ ns, pgErr ns (p ++ [f]) = 0 ↔ pgErr ns p = 0 ∧ fdErr (ns ++ p.map (·.1)) f = 0 := by
  induction p with
  | nil =>
    intro ns
    simp only [List.nil_append, List.map_nil, List.append_nil, pgErr, true_and]
    constructor
    · intro h
      by_cases hf : fdErr ns f = 0
      · exact hf
      · rw [if_neg hf] at h; exact h
    · intro h; rw [if_pos h]
  | cons g t ih =>
    intro ns
    rw [List.cons_append, pgErr, pgErr]
    by_cases hg : fdErr ns g = 0
    · rw [if_pos hg, if_pos hg, ih]; simp
    · rw [if_neg hg, if_neg hg]
      constructor
      · intro h; exact absurd h hg
      · intro h; exact absurd h.1 hg
theorem fdErr_ok (ns : List (List UInt8)) (f : Fd) : fdErr ns f = 0 ↔ nmOk f.1 = true ∧ valOk f.2 = true ∧ ns.contains f.1 = false := by
  unfold fdErr
  by_cases h1 : nmOk f.1 = true
  · by_cases h2 : valOk f.2 = true
    · rw [if_pos h1, if_pos h2]
      cases h3 : ns.contains f.1 with
      | true => simp
      | false => simp [h1, h2]
    · rw [if_pos h1, if_neg h2]; simp [h2]
  · rw [if_neg h1]; simp [h1]
theorem splitP_no (y : List UInt8) (h : no10 y) : ∀ a, splitP 10 y a = [a ++ y] := by
  induction y with
  | nil => intro a; simp [splitP]
  | cons c t ih =>
    intro a
    rw [splitP, if_neg (h c (by simp)), ih fun x hx => h x (by simp [hx])]
    simp
theorem splitP_add (y : List UInt8) (h : no10 y) (x : List UInt8) : ∀ a, splitP 10 (x ++ 10 :: y) a = splitP 10 x a ++ [y] := by
  induction x with
  | nil => intro a; simp [splitP, splitP_no y h]
  | cons c t ih =>
    intro a
    rw [List.cons_append, splitP, splitP]
    split
    · rw [ih]; rfl
    · rw [ih]
theorem splitP_ne (x : List UInt8) : ∀ a, splitP 10 x a ≠ [] := by
  induction x with
  | nil => intro a; simp [splitP]
  | cons c t ih => intro a; rw [splitP]; split <;> simp [ih]
theorem linesOk_add (L : List (List UInt8)) (y : List UInt8) (h : L ≠ []) (k : linesOk L = true) (hb : blankL y = false) : linesOk (L ++ [y]) = true := by
  cases L with
  | nil => exact absurd rfl h
  | cons a t =>
    simp only [linesOk, Bool.and_eq_true] at k
    rw [List.cons_append, linesOk, List.all_append, k.1, k.2]
    simp [hb]
theorem valOk_add (x y : List UInt8) (h : valOk x = true) (h1 : no10 y) (h2 : ctlB y = false) (h3 : blankL y = false) : valOk (x ++ 10 :: y) = true := by
  simp only [valOk, Bool.and_eq_true, Bool.not_eq_true'] at h ⊢
  refine ⟨?_, ?_⟩
  · have : ctlB (10 :: y) = ctlB y := by simp [ctlB]
    rw [ctl_app, h.1, this, h2]; rfl
  · rw [splitB, splitP_add y h1]
    exact linesOk_add _ _ (splitP_ne _ _) h.2 h3
theorem no10_in (v : List UInt8) (h : no10 v) : inB v 10 = false := by
  cases hi : inB v 10 with
  | false => rfl
  | true =>
    obtain ⟨_, c2, _⟩ := cut_parts v
    rw [hi] at c2
    exact absurd rfl (h 10 (by rw [c2]; simp))
theorem valOk_one (v : List UInt8) (h1 : no10 v) (h2 : ctlB v = false) (h3 : bareB v = true) : valOk v = true := by
  have hi := no10_in v h1
  have hA : cutA v 10 = v := by rw [cutA, if_neg (by rw [hi]; simp)]
  rw [valOk_cut, h2, hi, hA, h3]
  rfl
theorem trimL_no32 (l : List UInt8) : (trimL l).head? ≠ some 32 := by
  induction l with
  | nil => simp [trimL]
  | cons c t ih =>
    by_cases hc : c = 32
    · have : trimL (c :: t) = trimL t := by simp [trimL, List.dropWhile, blk, hc]
      rw [this]; exact ih
    · have : trimL (c :: t) = c :: t := by simp [trimL, List.dropWhile, blk, hc]
      rw [this]; simp [hc]
theorem trimR_no32 (l : List UInt8) : (trimR l).getLast? ≠ some 32 := by
  rw [trimR, List.getLast?_reverse]
  exact trimL_no32 l.reverse
theorem bareB_bare (l : List UInt8) : bareB (bareL l) = true := by
  have h1 : (bareL l).getLast? ≠ some 32 := trimR_no32 (trimL l)
  have h2 : (bareL l).head? ≠ some 32 := by rw [← bare_comm]; exact trimL_no32 (trimR l)
  simp [bareB, h1, h2]
theorem mem_trimL (l : List UInt8) (c : UInt8) (h : c ∈ trimL l) : c ∈ l := (List.dropWhile_sublist blk).subset h
theorem mem_bare (l : List UInt8) (c : UInt8) (h : c ∈ bareL l) : c ∈ l := by
  have := mem_trimL _ _ (List.mem_reverse.1 h)
  exact mem_trimL _ _ (List.mem_reverse.1 this)
theorem ctl_sub (a b : List UInt8) (h : ∀ c ∈ a, c ∈ b) (hb : ctlB b = false) : ctlB a = false := by
  rw [ctlB, List.any_eq_false] at hb ⊢
  exact fun x hx => hb x (h x hx)
def GoodP (p : List Fd) : Prop := p ≠ [] ∧ pgErr [] p = 0
/-- What has been read is right. -/
structure SRt (s : PSt) : Prop where
  all : ∀ p ∈ s.all, GoodP p
  cur : pgErr [] s.cur = 0
  len : s.all.length ≤ 4096
  len2 : s.cur ≠ [] → s.all.length + 1 ≤ 4096
theorem endP_good (s : PSt) (h : SRt s) : (∀ p ∈ endP s, GoodP p) ∧ (endP s).length ≤ 4096 := by
  unfold endP
  split
  · exact ⟨h.all, h.len⟩
  · rename_i hc
    refine ⟨fun p hp => ?_, by have := h.len2 hc; simp; omega⟩
    rcases List.mem_append.1 hp with hp | hp
    · exact h.all p hp
    · simp at hp; subst hp; exact ⟨hc, h.cur⟩
theorem line_right (s : PSt) (l : List UInt8) (h : SRt s) (hn : no10 l) (h0 : (lineP s l).2 = 0) : SRt (lineP s l).1 := by
  rw [line_is] at h0 ⊢
  by_cases hc : ctlB l = true
  · rw [if_pos hc] at h0; cases h0
  · rw [if_neg hc] at h0 ⊢
    have hcf : ctlB l = false := by simpa using hc
    by_cases hb : blankL l = true
    · rw [if_pos hb]
      obtain ⟨e1, e2⟩ := endP_good s h
      exact ⟨e1, rfl, e2, fun h => absurd rfl h⟩
    · rw [if_neg hb] at h0 ⊢
      by_cases hh : l.head? = some 32
      · rw [if_pos hh] at h0 ⊢
        by_cases hcu : s.cur = []
        · rw [if_pos hcu] at h0; cases h0
        · rw [if_neg hcu]
          obtain ⟨y, rfl⟩ : ∃ y, l = 32 :: y := by
            cases l with
            | nil => cases hh
            | cons c t => simp at hh; subst hh; exact ⟨t, rfl⟩
          obtain ⟨ini, f, hf⟩ : ∃ ini f, s.cur = ini ++ [f] := ⟨s.cur.dropLast, s.cur.getLast hcu, (List.dropLast_concat_getLast hcu).symm⟩
          have hcur := h.cur
          rw [hf, pgErr_snoc, fdErr_ok] at hcur
          have hadd : addL s.cur (32 :: y).tail = ini ++ [(f.1, f.2 ++ 10 :: y)] := by simp [hf, addL]
          have hby : blankL y = false := by
            rw [blankL_cons] at hb; simpa [blk] using hb
          have hcy : ctlB y = false := ctl_sub y (32 :: y) (fun c h => by simp [h]) hcf
          refine ⟨h.all, ?_, h.len, fun _ => h.len2 hcu⟩
          show pgErr [] (addL s.cur (32 :: y).tail) = 0
          rw [hadd, pgErr_snoc, fdErr_ok]
          exact ⟨hcur.1, hcur.2.1, valOk_add _ _ hcur.2.2.1 (fun c h => hn c (by simp [h])) hcy hby, hcur.2.2.2⟩
      · rw [if_neg hh] at h0 ⊢
        rw [fieldP] at h0 ⊢
        by_cases h1 : l.contains 58 = true
        · rw [if_pos h1] at h0 ⊢
          by_cases h2 : nmOk (trimR (preC58 l)) = true
          · rw [if_pos h2] at h0 ⊢
            by_cases h3 : hasName s.cur (trimR (preC58 l)) = true
            · rw [if_pos h3] at h0; cases h0
            · rw [if_neg h3] at h0 ⊢
              by_cases h4 : s.cur = [] ∧ s.all.length = 4096
              · rw [if_pos h4] at h0; cases h0
              · rw [if_neg h4]
                have hsub : ∀ c ∈ bareL (l.drop ((preC58 l).length + 1)), c ∈ l := fun c h => List.mem_of_mem_drop (mem_bare _ _ h)
                have h3f : hasName s.cur (trimR (preC58 l)) = false := by simpa using h3
                refine ⟨h.all, ?_, h.len, fun _ => ?_⟩
                · show pgErr [] (s.cur ++ [_]) = 0
                  rw [pgErr_snoc, fdErr_ok]
                  refine ⟨h.cur, h2, valOk_one _ (fun c hc => hn c (hsub c hc)) (ctl_sub _ l hsub hcf) (bareB_bare _), ?_⟩
                  rw [List.nil_append, hasName_is]; exact h3f
                · show s.all.length + 1 ≤ 4096
                  by_cases hcu : s.cur = []
                  · have := h.len
                    by_cases e : s.all.length = 4096
                    · exact absurd ⟨hcu, e⟩ h4
                    · omega
                  · exact h.len2 hcu
          · rw [if_neg h2] at h0; cases h0
        · rw [if_neg h1] at h0; cases h0
theorem lineOf_no (r : List UInt8) : no10 (lineOf r) := by
  induction r with
  | nil => intro c hc; cases hc
  | cons a t ih =>
    intro c hc
    simp only [lineOf, List.takeWhile_cons] at hc
    split at hc
    · rename_i ha
      rcases List.mem_cons.1 hc with rfl | hc
      · simpa using ha
      · exact ih c hc
    · cases hc
/-- What a text is, or where it is wrong. -/
theorem go_right : ∀ (n : Nat) (r : List UInt8), r.length ≤ n → ∀ (a : Int) (s : PSt), SRt s → ((goP r a s).2 = (0, 0) ∧ (∀ p ∈ (goP r a s).1, GoodP p) ∧ (goP r a s).1.length ≤ 4096) ∨ ((goP r a s).1 = [] ∧ a ≤ (goP r a s).2.1 ∧ (goP r a s).2.1 < a + r.length ∧ (goP r a s).2.2 ≠ 0) := by
  intro n
  induction n with
  | zero =>
    intro r hr a s h
    obtain rfl : r = [] := List.eq_nil_of_length_eq_zero (by omega)
    rw [goP_nil]
    exact .inl ⟨rfl, endP_good s h⟩
  | succ n ih =>
    intro r hr a s h
    by_cases h0 : r = []
    · subst h0
      rw [goP_nil]
      exact .inl ⟨rfl, endP_good s h⟩
    · have hpos : 0 < r.length := List.length_pos_iff.2 h0
      by_cases h1 : (lineP s (lineOf r)).2 = 0
      · rw [goP_next r a s h0 h1]
        have hlen : (r.drop ((lineOf r).length + 1)).length = r.length - ((lineOf r).length + 1) := List.length_drop
        rcases ih (r.drop ((lineOf r).length + 1)) (by omega) (a + (lineOf r).length + 1) _ (line_right s _ h (lineOf_no r) h1) with h2 | ⟨h2, h3, h4, h5⟩
        · exact .inl h2
        · have := lineOf_len r
          refine .inr ⟨h2, by omega, ?_, h5⟩
          rw [hlen] at h4
          omega
      · rw [goP_bad r a s h0 h1]
        exact .inr ⟨rfl, Int.le_refl _, by show a < a + (r.length : Int); omega, h1⟩
theorem paErr_all (l : List (List Fd)) (h : ∀ p ∈ l, GoodP p) : paErr l = 0 := by
  induction l with
  | nil => rfl
  | cons p t ih =>
    obtain ⟨h1, h2⟩ := h p (by simp)
    rw [paErr, if_neg h1, if_pos h2]
    exact ih fun q hq => h q (by simp [hq])
theorem parse_right (s : List UInt8) : ((parseP s).2 = (0, 0) ∧ chkP (parseP s).1 = 0) ∨ ((parseP s).1 = [] ∧ 0 ≤ (parseP s).2.1 ∧ (parseP s).2.1 < s.length ∧ (parseP s).2.2 ≠ 0) := by
  rcases go_right s.length s (Nat.le_refl _) 0 ⟨[], []⟩ ⟨fun p h => (by cases h), rfl, Nat.zero_le _, fun h => absurd rfl h⟩ with ⟨h1, h2, h3⟩ | ⟨h1, h2, h3, h4⟩
  · refine .inl ⟨h1, ?_⟩
    rw [chkP, if_neg (by show ¬ 4096 < (goP s 0 ⟨[], []⟩).1.length; omega)]
    exact paErr_all _ h2
  · exact .inr ⟨h1, h2, by rw [Int.zero_add] at h3; exact h3, h4⟩
end Go.Proofs.YthcgomainhaemaaDoor

/- Paragraphs that are written are read as they were: plain. -/
import Derived.Test.YthcgomainhaemaaDoorPaL
namespace Go.Proofs.YthcgomainhaemaaDoor
open Go.RowKit
def no10 (l : List UInt8) : Prop := ∀ c ∈ l, c ≠ 10
theorem no10_app {a b : List UInt8} (h : no10 a) (k : no10 b) : no10 (a ++ b) := fun c hc => by
  rcases List.mem_append.1 hc with h1 | h1
  · exact h c h1
  · exact k c h1
theorem tw_app (p : UInt8 → Bool) (ln rest : List UInt8) (c : UInt8) (h : ∀ x ∈ ln, p x = true) (hc : p c = false) : (ln ++ c :: rest).takeWhile p = ln := by
  induction ln with
  | nil => simp [List.takeWhile, hc]
  | cons a t ih =>
    have ha := h a (by simp)
    simp only [List.cons_append, List.takeWhile_cons, ha, if_true]
    rw [ih fun x hx => h x (by simp [hx])]
theorem goP_line (ln rest : List UInt8) (a : Int) (s : PSt) (hno : no10 ln) (h : (lineP s ln).2 = 0) : goP (ln ++ 10 :: rest) a s = goP rest (a + ln.length + 1) (lineP s ln).1 := by
  have hl : lineOf (ln ++ 10 :: rest) = ln := tw_app _ ln rest 10 (fun x hx => by simpa using hno x hx) (by simp)
  rw [goP_next _ _ _ (by simp) (by rw [hl]; exact h), hl]
  congr 1
  rw [List.drop_append, List.drop_eq_nil_of_le (by omega), List.nil_append]
  simp
theorem cut_parts (l : List UInt8) : no10 (cutA l 10) ∧ l = cutA l 10 ++ (if inB l 10 = true then 10 :: cutB l 10 else []) ∧ nlT l = cutA l 10 ++ (if inB l 10 = true then 10 :: 32 :: nlT (cutB l 10) else []) := by
  induction l with
  | nil => exact ⟨fun c hc => by simp [cutA] at hc, by simp [cutA, inB, Lib.indexByte], by simp [cutA, inB, Lib.indexByte, nlT]⟩
  | cons c t ih =>
    obtain ⟨h1, h2, h3⟩ := cut_cons c 10 t
    obtain ⟨i1, i2, i3⟩ := ih
    rw [h1, h2, h3]
    by_cases hc : c = 10
    · subst hc
      refine ⟨fun c hc => by simp at hc, by simp, ?_⟩
      simp [nlT]
    · simp only [if_neg hc]
      refine ⟨fun x hx => ?_, ?_, ?_⟩
      · rcases List.mem_cons.1 hx with rfl | hx
        · exact hc
        · exact i1 x hx
      · rw [List.cons_append, ← i2]
      · have : nlT (c :: t) = c :: nlT t := by simp [nlT, hc]
        rw [this, List.cons_append, ← i3]
theorem ctl_app (a b : List UInt8) : ctlB (a ++ b) = (ctlB a || ctlB b) := List.any_append ..
/-- A line that goes on with a value. -/
theorem line_more (all : List (List Fd)) (cur : List Fd) (n x y : List UInt8) (hc : ctlB y = false) (hb : blankL y = false) :
    lineP ⟨all, cur ++ [(n, x)]⟩ (32 :: y) = (⟨all, cur ++ [(n, x ++ 10 :: y)]⟩, 0) := by
  have h1 : ctlB (32 :: y) = false := by
    have : ctlB (32 :: y) = ctlB y := by simp [ctlB]
    rw [this]; exact hc
  have h2 : blankL (32 :: y) = false := by rw [blankL_cons, hb]; simp
  rw [line_is, h1, h2]
  simp [addL]
/-- A value's lines, read on. -/
theorem go_value (all : List (List Fd)) (cur : List Fd) (n rest : List UInt8) : ∀ (N : Nat) (v : List UInt8), v.length ≤ N → ∀ (pre : List UInt8) (s : PSt) (x : List UInt8) (a : Int), no10 pre → ctlB v = false →
    lineP s (pre ++ cutA v 10) = (⟨all, cur ++ [(n, x)]⟩, 0) → rV (cutB v 10) (inB v 10) = true →
    ∃ a', goP (pre ++ (nlT v ++ 10 :: rest)) a s = goP rest a' ⟨all, cur ++ [(n, x ++ (if inB v 10 = true then 10 :: cutB v 10 else []))]⟩ := by
  intro N
  induction N with
  | zero =>
    intro v hv pre s x a hp hc hl hr
    obtain rfl : v = [] := List.eq_nil_of_length_eq_zero (by omega)
    have e : cutA ([] : List UInt8) 10 = [] := by simp [cutA]
    have e2 : inB ([] : List UInt8) 10 = false := by simp [inB, Lib.indexByte]
    rw [e, List.append_nil] at hl
    refine ⟨a + pre.length + 1, ?_⟩
    rw [show nlT [] = ([] : List UInt8) from rfl, List.nil_append, goP_line pre rest a s hp (by rw [hl]), hl, e2]
    simp
  | succ N ih =>
    intro v hv pre s x a hp hc hl hr
    obtain ⟨c1, c2, c3⟩ := cut_parts v
    have hlt := (cutB_len v 10).2
    cases hi : inB v 10 with
    | false =>
      rw [hi] at c3
      simp only [Bool.false_eq_true, if_false, List.append_nil] at c3 ⊢
      refine ⟨a + (pre ++ cutA v 10).length + 1, ?_⟩
      rw [c3, ← List.append_assoc, goP_line (pre ++ cutA v 10) rest a s (no10_app hp c1) (by rw [hl]), hl]
    | true =>
      rw [hi] at c3 c2 hr
      simp only [if_true] at c3 c2 ⊢
      rw [rV_step] at hr
      simp only [Bool.and_eq_true, Bool.not_eq_true'] at hr
      have hc2 : ctlB (cutA v 10) = false ∧ ctlB (cutB v 10) = false := by
        have : ctlB v = (ctlB (cutA v 10) || ctlB (10 :: cutB v 10)) := by
          conv => lhs; rw [c2]
          exact ctl_app _ _
        rw [hc] at this
        have e : ctlB (10 :: cutB v 10) = ctlB (cutB v 10) := by simp [ctlB]
        rw [e] at this
        simpa using this.symm
      obtain ⟨d1, d2, d3⟩ := cut_parts (cutB v 10)
      have hcA : ctlB (cutA (cutB v 10) 10) = false := by
        have : ctlB (cutB v 10) = (ctlB (cutA (cutB v 10) 10) || ctlB (if inB (cutB v 10) 10 = true then 10 :: cutB (cutB v 10) 10 else [])) := by
          conv => lhs; rw [d2]
          exact ctl_app _ _
        rw [hc2.2] at this
        simp only [Bool.false_eq, Bool.or_eq_false_iff] at this
        exact this.1
      obtain ⟨a', ha⟩ := ih (cutB v 10) (by have := hlt hi; omega) [32] ⟨all, cur ++ [(n, x)]⟩ (x ++ 10 :: cutA (cutB v 10) 10) (a + (pre ++ cutA v 10).length + 1) (fun c h => by simp at h; subst h; decide) hc2.2
        (line_more all cur n x _ hcA hr.1) hr.2
      refine ⟨a', ?_⟩
      have e : pre ++ (nlT v ++ 10 :: rest) = (pre ++ cutA v 10) ++ 10 :: ([32] ++ (nlT (cutB v 10) ++ 10 :: rest)) := by
        rw [c3]; simp
      rw [e, goP_line _ _ a s (no10_app hp c1) (by rw [hl]), hl, ha, List.append_assoc, List.cons_append, ← d2]
theorem nm_chars (n : List UInt8) (h : nmOk n = true) : n ≠ [] ∧ ∀ c ∈ n, nmC c = true := by
  cases n with
  | nil => cases h
  | cons c t =>
    simp only [nmOk, Bool.and_eq_true, List.all_eq_true] at h
    refine ⟨by simp, fun x hx => ?_⟩
    rcases List.mem_cons.1 hx with rfl | hx
    · simp [nmC, h.1.2]
    · exact h.2 x hx
theorem nmC_no (c : UInt8) (h : nmC c = true) : c ≠ 0 ∧ c ≠ 13 ∧ c ≠ 10 ∧ c ≠ 32 ∧ c ≠ 58 := by
  refine ⟨?_, ?_, ?_, ?_, ?_⟩ <;> (rintro rfl; revert h; decide)
theorem blk_nmC (c : UInt8) (h : nmC c = true) : blk c = false := by
  have := (nmC_no c h).2.2.2.1
  simp [blk, this]
theorem trimR_name (n : List UInt8) (h : ∀ c ∈ n, nmC c = true) : trimR n = n := by
  induction n with
  | nil => rfl
  | cons c t ih =>
    have hb : blankL (c :: t) = false := by rw [blankL_cons, blk_nmC c (h c (by simp))]; rfl
    rw [trimR_cons, hb, if_neg (by simp), ih fun x hx => h x (by simp [hx])]
theorem trimL_head (l : List UInt8) (h : l.head? ≠ some 32) : trimL l = l := by
  cases l with
  | nil => rfl
  | cons c t =>
    have : blk c = false := by simp [blk]; intro e; exact h (by rw [e]; rfl)
    simp [trimL, List.dropWhile, this]
theorem trimR_last (l : List UInt8) (h : l.getLast? ≠ some 32) : trimR l = l := by
  have : trimL l.reverse = l.reverse := trimL_head _ (by rw [List.head?_reverse]; exact h)
  rw [trimR, show l.reverse.dropWhile blk = trimL l.reverse from rfl, this, List.reverse_reverse]
theorem bare_bare (l : List UInt8) (h : bareB l = true) : bareL l = l := by
  simp only [bareB, Bool.and_eq_true, Bool.not_eq_true', decide_eq_false_iff_not] at h
  rw [bareL, trimL_head l h.1, trimR_last l h.2]
theorem bare_gap (v : List UInt8) (h : bareB (cutA v 10) = true) : bareL (gapT v ++ cutA v 10) = cutA v 10 := by
  cases v with
  | nil => simp [gapT, cutA]; rfl
  | cons c t =>
    by_cases hc : c = 10
    · subst hc
      have : cutA (10 :: t) 10 = [] := by rw [(cut_cons 10 10 t).2.1]; rfl
      rw [this]
      rfl
    · rw [gapT, if_neg hc]
      have e : bareL ([32] ++ cutA (c :: t) 10) = bareL (cutA (c :: t) 10) := by
        rw [bareL, bareL]
        have : trimL ([32] ++ cutA (c :: t) 10) = trimL (cutA (c :: t) 10) := by simp [trimL, List.dropWhile, blk]
        rw [this]
      rw [e, bare_bare _ h]
theorem gap_plain (v : List UInt8) : no10 (gapT v) ∧ ctlB (gapT v) = false := by
  cases v with
  | nil => exact ⟨fun c h => (by cases h), rfl⟩
  | cons c t =>
    rw [gapT]
    split
    · exact ⟨fun c h => (by cases h), rfl⟩
    · exact ⟨fun c h => (by simp at h; subst h; decide), by decide⟩
/-- A line that begins a field. -/
theorem line_field (all : List (List Fd)) (cur : List Fd) (n v : List UInt8) (hn : nmOk n = true) (hc : ctlB (cutA v 10) = false) (hb : bareB (cutA v 10) = true) (hh : hasName cur n = false) (hl : cur = [] → all.length ≠ 4096) :
    lineP ⟨all, cur⟩ ((n ++ 58 :: gapT v) ++ cutA v 10) = (⟨all, cur ++ [(n, cutA v 10)]⟩, 0) := by
  obtain ⟨hne, hch⟩ := nm_chars n hn
  obtain ⟨c, t, rfl⟩ : ∃ c t, n = c :: t := by
    cases n with
    | nil => exact absurd rfl hne
    | cons c t => exact ⟨c, t, rfl⟩
  have hcc := nmC_no c (hch c (by simp))
  have hL : ((c :: t) ++ 58 :: gapT v) ++ cutA v 10 = (c :: t) ++ 58 :: (gapT v ++ cutA v 10) := by simp
  rw [hL]
  have h1 : ctlB ((c :: t) ++ 58 :: (gapT v ++ cutA v 10)) = false := by
    have e1 : ctlB (c :: t) = false := by
      rw [ctlB, List.any_eq_false]
      intro x hx
      have := nmC_no x (hch x hx)
      simp [this.1, this.2.1]
    have e2 : ctlB (58 :: (gapT v ++ cutA v 10)) = ctlB (gapT v ++ cutA v 10) := by simp [ctlB]
    rw [ctl_app, e1, e2, ctl_app, (gap_plain v).2, hc]; rfl
  have h2 : blankL ((c :: t) ++ 58 :: (gapT v ++ cutA v 10)) = false := by
    rw [List.cons_append, blankL_cons, blk_nmC c (hch c (by simp))]; rfl
  have h3 : ¬ ((c :: t) ++ 58 :: (gapT v ++ cutA v 10)).head? = some 32 := by
    simp; exact hcc.2.2.2.1
  have hp : preC58 ((c :: t) ++ 58 :: (gapT v ++ cutA v 10)) = c :: t := tw_app _ _ _ 58 (fun x hx => by simpa using (nmC_no x (hch x hx)).2.2.2.2) (by simp)
  have h4 : ((c :: t) ++ 58 :: (gapT v ++ cutA v 10)).contains 58 = true := by simp
  have h5 : ((c :: t) ++ 58 :: (gapT v ++ cutA v 10)).drop ((c :: t).length + 1) = gapT v ++ cutA v 10 := by
    rw [List.drop_append, List.drop_eq_nil_of_le (by omega), List.nil_append]; simp
  rw [line_is, h1, h2, if_neg (by simp), if_neg (by simp), if_neg h3, fieldP, if_pos h4, hp, trimR_name _ hch, if_pos hn, if_neg (by rw [hh]; simp), if_neg (by rintro ⟨e1, e2⟩; exact hl e1 e2), h5, bare_gap v hb]
/-- A field, read. -/
theorem go_field (all : List (List Fd)) (cur : List Fd) (f : Fd) (rest : List UInt8) (a : Int) (hn : nmOk f.1 = true) (hv : valOk f.2 = true) (hh : hasName cur f.1 = false) (hl : cur = [] → all.length ≠ 4096) :
    ∃ a', goP (fdT f ++ rest) a ⟨all, cur⟩ = goP rest a' ⟨all, cur ++ [f]⟩ := by
  obtain ⟨n, v⟩ := f
  simp only at hn hv hh
  rw [valOk_cut] at hv
  simp only [Bool.and_eq_true, Bool.not_eq_true'] at hv
  obtain ⟨v1, v2, v3⟩ := hv
  obtain ⟨c1, c2, c3⟩ := cut_parts v
  have hcA : ctlB (cutA v 10) = false := by
    have : ctlB v = (ctlB (cutA v 10) || ctlB (if inB v 10 = true then 10 :: cutB v 10 else [])) := by
      conv => lhs; rw [c2]
      exact ctl_app _ _
    rw [v1] at this
    simp only [Bool.false_eq, Bool.or_eq_false_iff] at this
    exact this.1
  have hno : no10 (n ++ 58 :: gapT v) := by
    refine no10_app (fun c hc => (nmC_no c ((nm_chars n hn).2 c hc)).2.2.1) fun c hc => ?_
    rcases List.mem_cons.1 hc with rfl | hc
    · decide
    · exact (gap_plain v).1 c hc
  obtain ⟨a', ha⟩ := go_value all cur n rest v.length v (Nat.le_refl _) (n ++ 58 :: gapT v) ⟨all, cur⟩ (cutA v 10) a hno v1 (line_field all cur n v hn hcA v2 hh hl) v3
  refine ⟨a', ?_⟩
  rw [← c2] at ha
  rw [← ha]
  congr 1
  simp [fdT]
theorem go_para (all : List (List Fd)) (rest : List UInt8) (p : List Fd) : ∀ (cur : List Fd) (a : Int), pgErr (cur.map (·.1)) p = 0 → all.length ≠ 4096 → ∃ a', goP (pgT p ++ rest) a ⟨all, cur⟩ = goP rest a' ⟨all, cur ++ p⟩ := by
  induction p with
  | nil => intro cur a _ _; exact ⟨a, by simp [pgT]⟩
  | cons f t ih =>
    intro cur a h hl
    rw [pgErr] at h
    by_cases hf : fdErr (cur.map (·.1)) f = 0
    · rw [if_pos hf] at h
      have hfd : nmOk f.1 = true ∧ valOk f.2 = true ∧ hasName cur f.1 = false := by
        unfold fdErr at hf
        by_cases h1 : nmOk f.1 = true
        · by_cases h2 : valOk f.2 = true
          · rw [if_pos h1, if_pos h2] at hf
            rw [← hasName_is]
            cases h3 : (cur.map (·.1)).contains f.1 with
            | true => rw [h3] at hf; simp at hf
            | false => exact ⟨h1, h2, rfl⟩
          · rw [if_pos h1, if_neg h2] at hf; cases hf
        · rw [if_neg h1] at hf; cases hf
      obtain ⟨a1, h1⟩ := go_field all cur f (pgT t ++ rest) a hfd.1 hfd.2.1 hfd.2.2 (fun _ => hl)
      obtain ⟨a2, h2⟩ := ih (cur ++ [f]) a1 (by simpa using h) hl
      refine ⟨a2, ?_⟩
      have e : pgT (f :: t) ++ rest = fdT f ++ (pgT t ++ rest) := by simp [pgT]
      rw [e, h1, h2]
      simp
    · rw [if_neg hf] at h
      exact absurd h hf
theorem line_blank (all : List (List Fd)) (cur : List Fd) : lineP ⟨all, cur⟩ [] = (⟨endP ⟨all, cur⟩, []⟩, 0) := by rw [line_is]; rfl
theorem go_paras (l : List (List Fd)) : ∀ (all : List (List Fd)) (a : Int), paErr l = 0 → all.length + l.length ≤ 4096 → goP (parasT l) a ⟨all, []⟩ = (all ++ l, 0, 0) := by
  induction l with
  | nil =>
    intro all a _ _
    rw [show parasT [] = [] from rfl, goP_nil]
    simp [endP]
  | cons p t ih =>
    intro all a h hl
    rw [paErr] at h
    by_cases h0 : p = []
    · rw [if_pos h0] at h; cases h
    · rw [if_neg h0] at h
      by_cases h1 : pgErr [] p = 0
      · rw [if_pos h1] at h
        simp only [List.length_cons] at hl
        have hend : endP ⟨all, p⟩ = all ++ [p] := by rw [endP, if_neg h0]
        cases t with
        | nil =>
          have e : parasT [p] = pgT p ++ [] := by simp [parasT, Lib.join_one]
          obtain ⟨a1, h2⟩ := go_para all [] p [] a h1 (by simp at hl; omega)
          rw [e, h2, goP_nil, List.nil_append, hend]
        | cons q r =>
          have e : parasT (p :: q :: r) = pgT p ++ ([] ++ 10 :: parasT (q :: r)) := by
            have := Lib.join_cons (pgT p) ((q :: r).map pgT) [10]
            have e2 := Lib.join_cons (pgT q) (r.map pgT) [10]
            rw [parasT, List.map_cons, this, parasT, List.map_cons, e2]
            simp [Lib.joinTail]
          obtain ⟨a1, h2⟩ := go_para all ([] ++ 10 :: parasT (q :: r)) p [] a h1 (by simp at hl; omega)
          rw [e, h2, goP_line [] (parasT (q :: r)) a1 ⟨all, [] ++ p⟩ (fun c h => by cases h) (by rw [line_blank]), line_blank]
          simp only [List.nil_append, hend]
          rw [ih (all ++ [p]) _ h (by simp at hl ⊢; omega)]
          simp
      · rw [if_neg h1] at h
        exact absurd h h1
/-- What is written is read as it was. -/
theorem pback_read (l : List (List Fd)) (h : chkP l = 0) : parseP (parasT l) = (l, 0, 0) := by
  unfold chkP at h
  split at h
  · cases h
  · rw [parseP, go_paras l [] 0 h (by simp; omega)]; simp
end Go.Proofs.YthcgomainhaemaaDoor

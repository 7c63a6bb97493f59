/- Fields of dependencies of Dpkg, in plain words: what is written is read as it was. -/
import Derived.Test.YtdnncbhbajciaaaDoorDdJ
import Derived.Test.YtdnncbhbajciaaaDoorDdR
namespace Go.Proofs.YtdnncbhbajciaaaDoor
theorem byte_all (P : UInt8 → Bool) (h : ((List.range 256).all fun n => P (UInt8.ofNat n)) = true) (c : UInt8) : P c = true := by
  have := List.all_eq_true.1 h c.toNat (List.mem_range.2 c.toNat_lt)
  simpa using this
/-- No byte of e. -/
def Free (e s : List UInt8) : Prop := ∀ c ∈ s, noEnd e c = true
/-- Nothing, or a byte of e first. -/
def Stop (e r : List UInt8) : Prop := r = [] ∨ ∃ c t, r = c :: t ∧ noEnd e c = false
theorem upTo_app (e s r : List UInt8) (h : Free e s) (hr : Stop e r) : upTo e (s ++ r) = s := by
  unfold upTo
  rw [List.takeWhile_append_of_pos h]
  rcases hr with rfl | ⟨c, t, rfl, hc⟩
  · simp
  · simp [List.takeWhile_cons, hc]
theorem behind_app (e s r : List UInt8) (h : Free e s) (hr : Stop e r) : behind e (s ++ r) = r := by
  have := upTo_app e s r h hr
  unfold upTo at this
  unfold behind past
  rw [this]; simp
theorem low_n (c : UInt8) : (!(isLow c || inB [43, 46, 45] c) || (noEnd nEnds c && !decide (c = 32))) = true := byte_all (fun c => !(isLow c || inB [43, 46, 45] c) || (noEnd nEnds c && !decide (c = 32))) (by decide +kernel) c
theorem low_w (c : UInt8) : (!(isLow c || inB [45] c) || noEnd wEnds c) = true := byte_all (fun c => !(isLow c || inB [45] c) || noEnd wEnds c) (by decide +kernel) c
theorem low_v (c : UInt8) : (!(madeP [46, 43, 126, 45] c || decide (c = 58)) || noEnd vEnds c) = true := byte_all (fun c => !(madeP [46, 43, 126, 45] c || decide (c = 58)) || noEnd vEnds c) (by decide +kernel) c
theorem imp_of {a b : Bool} (h : (!a || b) = true) (ha : a = true) : b = true := by rw [ha] at h; simpa using h
theorem name_free (s : List UInt8) (h : nameB s = true) : Free nEnds s ∧ s ≠ [] ∧ s.length ≤ 64 := by
  simp only [nameB, Bool.and_eq_true, decide_eq_true_eq] at h
  obtain ⟨⟨h1, h2⟩, h3⟩ := h
  refine ⟨fun c hc => ?_, fun e => by rw [e] at h1; simp at h1, h2⟩
  simp only [lowB, Bool.and_eq_true, List.all_eq_true] at h3
  have := imp_of (low_n c) (h3.1 c hc)
  rw [Bool.and_eq_true] at this
  exact this.1
theorem word_free (s : List UInt8) (h : wordB s = true) : Free wEnds s ∧ s ≠ [] ∧ s.length ≤ 32 := by
  simp only [wordB, Bool.and_eq_true, decide_eq_true_eq] at h
  obtain ⟨h2, h3⟩ := h
  refine ⟨fun c hc => ?_, fun e => by rw [e] at h3; simp [lowB] at h3, h2⟩
  simp only [lowB, Bool.and_eq_true, List.all_eq_true] at h3
  exact imp_of (low_w c) (h3.1 c hc)
theorem made_mem (l o : List UInt8) (h : madeB l o = true) : l ≠ [] ∧ ∀ c ∈ l, madeP o c = true := by
  simp only [madeB, Bool.and_eq_true, List.all_eq_true] at h
  exact ⟨fun e => by rw [e] at h; simp at h, h.2⟩
theorem made_wide (c : UInt8) (h : madeP [46, 43, 126] c = true) : madeP [46, 43, 126, 45] c = true :=
  imp_of (byte_all (fun c => !madeP [46, 43, 126] c || madeP [46, 43, 126, 45] c) (by decide +kernel) c) h
theorem rest_mem (r : List UInt8) (h : restOk r = true) : r ≠ [] ∧ ∀ c ∈ r, madeP [46, 43, 126, 45] c = true := by
  simp only [restOk, Bool.and_eq_true, Bool.or_eq_true, decide_eq_true_eq] at h
  obtain ⟨h1, h2, _⟩ := h
  obtain ⟨p1, p2⟩ := made_mem _ _ h2
  rcases last_split r with ⟨hl, _⟩ | ⟨hl, hr, _⟩
  · have : dPr r = r := by rw [dPr, if_neg (by omega)]
    rw [this] at p1 p2
    exact ⟨p1, p2⟩
  · obtain ⟨_, q2⟩ := made_mem _ _ (h1.resolve_left (by omega))
    refine ⟨fun e => by rw [e] at hr; simp at hr, fun c hc => ?_⟩
    rw [hr] at hc
    rcases List.mem_append.1 hc with hc | hc
    · exact p2 c hc
    · rcases List.mem_cons.1 hc with rfl | hc
      · decide +kernel
      · exact made_wide c (q2 c hc)
theorem ver_free (s : List UInt8) (h : vErr 1 s = 0) : Free vEnds s ∧ s ≠ [] ∧ s.length ≤ 64 := by
  unfold vErr at h
  rw [if_pos (.inl rfl)] at h
  split at h
  · cases h
  · rename_i hl
    split at h
    · rename_i hok
      rw [vOk1, dOk, Bool.and_eq_true] at hok
      obtain ⟨h1, h2⟩ := hok
      obtain ⟨r1, r2⟩ := rest_mem _ h2
      by_cases hi : inB s 58 = true
      · obtain ⟨hs, _⟩ := cut_split s 58 hi
        rw [dRest, if_pos hi] at r1 r2
        refine ⟨fun c hc => imp_of (low_v c) ?_, fun e => by rw [e] at hs; simp at hs, by omega⟩
        rw [hs] at hc
        rcases List.mem_append.1 hc with hc | hc
        · rw [epOk, hi] at h1
          simp only [Bool.not_true, Bool.false_or, Bool.and_eq_true, numB, List.all_eq_true] at h1
          have := h1.1.2 c hc
          simp [madeP, this]
        · rcases List.mem_cons.1 hc with rfl | hc
          · decide +kernel
          · simp [r2 c hc]
      · rw [dRest, if_neg hi] at r1 r2
        exact ⟨fun c hc => imp_of (low_v c) (by simp [r2 c hc]), r1, by omega⟩
    · cases h
/-- All is right in its, and so many terms begin. -/
def Fine (its : List It) (n : Nat) : Prop := (∀ it ∈ its, it.kind ≠ 0 → itErr it = 0) ∧ (its.filter isHd).length = n
theorem Fine.nil : Fine [] 0 := ⟨(fun _ h => by cases h), rfl⟩
theorem Fine.app {a b : List It} {m n : Nat} (h : Fine a m) (k : Fine b n) : Fine (a ++ b) (m + n) :=
  ⟨fun it hit hk => (List.mem_append.1 hit).elim (fun x => h.1 it x hk) (fun x => k.1 it x hk), by rw [List.filter_append, List.length_append, h.2, k.2]⟩
theorem Fine.one (it : It) (hk : it.kind ≠ 0) (he : itErr it = 0) : Fine [it] 0 := ⟨(fun x hx _ => by rw [List.mem_singleton.1 hx]; exact he), by simp [isHd, hk]⟩
theorem fine_code (its : List It) : ∀ (n : Nt) (m : Nat), Fine its m → n.code = 0 → n.terms + m ≤ 64 → (n.all its).code = 0 := by
  induction its with
  | nil => intro n m _ h _; exact h
  | cons it its ih =>
    intro n m hf hc ht
    show ((n.step it).all its).code = 0
    by_cases hk : it.kind = 0
    · have hm : m = (its.filter isHd).length + 1 := by rw [← hf.2]; simp [isHd, hk]
      have hst : n.step it = ⟨n.terms + 1, n.rest, n.code⟩ := by
        rw [Nt.step, if_pos hk, if_neg (by omega), Nt.note, if_neg (fun e => e.2 rfl)]
      rw [hst]
      exact ih _ (m - 1) ⟨fun x hx => hf.1 x (by simp [hx]), by omega⟩ hc (by show n.terms + 1 + (m - 1) ≤ 64; omega)
    · have hst : n.step it = n := by rw [Nt.step, if_neg hk, Nt.note, if_neg (fun e => e.2 (hf.1 it (by simp) hk))]
      rw [hst]
      exact ih n m ⟨fun x hx => hf.1 x (by simp [hx]), by rw [← hf.2]; simp [isHd, hk]⟩ hc ht
theorem join_cons (a b : List UInt8) (l : List (List UInt8)) (sep : List UInt8) : Lib.join (a :: b :: l) sep = a ++ (sep ++ Lib.join (b :: l) sep) := by simp [Lib.join]
theorem join_one (a sep : List UInt8) : Lib.join [a] sep = a := by simp [Lib.join]
/-- What stands behind a term. -/
inductive Tail : List UInt8 → Prop
  | nil : Tail []
  | comma (t) : Tail (44 :: t)
  | bar (t) : Tail (32 :: 124 :: t)
theorem skip_tail {r : List UInt8} (h : Tail r) : ∀ t, skipB r ≠ 91 :: t ∧ skipB r ≠ 40 :: t := by
  intro t
  cases h with
  | nil => exact ⟨(fun e => by simp [skipB, past] at e), (fun e => by simp [skipB, past] at e)⟩
  | comma u => rw [skipB_stop (44 :: u) (fun t e => by injection e with e; cases e)]; exact ⟨(fun e => by injection e with e; cases e), (fun e => by injection e with e; cases e)⟩
  | bar u => rw [skipB_cons, skipB_stop (124 :: u) (fun t e => by injection e with e; cases e)]; exact ⟨(fun e => by injection e with e; cases e), (fun e => by injection e with e; cases e)⟩
theorem tail_stop (e : List UInt8) (h32 : noEnd e 32 = false) (h44 : noEnd e 44 = false) {r : List UInt8} (h : Tail r) : Stop e r := by
  cases h with
  | nil => exact .inl rfl
  | comma t => exact .inr ⟨44, t, rfl, h44⟩
  | bar t => exact .inr ⟨32, _, rfl, h32⟩
theorem notP_no (w r : List UInt8) (h : Free wEnds w) (h0 : w ≠ []) : notP (w ++ r) = ([], w ++ r) := by
  cases w with
  | nil => exact absurd rfl h0
  | cons c t =>
    have hc := h c (by simp)
    have : c ≠ 33 := fun e => by rw [e] at hc; revert hc; decide +kernel
    unfold notP
    rw [List.cons_append]
    split
    · rename_i e; injection e with e; exact absurd e this
    · rfl
/-- An architecture: a mark or none, and a word. -/
theorem arch_parts (a : List UInt8) (h : wordB (bareW a) = true) : ∃ no w, a = no ++ w ∧ wordB w = true ∧ ∀ r, notP (a ++ r) = (no, w ++ r) := by
  unfold bareW at h
  split at h
  · rename_i t
    exact ⟨[33], t, rfl, h, fun r => rfl⟩
  · exact ⟨[], a, rfl, h, fun r => notP_no a r (word_free a h).1 (word_free a h).2.1⟩
theorem sp_no (w r : List UInt8) (h : Free wEnds w) (h0 : w ≠ []) : ∀ t, w ++ r ≠ 32 :: t := by
  cases w with
  | nil => exact absurd rfl h0
  | cons c u =>
    intro t e
    rw [List.cons_append] at e
    injection e with e _
    have hc := h c (by simp)
    rw [e] at hc; revert hc; decide +kernel
theorem pArchs_back (l : List (List UInt8)) : ∀ (a : List UInt8) (acc : List (List UInt8)) (its : List It) (r : List UInt8), Fine its 0 → wordB (bareW a) = true → (∀ b ∈ l, wordB (bareW b) = true) →
    ∃ its', pArchs (Lib.join (a :: l) [32] ++ 93 :: r) acc its = .ok (acc ++ (a :: l)) (skipB r) its' ∧ Fine its' 0 := by
  induction l with
  | nil =>
    intro a acc its r hf ha _
    obtain ⟨no, w, rfl, hw, hn⟩ := arch_parts a ha
    obtain ⟨w1, w2, w3⟩ := word_free w hw
    rw [join_one, pArchs, hn, dif_neg (by rw [upTo_app _ _ _ w1 (.inr ⟨93, r, rfl, by decide +kernel⟩)]; exact w2)]
    simp only [upTo_app _ _ _ w1 (.inr ⟨93, r, rfl, by decide +kernel⟩), behind_app _ _ _ w1 (.inr ⟨93, r, rfl, by decide +kernel⟩), skipB_stop (93 :: r) (fun t e => by injection e with e; cases e)]
    exact ⟨_, rfl, hf.app (Fine.one _ (by simp) (by simp [itErr, hw]))⟩
  | cons b l ih =>
    intro a acc its r hf ha hl
    obtain ⟨no, w, rfl, hw, hn⟩ := arch_parts a ha
    obtain ⟨w1, w2, w3⟩ := word_free w hw
    have hb := hl b (by simp)
    obtain ⟨no2, v, e2, hv, hn2⟩ := arch_parts b hb
    have hx : Lib.join ((no ++ w) :: b :: l) [32] ++ 93 :: r = (no ++ w) ++ (32 :: (Lib.join (b :: l) [32] ++ 93 :: r)) := by rw [join_cons]; simp
    have hst : Stop wEnds (32 :: (Lib.join (b :: l) [32] ++ 93 :: r)) := .inr ⟨32, _, rfl, by decide +kernel⟩
    have hsp : skipB (32 :: (Lib.join (b :: l) [32] ++ 93 :: r)) = Lib.join (b :: l) [32] ++ 93 :: r := by
      rw [skipB_cons]
      obtain ⟨z, hz⟩ : ∃ z, Lib.join (b :: l) [32] ++ 93 :: r = b ++ z := by
        cases l with
        | nil => exact ⟨93 :: r, by rw [join_one]⟩
        | cons c l => exact ⟨_, by rw [join_cons, List.append_assoc]⟩
      rw [hz]
      refine skipB_stop _ fun t e => ?_
      have := hn2 z
      cases b with
      | nil => simp [wordB, bareW, lowB] at hb
      | cons c u =>
        rw [List.cons_append] at e
        injection e with e _
        subst e
        simp [wordB, bareW, lowB, isLow, isSmall, isDig] at hb
    have h93 : ∀ t, Lib.join (b :: l) [32] ++ 93 :: r ≠ 93 :: t := by
      intro t e
      cases b with
      | nil => simp [wordB, bareW, lowB] at hb
      | cons c u =>
        have : ∃ z, Lib.join ((c :: u) :: l) [32] ++ 93 :: r = c :: z := by
          cases l with
          | nil => exact ⟨_, by rw [join_one, List.cons_append]⟩
          | cons d l => exact ⟨_, by rw [join_cons, List.append_assoc, List.cons_append]⟩
        obtain ⟨z, hz⟩ := this
        rw [hz] at e
        injection e with e _
        subst e
        simp [wordB, bareW, lowB, isLow, isSmall, isDig] at hb
    obtain ⟨its', h1, h2⟩ := ih b (acc ++ [no ++ w]) (its ++ [⟨2, w ++ (32 :: (Lib.join (b :: l) [32] ++ 93 :: r)), w⟩]) r (hf.app (Fine.one _ (by simp) (by simp [itErr, hw]))) hb (fun x hx => hl x (by simp [hx]))
    refine ⟨its', ?_, h2⟩
    rw [hx, pArchs, hn, dif_neg (by rw [upTo_app _ _ _ w1 hst]; exact w2)]
    simp only [upTo_app _ _ _ w1 hst, behind_app _ _ _ w1 hst, hsp]
    split
    · rename_i e; simp at e
    · rw [h1]; simp
theorem pOp_back (op : Int) (r : List UInt8) (h0 : op ≠ 0) (h1 : 0 ≤ op) (h5 : op ≤ 5) : pOp (signsL.getD op.toNat [] ++ 32 :: r) = (op, 32 :: r) ∧ ∀ t, signsL.getD op.toNat [] ++ 32 :: r ≠ 32 :: t := by
  obtain rfl | rfl | rfl | rfl | rfl : op = 1 ∨ op = 2 ∨ op = 3 ∨ op = 4 ∨ op = 5 := by omega
  all_goals exact ⟨rfl, fun t e => by injection e with e; cases e⟩
theorem tErr_parts (t : Tm) (h : tErr t = 0) : nameB t.name = true ∧ (t.qual = [] ∨ wordB t.qual = true) ∧ (∀ a ∈ t.archs, wordB (bareW a) = true) ∧ 0 ≤ t.op ∧ t.op ≤ 5 ∧ (t.op = 0 → t.ver = []) ∧ (t.op ≠ 0 → vErr 1 t.ver = 0) := by
  obtain ⟨o1, o2⟩ := tErr_op t h
  unfold tErr at h
  split at h
  · cases h
  · rename_i n1
    split at h
    · cases h
    · rename_i n2
      split at h
      · cases h
      · rename_i n3
        refine ⟨?_, ?_, ?_, o1, o2, ?_, ?_⟩
        · cases hb : nameB t.name with
          | true => rfl
          | false => simp [nmBad, hb] at n1
        · by_cases hq : t.qual = []
          · exact .inl hq
          · right
            cases hb : wordB t.qual with
            | true => rfl
            | false => exact absurd (by simp [nmBad, hb, hq]) n1
        · intro a ha
          cases hb : wordB (bareW a) with
          | true => rfl
          | false => exact absurd (List.any_eq_true.2 ⟨a, ha, by simp [hb]⟩) n2
        · intro h0
          cases hv : t.ver with
          | nil => rfl
          | cons c u => exact absurd (by simp [opBad, h0, hv]) n3
        · intro h0
          rw [if_neg h0] at h
          exact h
/-- What is left of a term behind its name and qualifier. -/
def relA (t : Tm) (r : List UInt8) : List UInt8 := relT t.op t.ver ++ (archT t.archs ++ r)
theorem skip_arch (l : List (List UInt8)) (r : List UInt8) (hr : Tail r) (hl : ∀ a ∈ l, wordB (bareW a) = true) : ∃ its, pArchQ (skipB (archT l ++ r)) = .ok l (skipB r) its ∧ Fine its 0 := by
  cases l with
  | nil =>
    refine ⟨[], ?_, Fine.nil⟩
    rw [show archT [] ++ r = r from rfl]
    unfold pArchQ
    split
    · rename_i t e; exact absurd e (skip_tail hr t).1
    · rfl
  | cons a l =>
    have h1 : archT (a :: l) ++ r = 32 :: 91 :: (Lib.join (a :: l) [32] ++ 93 :: r) := by simp [archT]
    have ha := hl a (by simp)
    obtain ⟨its, h2, h3⟩ := pArchs_back l a [] [] r Fine.nil ha (fun b hb => hl b (by simp [hb]))
    refine ⟨its, ?_, h3⟩
    rw [h1, skipB_cons, skipB_stop (91 :: _) (fun t e => by injection e with e; cases e)]
    show pArchs (skipB _) [] [] = _
    rw [skipB_stop, h2]
    · rfl
    · intro t e
      cases a with
      | nil => simp [wordB, bareW, lowB] at ha
      | cons c u =>
        have : ∃ z, Lib.join ((c :: u) :: l) [32] ++ 93 :: r = c :: z := by
          cases l with
          | nil => exact ⟨_, by rw [join_one, List.cons_append]⟩
          | cons d l => exact ⟨_, by rw [join_cons, List.append_assoc, List.cons_append]⟩
        obtain ⟨z, hz⟩ := this
        rw [hz] at e
        injection e with e _
        subst e
        simp [wordB, bareW, lowB, isLow, isSmall, isDig] at ha
theorem archT_stop (e : List UInt8) (h32 : noEnd e 32 = false) (h44 : noEnd e 44 = false) (l : List (List UInt8)) (r : List UInt8) (hr : Tail r) : Stop e (archT l ++ r) := by
  cases l with
  | nil => exact tail_stop e h32 h44 hr
  | cons a l => exact .inr ⟨32, _, by simp [archT]; rfl, h32⟩
theorem relA_stop (e : List UInt8) (h32 : noEnd e 32 = false) (h44 : noEnd e 44 = false) (t : Tm) (r : List UInt8) (hr : Tail r) : Stop e (relA t r) := by
  unfold relA relT
  split
  · exact archT_stop e h32 h44 _ _ hr
  · exact .inr ⟨32, _, by simp; rfl, h32⟩
theorem skip_rel (t : Tm) (r : List UInt8) (hr : Tail r) (ht : tErr t = 0) : ∃ its, pRelQ (skipB (relA t r)) = .ok (t.op, t.ver) (skipB (archT t.archs ++ r)) its ∧ Fine its 0 := by
  obtain ⟨_, _, hA, o1, o2, v0, v1⟩ := tErr_parts t ht
  unfold relA relT
  split
  · rename_i h0
    refine ⟨[], ?_, Fine.nil⟩
    rw [h0, v0 h0, List.nil_append]
    have hno : ∀ u, skipB (archT t.archs ++ r) ≠ 40 :: u := by
      intro u
      cases hl : t.archs with
      | nil => exact (skip_tail hr u).2
      | cons a l =>
        have h1 : archT (a :: l) ++ r = 32 :: 91 :: (Lib.join (a :: l) [32] ++ 93 :: r) := by simp [archT]
        rw [h1, skipB_cons, skipB_stop (91 :: _) (fun t e => by injection e with e; cases e)]
        exact fun e => by injection e with e; cases e
    unfold pRelQ
    split
    · rename_i u e; exact absurd e (hno u)
    · rfl
  · rename_i h0
    obtain ⟨f1, f2, _⟩ := ver_free t.ver (v1 h0)
    have h1 : [32, 40] ++ (signsL.getD t.op.toNat [] ++ (32 :: (t.ver ++ [41]))) ++ (archT t.archs ++ r) = 32 :: 40 :: (signsL.getD t.op.toNat [] ++ 32 :: (t.ver ++ 41 :: (archT t.archs ++ r))) := by simp
    rw [h1, skipB_cons, skipB_stop (40 :: _) (fun t e => by injection e with e; cases e)]
    obtain ⟨p1, p2⟩ := pOp_back t.op (t.ver ++ 41 :: (archT t.archs ++ r)) h0 o1 o2
    have hst : Stop vEnds (41 :: (archT t.archs ++ r)) := .inr ⟨41, _, rfl, by decide +kernel⟩
    have hsv : skipB (t.ver ++ 41 :: (archT t.archs ++ r)) = t.ver ++ 41 :: (archT t.archs ++ r) := by
      refine skipB_stop _ ?_
      cases hv : t.ver with
      | nil => exact absurd hv f2
      | cons c u =>
        intro q e
        rw [List.cons_append] at e
        injection e with e _
        have := f1 c (by rw [hv]; simp)
        rw [e] at this; revert this; decide +kernel
    refine ⟨[⟨3, t.ver ++ 41 :: (archT t.archs ++ r), t.ver⟩], ?_, Fine.one _ (by simp) (by simp [itErr, v1 h0])⟩
    show pRel _ = _
    unfold pRel
    rw [skipB_stop _ p2, p1, if_neg h0]
    show pRel2 t.op (skipB (32 :: _)) = _
    rw [skipB_cons, hsv]
    unfold pRel2
    rw [upTo_app _ _ _ f1 hst, behind_app _ _ _ f1 hst, if_neg f2, skipB_stop (41 :: _) (fun t e => by injection e with e; cases e)]
    rfl
theorem pTerm_back (t : Tm) (r : List UInt8) (hr : Tail r) (ht : tErr t = 0) : ∃ its, pTerm (termT t ++ r) = .ok t (skipB r) its ∧ Fine its 1 := by
  obtain ⟨hN, hQ, hA, o1, o2, v0, v1⟩ := tErr_parts t ht
  obtain ⟨n1, n2, _⟩ := name_free t.name hN
  have h1 : termT t ++ r = t.name ++ (qualT t.qual ++ relA t r) := by simp [termT, relA]
  obtain ⟨i2, e2, f2⟩ := skip_rel t r hr ht
  obtain ⟨i3, e3, f3⟩ := skip_arch t.archs r hr hA
  have hst : Stop nEnds (qualT t.qual ++ relA t r) := by
    unfold qualT
    split
    · exact relA_stop nEnds (by decide +kernel) (by decide +kernel) t r hr
    · exact .inr ⟨58, _, rfl, by decide +kernel⟩
  have hq : ∃ i1, pQual (qualT t.qual ++ relA t r) = .ok t.qual (relA t r) i1 ∧ Fine i1 0 := by
    by_cases hq0 : t.qual = []
    · refine ⟨[], ?_, Fine.nil⟩
      rw [qualT, if_pos hq0, List.nil_append, hq0]
      unfold pQual
      split
      · rename_i u e
        rcases relA_stop nEnds (by decide +kernel) (by decide +kernel) t r hr with h | h
        · rw [h] at e; cases e
        · exfalso
          revert e
          unfold relA relT
          split
          · cases hl : t.archs with
            | nil =>
              intro e
              have e : r = 58 :: u := e
              cases hr <;> cases e
            | cons a l => intro e; simp [archT] at e
          · intro e; simp at e
      · rfl
    · have hw := hQ.resolve_left hq0
      obtain ⟨w1, w2, _⟩ := word_free _ hw
      have hs2 := relA_stop wEnds (by decide +kernel) (by decide +kernel) t r hr
      refine ⟨[⟨2, t.qual ++ relA t r, t.qual⟩], ?_, Fine.one _ (by simp) (by simp [itErr, hw])⟩
      rw [qualT, if_neg hq0, List.cons_append]
      show (if upTo wEnds (t.qual ++ relA t r) = [] then _ else _) = _
      rw [upTo_app _ _ _ w1 hs2, behind_app _ _ _ w1 hs2, if_neg w2]
  obtain ⟨i1, e1, f1⟩ := hq
  refine ⟨⟨0, termT t ++ r, []⟩ :: ⟨1, termT t ++ r, t.name⟩ :: ((i1 ++ i2) ++ i3), ?_, ?_⟩
  · unfold pTerm
    rw [h1, upTo_app _ _ _ n1 hst, behind_app _ _ _ n1 hst, if_neg n2]
    unfold pTerm1
    rw [e1]
    show pTerm2 _ _ _ _ _ = _
    unfold pTerm2
    rw [e2]
    show pTerm3 _ _ _ _ _ _ _ = _
    unfold pTerm3
    rw [e3]
  · have : Fine ([⟨0, termT t ++ r, []⟩] ++ ([⟨1, termT t ++ r, t.name⟩] ++ ((i1 ++ i2) ++ i3))) (1 + (0 + ((0 + 0) + 0))) :=
      Fine.app ⟨(fun x hx h => by rw [List.mem_singleton.1 hx] at h; exact absurd rfl h), rfl⟩ (Fine.app (Fine.one _ (by simp) (by simp [itErr, hN])) ((f1.app f2).app f3))
    exact this
/-- What stands behind a group. -/
inductive GTail : List UInt8 → Prop
  | nil : GTail []
  | comma (t) : GTail (44 :: t)
theorem GTail.tail {r : List UInt8} (h : GTail r) : Tail r := by
  cases h with
  | nil => exact .nil
  | comma t => exact .comma t
theorem GTail.skip {r : List UInt8} (h : GTail r) : skipB r = r ∧ ∀ u, r ≠ 124 :: u := by
  cases h with
  | nil => exact ⟨rfl, fun u e => by cases e⟩
  | comma t => exact ⟨skipB_stop _ (fun t e => by injection e with e; cases e), fun u e => by injection e with e; cases e⟩
theorem term_head (t : Tm) (r : List UInt8) (ht : tErr t = 0) : ∃ c u, termT t ++ r = c :: u ∧ c ≠ 32 := by
  obtain ⟨hN, _⟩ := tErr_parts t ht
  obtain ⟨n1, n2, _⟩ := name_free t.name hN
  cases hn : t.name with
  | nil => exact absurd hn n2
  | cons c u =>
    refine ⟨c, _, by rw [termT, hn]; simp only [List.cons_append]; rfl, fun e => ?_⟩
    have := n1 c (by rw [hn]; simp)
    rw [e] at this; revert this; decide +kernel
theorem group_head (g : List Tm) (r : List UInt8) (h0 : g ≠ []) (ht : ∀ t ∈ g, tErr t = 0) : ∃ c u, groupT g ++ r = c :: u ∧ c ≠ 32 := by
  cases g with
  | nil => exact absurd rfl h0
  | cons t g =>
    cases g with
    | nil => rw [groupT, List.map_cons, List.map_nil, join_one]; exact term_head t r (ht t (by simp))
    | cons t2 g => rw [groupT, List.map_cons, List.map_cons, join_cons, List.append_assoc]; exact term_head t _ (ht t (by simp))
theorem pGroup_back (g : List Tm) : ∀ (t : Tm) (acc : List Tm) (its : List It) (m : Nat) (r : List UInt8), GTail r → Fine its m → tErr t = 0 → (∀ x ∈ g, tErr x = 0) →
    ∃ its', pGroup (groupT (t :: g) ++ r) acc its = .ok (acc ++ (t :: g)) r its' ∧ Fine its' (m + (g.length + 1)) := by
  induction g with
  | nil =>
    intro t acc its m r hr hf ht _
    obtain ⟨i, e, f⟩ := pTerm_back t r hr.tail ht
    rw [hr.skip.1] at e
    rw [show groupT [t] = termT t by rw [groupT, List.map_cons, List.map_nil, join_one]]
    exact ⟨_, pGroup_end _ acc its t r i e hr.skip.2, hf.app f⟩
  | cons t2 g ih =>
    intro t acc its m r hr hf ht hl
    have h1 : groupT (t :: t2 :: g) ++ r = termT t ++ (32 :: 124 :: 32 :: (groupT (t2 :: g) ++ r)) := by
      rw [groupT, List.map_cons, List.map_cons, join_cons]
      simp [groupT]
    obtain ⟨i, e, f⟩ := pTerm_back t (32 :: 124 :: 32 :: (groupT (t2 :: g) ++ r)) (.bar _) ht
    rw [skipB_cons, skipB_stop (124 :: _) (fun t e => by injection e with e; cases e)] at e
    obtain ⟨c, u, hc, hc32⟩ := group_head (t2 :: g) r (by simp) (fun x hx => hl x hx)
    obtain ⟨its', h2, h3⟩ := ih t2 (acc ++ [t]) (its ++ i) (m + 1) r hr (hf.app f) (hl t2 (by simp)) (fun x hx => hl x (by simp [hx]))
    refine ⟨its', ?_, by rw [show m + ((t2 :: g).length + 1) = m + 1 + (g.length + 1) by simp; omega]; exact h3⟩
    rw [h1, pGroup_next _ acc its t _ i e, skipB_cons, skipB_stop _ (fun q e => by rw [hc] at e; injection e with e; exact hc32 e), h2]
    simp
theorem pField_back (l : List (List Tm)) : ∀ (g : List Tm) (acc : List (List Tm)) (its : List It) (m : Nat), Fine its m → g ≠ [] → (∀ x ∈ g, tErr x = 0) → (∀ h ∈ l, h ≠ [] ∧ ∀ x ∈ h, tErr x = 0) →
    ∃ its', pField (fieldT (g :: l)) acc its = .ok (acc ++ (g :: l)) [] its' ∧ Fine its' (m + sumT (g :: l)) := by
  induction l with
  | nil =>
    intro g acc its m hf h0 ht _
    cases g with
    | nil => exact absurd rfl h0
    | cons t g =>
      obtain ⟨i, e, f⟩ := pGroup_back g t [] [] 0 [] .nil Fine.nil (ht t (by simp)) (fun x hx => ht x (by simp [hx]))
      rw [List.append_nil, List.nil_append] at e
      rw [show fieldT [t :: g] = groupT (t :: g) by rw [fieldT, List.map_cons, List.map_nil, join_one]]
      refine ⟨_, pField_end _ acc its (t :: g) i e, hf.app ?_⟩
      simpa [sumT] using f
  | cons g2 l ih =>
    intro g acc its m hf h0 ht hl
    have h1 : fieldT (g :: g2 :: l) = groupT g ++ (44 :: 32 :: fieldT (g2 :: l)) := by
      rw [fieldT, List.map_cons, List.map_cons, join_cons]
      simp [fieldT]
    obtain ⟨g20, g2t⟩ := hl g2 (by simp)
    have hh : ∃ c u, fieldT (g2 :: l) = c :: u ∧ c ≠ 32 := by
      cases l with
      | nil =>
        rw [fieldT, List.map_cons, List.map_nil, join_one]
        have := group_head g2 [] g20 g2t
        rw [List.append_nil] at this
        exact this
      | cons g3 l => rw [fieldT, List.map_cons, List.map_cons, join_cons]; exact group_head g2 _ g20 g2t
    obtain ⟨c, u, hc, hc32⟩ := hh
    cases g with
    | nil => exact absurd rfl h0
    | cons t g =>
      obtain ⟨i, e, f⟩ := pGroup_back g t [] [] 0 (44 :: 32 :: fieldT (g2 :: l)) (.comma _) Fine.nil (ht t (by simp)) (fun x hx => ht x (by simp [hx]))
      rw [List.nil_append] at e
      obtain ⟨its', h2, h3⟩ := ih g2 (acc ++ [t :: g]) (its ++ i) (m + (t :: g).length) (hf.app (by simpa using f)) g20 g2t (fun x hx => hl x (by simp [hx]))
      refine ⟨its', ?_, ?_⟩
      · rw [h1, pField_next _ acc its (t :: g) _ i e, skipB_cons, skipB_stop _ (fun q e => by rw [hc] at e; injection e with e; exact hc32 e), h2]
        simp
      · rw [show m + sumT ((t :: g) :: g2 :: l) = m + (t :: g).length + sumT (g2 :: l) by simp [sumT]; omega]
        exact h3
/-- What is written is read as it was. -/
theorem back_read (l : List (List Tm)) (h : chkS l = 0) : parseS (fieldT l) = (l, 0, 0) := by
  obtain ⟨h1, h2, h3⟩ := chk_ok l h
  cases l with
  | nil => rfl
  | cons g l =>
    obtain ⟨its, e, f⟩ := pField_back l g [] [] 0 Fine.nil (h2 g (by simp)) (h3 g (by simp)) (fun x hx => ⟨h2 x (by simp [hx]), h3 x (by simp [hx])⟩)
    have hh : ∃ c u, fieldT (g :: l) = c :: u ∧ c ≠ 32 := by
      cases l with
      | nil =>
        rw [fieldT, List.map_cons, List.map_nil, join_one]
        have := group_head g [] (h2 g (by simp)) (h3 g (by simp))
        rw [List.append_nil] at this
        exact this
      | cons g3 l => rw [fieldT, List.map_cons, List.map_cons, join_cons]; exact group_head g _ (h2 g (by simp)) (h3 g (by simp))
    obtain ⟨c, u, hc, hc32⟩ := hh
    have hsk : skipB (fieldT (g :: l)) = fieldT (g :: l) := skipB_stop _ (fun q e => by rw [hc] at e; injection e with e; exact hc32 e)
    have hp : pAll (fieldT (g :: l)) = .ok (g :: l) [] its := by
      unfold pAll
      rw [hsk, if_neg (by rw [hc]; simp), e]
      simp
    unfold parseS
    rw [hp]
    show (if (nt0.all its).code = 0 then _ else _) = _
    rw [if_pos (fine_code its nt0 _ f rfl (by show 0 + (0 + _) ≤ 64; omega))]
end Go.Proofs.YtdnncbhbajciaaaDoor

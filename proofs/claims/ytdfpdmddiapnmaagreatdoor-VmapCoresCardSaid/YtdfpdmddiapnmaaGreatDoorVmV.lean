/- Cores of versions, in plain words: the document's way to the core of a text. -/
import Derived.Test.YtdfpdmddiapnmaaGreatDoorVmU
namespace Go.Proofs.YtdfpdmddiapnmaaGreatDoor
/-- The number with which a text begins, and the rest. -/
def takeR (s : List UInt8) : Option (Int × List UInt8) := if udCode (digs s) = 0 ∧ numOk (udN (digs s)) = true then some (udN (digs s), past isDig s) else none
def epLoop (s : List UInt8) : List UInt8 → Int → List UInt8 → Option (Int × List UInt8)
  | [], e, r => some (e, r)
  | c :: t, e, r => if c = 58 then (match takeR s with
      | none => none
      | some x => epLoop s t x.1 t) else epLoop s t e r
theorem takeR_lt (s : List UInt8) (n : Int) (q : List UInt8) (h : takeR s = some (n, q)) : q.length < s.length := by
  unfold takeR at h
  split at h
  · rename_i hc
    injection h with h
    injection h with _ h
    subst h
    have hne : digs s ≠ [] := fun e => by rw [e] at hc; simp [udCode, headBad] at hc
    unfold past
    rw [List.length_drop]
    have h1 : 0 < (s.takeWhile isDig).length := List.length_pos_iff.2 hne
    have h2 : (s.takeWhile isDig).length ≤ s.length := (List.takeWhile_prefix _).length_le
    omega
  · cases h
def numsR (r : List UInt8) (acc : List Int) : Option (List Int × List UInt8) :=
  match h : takeR r with
  | none => none
  | some (n, q) => match hq : q with
    | 46 :: t => numsR t (acc ++ [n])
    | q => some (acc ++ [n], q)
termination_by r.length
decreasing_by
  have := takeR_lt r _ _ h
  simp only [List.length_cons] at this
  omega
theorem numsR_none (r : List UInt8) (acc : List Int) (h : takeR r = none) : numsR r acc = none := by
  rw [numsR]
  split
  · rfl
  · rename_i e; rw [h] at e; cases e
theorem numsR_dot (r : List UInt8) (acc : List Int) (n : Int) (t : List UInt8) (h : takeR r = some (n, 46 :: t)) : numsR r acc = numsR t (acc ++ [n]) := by
  rw [numsR]
  split
  · rename_i e; rw [h] at e; cases e
  · rename_i e
    rw [h] at e
    injection e with e
    injection e with e1 e2
    subst e1 e2
    rfl
theorem numsR_end (r : List UInt8) (acc : List Int) (n : Int) (q : List UInt8) (h : takeR r = some (n, q)) (hq : ∀ t, q ≠ 46 :: t) : numsR r acc = some (acc ++ [n], q) := by
  rw [numsR]
  split
  · rename_i e; rw [h] at e; cases e
  · rename_i e
    rw [h] at e
    injection e with e
    injection e with e1 e2
    subst e1 e2
    split
    · exact absurd rfl (hq _)
    · rfl
def letR (r : List UInt8) : List UInt8 × List UInt8 := match r with
  | c :: t => if isSmall c = true then ([c], t) else ([], c :: t)
  | [] => ([], [])
def preStep (f : Int) (x : Option (List UInt8 × Int × List UInt8)) (w : List UInt8) : Option (List UInt8 × Int × List UInt8) := match x with
  | none => none
  | some (p, n, r) => if p = [] ∧ (sgnB f :: w).isPrefixOf r = true then (match takeR (r.drop (w.length + 1)) with
      | none => none
      | some y => some (w, y.1, y.2)) else some (p, n, r)
def preR (f : Int) (r : List UInt8) : Option (List UInt8 × Int × List UInt8) := presL.foldl (preStep f) (some ([], 0, r))
def revR (f : Int) (r : List UInt8) : Option Int := if (dashF f).isPrefixOf r = true then (match takeR (r.drop (dashF f).length) with
    | none => none
    | some x => if x.2 = [] then some x.1 else none) else none
def refTail (f : Int) (e : Int) (ns : List Int) (lt : List UInt8) : Option (List UInt8 × Int × List UInt8) → Option Co
  | none => none
  | some (p, n, r) => match revR f r with
    | none => none
    | some v => some ⟨e, ns, lt, p, n, v⟩
def refNums (f : Int) (e : Int) : Option (List Int × List UInt8) → Option Co
  | none => none
  | some (ns, r) => refTail f e ns (letR r).1 (preR f (letR r).2)
def refCand (f : Int) (s : List UInt8) : Option Co := match epLoop s s 0 s with
  | none => none
  | some (e, r) => refNums f e (numsR r [])
/-- The document's answer. -/
def refPa (f : Int) (s : List UInt8) : Co × Int := if vErr f s = 0 then (match refCand f s with
    | none => (co0, 11)
    | some c => if prC f c = (s, 0) then (c, 0) else (co0, 11)) else (co0, vErr f s)
theorem take_back (n : Int) (r : List UInt8) (h : numOk n = true) (hr : NoDig r) : takeR (decI n ++ r) = some (n, r) := by
  have hn := dec_num n h
  obtain ⟨d1, d2⟩ := digs_app (decI n) r hn.dig hr
  unfold takeR
  rw [d1, d2, hn.ud, if_pos ⟨hn.code, h⟩]
theorem epLoop_no (s r : List UInt8) (e : Int) (q : List UInt8) (h : (58 : UInt8) ∉ r) : epLoop s r e q = some (e, q) := by
  induction r with
  | nil => rfl
  | cons c t ih => rw [epLoop, if_neg (fun e => h (by rw [e]; simp)), ih (fun hm => h (by simp [hm]))]
theorem epLoop_at (s A B : List UInt8) (e n : Int) (q x : List UInt8) (hA : (58 : UInt8) ∉ A) (hB : (58 : UInt8) ∉ B) (ht : takeR s = some (n, x)) : epLoop s (A ++ 58 :: B) e q = some (n, B) := by
  induction A with
  | nil => rw [List.nil_append, epLoop, if_pos rfl, ht]; exact epLoop_no s B n B hB
  | cons c A ih => rw [List.cons_append, epLoop, if_neg (fun e => hA (by rw [e]; simp)), ih (fun hm => hA (by simp [hm]))]
theorem numsR_back (l : List Int) : ∀ (r : List UInt8) (acc : List Int), l.all numOk = true → l ≠ [] → NoDig r → (∀ t, r ≠ 46 :: t) → numsR (numsT l ++ r) acc = some (acc ++ l, r) := by
  induction l with
  | nil => intro r acc _ h0; exact absurd rfl h0
  | cons n l ih =>
    intro r acc h _ hr h46
    simp only [List.all_cons, Bool.and_eq_true] at h
    cases l with
    | nil => rw [numsT_one, numsR_end _ _ n r (take_back n r h.1 hr) h46]
    | cons m l =>
      rw [numsT_cons, List.append_assoc, List.cons_append, numsR_dot _ _ n _ (take_back n _ h.1 (fun c t e => by injection e with e _; rw [← e]; decide +kernel)), ih _ _ h.2 (by simp) hr h46]
      simp
/-- What stands behind the numbers. -/
def tailC (f : Int) (c : Co) : List UInt8 := preT f c ++ (dashF f ++ decI c.rev)
theorem tail_head (f : Int) (c : Co) : ∃ d t, tailC f c = d :: t ∧ isDig d = false ∧ isSmall d = false ∧ d ≠ 46 := by
  unfold tailC preT
  split
  · unfold dashF
    split
    · exact ⟨45, _, rfl, by decide +kernel, by decide +kernel, by decide⟩
    · exact ⟨45, _, rfl, by decide +kernel, by decide +kernel, by decide⟩
  · refine ⟨sgnB f, _, rfl, ?_⟩
    unfold sgnB
    split <;> exact ⟨by decide +kernel, by decide +kernel, by decide⟩
theorem let_tail (f : Int) (c : Co) (h : Fit f c) : NoDig (c.letter ++ tailC f c) ∧ (∀ t, c.letter ++ tailC f c ≠ 46 :: t) ∧ letR (c.letter ++ tailC f c) = (c.letter, tailC f c) := by
  obtain ⟨d, t, e, h1, h2, h3⟩ := tail_head f c
  have hlt := h.lt
  match hl : c.letter, hlt with
  | [], _ =>
    rw [List.nil_append, e]
    refine ⟨fun x u hx => by injection hx with hx _; rw [← hx]; exact h1, fun u hx => by injection hx with hx _; exact h3 hx, ?_⟩
    simp [letR, h2]
  | [x], hlt =>
    have hx : isSmall x = true := hlt
    rw [List.singleton_append]
    refine ⟨fun y u hy => ?_, fun u hy => ?_, by simp [letR, hx]⟩
    · injection hy with hy _
      rw [← hy]
      cases hb : isDig x with
      | false => rfl
      | true => rw [dig_small x hb] at hx; cases hx
    · injection hy with hy _
      rw [hy] at hx
      revert hx
      decide +kernel
  | x :: y :: u, hlt => simp [letOk] at hlt
theorem dash_nodig (f : Int) (d : List UInt8) : NoDig (dashF f ++ d) := by
  intro c t e
  unfold dashF at e
  split at e
  · injection e with e _; rw [← e]; decide +kernel
  · injection e with e _; rw [← e]; decide +kernel
theorem pre_none (f : Int) (d : List UInt8) : preR f (dashF f ++ d) = some ([], 0, dashF f ++ d) := by
  unfold preR presL dashF
  by_cases hf : f = 3
  · subst hf
    simp [preStep, sgnB, List.isPrefixOf]
  · simp [preStep, sgnB, hf, List.isPrefixOf]
theorem pre_some (f : Int) (p d r : List UInt8) (n : Int) (h : p ∈ presL) (ht : takeR (d ++ r) = some (n, r)) : preR f (sgnB f :: (p ++ (d ++ r))) = some (p, n, r) := by
  simp only [presL, List.mem_cons, List.not_mem_nil, or_false] at h
  rcases h with rfl | rfl | rfl | rfl <;> simp [preR, presL, preStep, List.isPrefixOf, ht]
theorem rev_back (f : Int) (n : Int) (h : numOk n = true) : revR f (dashF f ++ decI n) = some n := by
  have hd : (dashF f).isPrefixOf (dashF f ++ decI n) = true := by
    rw [List.isPrefixOf_iff_prefix]
    exact ⟨_, rfl⟩
  have ht : takeR (decI n) = some (n, []) := by
    have := take_back n [] h (fun c t e => by cases e)
    rw [List.append_nil] at this
    exact this
  unfold revR
  rw [if_pos hd, List.drop_left, ht]
  rfl
theorem ref_text (f : Int) (hf : fmtOk f = true) (c : Co) (h : Fit f c) : refCand f (textC f c) = some c := by
  have ht : textC f c = epT f c ++ (numsT c.nums ++ (c.letter ++ tailC f c)) := by simp [textC, propT, tailC]
  obtain ⟨l1, l2, l3⟩ := let_tail f c h
  have hn := numsR_back c.nums (c.letter ++ tailC f c) [] h.nums h.n0 l1 l2
  have hpre : preR f (tailC f c) = some (c.pre, c.preNum, dashF f ++ decI c.rev) := by
    unfold tailC preT
    rcases h.pre with ⟨p1, p2⟩ | ⟨p1, p2⟩
    · rw [if_pos p1, List.nil_append, pre_none, p1, p2]
    · rw [if_neg p1, show (sgnB f :: (c.pre ++ decI c.preNum)) ++ (dashF f ++ decI c.rev) = sgnB f :: (c.pre ++ (decI c.preNum ++ (dashF f ++ decI c.rev))) by simp]
      exact pre_some f _ _ _ _ p2 (take_back _ _ h.pn (dash_nodig f _))
  have h58 : (58 : UInt8) ∉ numsT c.nums ++ (c.letter ++ tailC f c) := by
    have : numsT c.nums ++ (c.letter ++ tailC f c) = propT f c ++ (dashF f ++ decI c.rev) := by simp [propT, tailC]
    rw [this]
    intro hm
    rcases List.mem_append.1 hm with hm | hm
    · refine no_byte f c h 58 (by decide +kernel) (by decide) (by decide +kernel) ?_ hm
      unfold sgnB
      split <;> decide
    · rcases List.mem_append.1 hm with hm | hm
      · unfold dashF at hm
        split at hm
        · revert hm; decide
        · revert hm; decide
      · exact dec_no _ h.rev 58 (by decide +kernel) hm
  have hep : epLoop (textC f c) (textC f c) 0 (textC f c) = some (c.epoch, numsT c.nums ++ (c.letter ++ tailC f c)) := by
    by_cases he : f ≠ 3 ∧ c.epoch ≠ 0
    · have hx : textC f c = decI c.epoch ++ 58 :: (numsT c.nums ++ (c.letter ++ tailC f c)) := by rw [ht, epT, if_pos he]; simp
      have htk : takeR (textC f c) = some (c.epoch, 58 :: (numsT c.nums ++ (c.letter ++ tailC f c))) := by
        rw [hx]
        exact take_back _ _ h.ep (fun d t e => by injection e with e _; rw [← e]; decide +kernel)
      have := epLoop_at (textC f c) (decI c.epoch) (numsT c.nums ++ (c.letter ++ tailC f c)) 0 c.epoch (textC f c) _ (dec_no _ h.ep 58 (by decide +kernel)) h58 htk
      rw [← hx] at this
      exact this
    · have hx : textC f c = numsT c.nums ++ (c.letter ++ tailC f c) := by rw [ht, epT, if_neg he]; rfl
      have h0 : c.epoch = 0 := by
        by_cases hf3 : f = 3
        · exact (h.apk hf3).1
        · exact Classical.byContradiction fun hh => he ⟨hf3, hh⟩
      rw [epLoop_no _ _ _ _ (by rw [hx]; exact h58), h0, hx]
  unfold refCand
  rw [hep]
  show refNums f c.epoch (numsR _ []) = _
  rw [hn]
  show refTail f c.epoch ([] ++ c.nums) (letR _).1 (preR f (letR _).2) = _
  rw [l3, hpre]
  show (match revR f (dashF f ++ decI c.rev) with | none => none | some v => some (⟨c.epoch, [] ++ c.nums, c.letter, c.pre, c.preNum, v⟩ : Co)) = some c
  rw [rev_back f _ h.rev]
  rfl
/-- The document's way leads to the same core. -/
theorem ref_pa (f : Int) (s : List UInt8) : refPa f s = paC f s := by
  unfold refPa paC
  by_cases hv : vErr f s = 0
  · rw [if_pos hv, if_pos hv]
    by_cases hp : prC f (candC f s) = (s, 0)
    · rw [if_pos hp]
      obtain ⟨e, hf, hc, _, _⟩ := back_core f (candC f s) s hp
      have := ref_text f hf (candC f s) (fit_of f _ hc)
      rw [← e] at this
      rw [this]
      show (if prC f (candC f s) = (s, 0) then _ else _) = _
      rw [if_pos hp]
    · rw [if_neg hp]
      cases hr : refCand f s with
      | none => rfl
      | some c =>
        show (if prC f c = (s, 0) then _ else _) = _
        by_cases hc : prC f c = (s, 0)
        · obtain ⟨_, _, _, _, e⟩ := back_core f c s hc
          rw [e] at hp
          exact absurd hc hp
        · rw [if_neg hc]
  · rw [if_neg hv, if_neg hv]
end Go.Proofs.YtdfpdmddiapnmaaGreatDoor

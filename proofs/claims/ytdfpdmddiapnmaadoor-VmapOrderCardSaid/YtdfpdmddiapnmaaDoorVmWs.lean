/- The order of cores is that of their texts: the parts of a text. -/
import Derived.Test.YtdfpdmddiapnmaaDoorVmWr
namespace Go.Proofs.YtdfpdmddiapnmaaDoor
theorem ep_exact (f : Int) (hf : f ≠ 3) (c : Co) (h : Fit f c) : dEp (textC f c) = if c.epoch = 0 then [] else decI c.epoch := by
  have hr := rest58 f hf c h
  rw [text_eq1 f hf c]
  unfold epT
  by_cases he : c.epoch = 0
  · rw [if_neg (fun x => x.2 he), List.nil_append, if_pos he]
    unfold dEp
    rw [in_no _ _ hr]
    rfl
  · rw [if_pos ⟨hf, he⟩, List.append_assoc, List.singleton_append, if_neg he]
    obtain ⟨k0, k1, _⟩ := cut_at (decI c.epoch) (propT f c ++ 45 :: decI c.rev) 58 (dec_no _ h.ep 58 (by decide +kernel))
    unfold dEp
    rw [k0, if_pos rfl, k1]
theorem ep_val (f : Int) (hf : f ≠ 3) (c : Co) (h : Fit f c) : (∀ d ∈ dEp (textC f c), isDig d = true) ∧ (decNum (dEp (textC f c)) : Int) = c.epoch := by
  have he := h.ep
  simp only [numOk, Bool.and_eq_true, decide_eq_true_eq] at he
  rw [ep_exact f hf c h]
  by_cases e : c.epoch = 0
  · rw [if_pos e, e]; exact ⟨fun d hd => (by cases hd), rfl⟩
  · rw [if_neg e]
    refine ⟨(dec_num _ h.ep).dig, ?_⟩
    rw [decI, if_neg (by omega), (dec_facts c.epoch.toNat).2.2.1, Int.toNat_of_nonneg he.1]
theorem ep_cmp (f : Int) (hf : f ≠ 3) (x y : Co) (hx : Fit f x) (hy : Fit f y) : cmpN (dEp (textC f x)) (dEp (textC f y)) = cmpI x.epoch y.epoch := by
  obtain ⟨a1, a2⟩ := ep_val f hf x hx
  obtain ⟨b1, b2⟩ := ep_val f hf y hy
  rw [num_cmp _ _ a1 b1, a2, b2]
theorem part1 (c : Co) (h : Fit 1 c) : (vPart 1 (textC 1 c)).2.1 = propT 1 c ∧ (vPart 1 (textC 1 c)).2.2 = decI c.rev := by
  obtain ⟨h1, _⟩ := ep_cut 1 (by decide) c h
  obtain ⟨_, l2, l3⟩ := last_at (propT 1 c) (decI c.rev) (dec_no _ h.rev 45 (by decide +kernel))
  show dPr (dRest (textC 1 c)) = _ ∧ dRev (dRest (textC 1 c)) = _
  rw [h1]
  exact ⟨l2, l3⟩
theorem part2 (c : Co) (h : Fit 2 c) : (vPart 2 (textC 2 c)).2.1 = propT 2 c ∧ (vPart 2 (textC 2 c)).2.2 = decI c.rev := by
  obtain ⟨h1, _⟩ := ep_cut 2 (by decide) c h
  have hno : (45 : UInt8) ∉ propT 2 c := no_byte 2 c h 45 (by decide +kernel) (by decide) (by decide +kernel) (by decide +kernel)
  obtain ⟨_, l2, l3⟩ := cut_at (propT 2 c) (decI c.rev) 45 hno
  show cutA (dRest (textC 2 c)) 45 = _ ∧ cutB (dRest (textC 2 c)) 45 = _
  rw [h1]
  exact ⟨l2, l3⟩
/-- The pieces of a core's text of Apk. -/
def numPc (n : Int) : Pc := (6, decI n, 0)
def letPc (l : List UInt8) : List Pc := match l with
  | [] => []
  | d :: _ => [(5, [d], 0)]
def prePc (w : List UInt8) (k : Int) : List Pc := if w = [] then [] else [(0, w, wordI w), (3, decI k, 0)]
def endPc (c : Co) : List Pc := letPc c.letter ++ (prePc c.pre c.preNum ++ [(2, decI c.rev, 0), (1, [], 0)])
theorem cmpP_kind (p q : Pc) (h : p.1 < q.1) : cmpP p q = -1 := by
  unfold cmpP
  rw [if_neg (by omega)]
  exact cI_lt h
theorem cmpP_kind2 (p q : Pc) (h : q.1 < p.1) : cmpP p q = 1 := by
  unfold cmpP
  rw [if_neg (by omega)]
  exact cI_gt h
theorem cmpP_num (k : Int) (n m : Int) (h : k = 2 ∨ k = 3 ∨ k = 7 ∨ k = 6) (hn : numOk n = true) (hm : numOk m = true) : cmpP (k, decI n, 0) (k, decI m, 0) = cmpI n m := by
  have a := (dec_num n hn).nought
  have b := (dec_num m hm).nought
  unfold cmpP
  rw [if_pos rfl, if_neg (by simp only; omega), if_neg (by simp only [a, b]; simp; omega)]
  exact dec_cmp n m hn hm
theorem restPc (l m : List Int) (e e' : List Pc) (hl : l.all numOk = true) (hm : m.all numOk = true) (he : ∃ p t, e = p :: t ∧ p.1 ≤ 5) (he' : ∃ p t, e' = p :: t ∧ p.1 ≤ 5) :
    listC cmpP (l.map numPc ++ e) (m.map numPc ++ e') = if cmpNums l m = 0 then listC cmpP e e' else cmpNums l m := by
  induction l generalizing m with
  | nil =>
    cases m with
    | nil => rfl
    | cons b m =>
      obtain ⟨p, t, rfl, hp⟩ := he
      show (if cmpP p (numPc b) = 0 then _ else cmpP p (numPc b)) = _
      rw [cmpP_kind p (numPc b) (by show p.1 < 6; omega)]
      rfl
  | cons a l ih =>
    simp only [List.all_cons, Bool.and_eq_true] at hl
    cases m with
    | nil =>
      obtain ⟨p, t, rfl, hp⟩ := he'
      show (if cmpP (numPc a) p = 0 then _ else cmpP (numPc a) p) = _
      rw [cmpP_kind2 (numPc a) p (by show p.1 < 6; omega)]
      rfl
    | cons b m =>
      simp only [List.all_cons, Bool.and_eq_true] at hm
      show (if cmpP (numPc a) (numPc b) = 0 then listC cmpP (l.map numPc ++ e) (m.map numPc ++ e') else cmpP (numPc a) (numPc b)) = _
      rw [numPc, numPc, cmpP_num 6 a b (by omega) hl.1 hm.1, ih m hl.2 hm.2, cmpNums]
      by_cases h : cmpI a b = 0
      · rw [if_pos h, if_pos h]
      · rw [if_neg h, if_neg h, if_neg h]
def tailPc (r : Int) : List Pc := [(2, decI r, 0), (1, [], 0)]
theorem tailPc_cmp (r r' : Int) (h : numOk r = true) (h' : numOk r' = true) : listC cmpP (tailPc r) (tailPc r') = cmpI r r' := by
  have e1 : cmpP (1, [], 0) (1, [], 0) = 0 := by decide +kernel
  show (if cmpP (2, decI r, 0) (2, decI r', 0) = 0 then (if cmpP (1, [], 0) (1, [], 0) = 0 then 0 else cmpP (1, [], 0) (1, [], 0)) else cmpP (2, decI r, 0) (2, decI r', 0)) = _
  rw [cmpP_num 2 r r' (by omega) h h', e1]
  split
  · rename_i h0; rw [h0]; rfl
  · rfl
theorem wordI_rank (w : List UInt8) (h : w ∈ presL) : wordI w = preRank w := by
  rcases presL_mem w h with rfl | rfl | rfl | rfl
  · rw [rank_0]; decide +kernel
  · rw [rank_1]; decide +kernel
  · rw [rank_2]; decide +kernel
  · rw [rank_3]; decide +kernel
theorem prePc_cmp (w w' : List UInt8) (k k' r r' : Int) (h : PreR w k) (h' : PreR w' k') (hk : numOk k = true) (hk' : numOk k' = true) (hr : numOk r = true) (hr' : numOk r' = true) :
    listC cmpP (prePc w k ++ tailPc r) (prePc w' k' ++ tailPc r') = if cmpI (preRank w) (preRank w') = 0 then (if cmpI k k' = 0 then cmpI r r' else cmpI k k') else cmpI (preRank w) (preRank w') := by
  rcases h with ⟨rfl, rfl⟩ | ⟨hw, hm⟩ <;> rcases h' with ⟨rfl, rfl⟩ | ⟨hw', hm'⟩
  · rw [prePc, if_pos rfl, cmpI_same, cmpI_same, if_pos rfl, if_pos rfl, List.nil_append, List.nil_append, tailPc_cmp r r' hr hr']
  · obtain ⟨r1, r2⟩ := rank_in w' hm'
    rw [prePc, prePc, if_pos rfl, if_neg hw', rank_4, cI_gt (show preRank w' < 4 by omega)]
    show (if cmpP (2, decI r, 0) (0, w', wordI w') = 0 then _ else cmpP (2, decI r, 0) (0, w', wordI w')) = _
    rw [cmpP_kind2 _ _ (by show (0 : Int) < 2; omega)]
    rfl
  · obtain ⟨r1, r2⟩ := rank_in w hm
    rw [prePc, prePc, if_pos rfl, if_neg hw, rank_4, cI_lt (show preRank w < 4 by omega)]
    show (if cmpP (0, w, wordI w) (2, decI r', 0) = 0 then _ else cmpP (0, w, wordI w) (2, decI r', 0)) = _
    rw [cmpP_kind _ _ (by show (0 : Int) < 2; omega)]
    rfl
  · have ew : cmpP (0, w, wordI w) (0, w', wordI w') = cmpI (preRank w) (preRank w') := by
      unfold cmpP
      rw [if_pos rfl, if_pos (.inl rfl), wordI_rank w hm, wordI_rank w' hm']
    rw [prePc, prePc, if_neg hw, if_neg hw']
    show (if cmpP (0, w, wordI w) (0, w', wordI w') = 0 then (if cmpP (3, decI k, 0) (3, decI k', 0) = 0 then listC cmpP (tailPc r) (tailPc r') else cmpP (3, decI k, 0) (3, decI k', 0)) else cmpP (0, w, wordI w) (0, w', wordI w')) = _
    rw [ew, cmpP_num 3 k k' (by omega) hk hk', tailPc_cmp r r' hr hr']
theorem prePc_head (w : List UInt8) (k r : Int) : ∃ p t, prePc w k ++ tailPc r = p :: t ∧ p.1 ≤ 2 := by
  unfold prePc
  split
  · exact ⟨_, _, rfl, by show (2 : Int) ≤ 2; omega⟩
  · exact ⟨_, _, rfl, by show (0 : Int) ≤ 2; omega⟩
theorem letPc_cmp (l l' : List UInt8) (e e' : List Pc) (hl : letOk l = true) (hl' : letOk l' = true) (he : ∃ p t, e = p :: t ∧ p.1 ≤ 2) (he' : ∃ p t, e' = p :: t ∧ p.1 ≤ 2) :
    listC cmpP (letPc l ++ e) (letPc l' ++ e') = if cmpB l l' = 0 then listC cmpP e e' else cmpB l l' := by
  match l, l', hl, hl' with
  | [], [], _, _ => rfl
  | [], [d], _, hd =>
    obtain ⟨p, t, rfl, hp⟩ := he
    show (if cmpP p (5, [d], 0) = 0 then _ else cmpP p (5, [d], 0)) = _
    rw [cmpP_kind p (5, [d], 0) (by show p.1 < 5; omega)]
    rfl
  | [c], [], hc, _ =>
    obtain ⟨p, t, rfl, hp⟩ := he'
    show (if cmpP (5, [c], 0) p = 0 then _ else cmpP (5, [c], 0) p) = _
    rw [cmpP_kind2 (5, [c], 0) p (by show p.1 < 5; omega)]
    rfl
  | [c], [d], hc, hd =>
    have ec : cmpP (5, [c], 0) (5, [d], 0) = cmpB [c] [d] := by
      unfold cmpP
      rw [if_pos rfl, if_neg (by show ¬((5 : Int) = 0 ∨ (5 : Int) = 4); omega), if_pos (.inl rfl)]
    show (if cmpP (5, [c], 0) (5, [d], 0) = 0 then listC cmpP e e' else cmpP (5, [c], 0) (5, [d], 0)) = _
    rw [ec]
theorem endPc_eq (c : Co) : endPc c = letPc c.letter ++ (prePc c.pre c.preNum ++ tailPc c.rev) := rfl
theorem endPc_cmp (x y : Co) (hx : Fit 3 x) (hy : Fit 3 y) : listC cmpP (endPc x) (endPc y) = if endC x y = 0 then cmpI x.rev y.rev else endC x y := by
  rw [endPc_eq, endPc_eq, letPc_cmp _ _ _ _ hx.lt hy.lt (prePc_head _ _ _) (prePc_head _ _ _), prePc_cmp _ _ _ _ _ _ hx.pre hy.pre hx.pn hy.pn hx.rev hy.rev, endC]
  by_cases h1 : cmpB x.letter y.letter = 0
  · rw [if_pos h1, if_pos h1]
    by_cases h2 : cmpI (preRank x.pre) (preRank y.pre) = 0
    · rw [if_pos h2, if_pos h2]
    · rw [if_neg h2, if_neg h2, if_neg h2]
  · rw [if_neg h1, if_neg h1, if_neg h1]
/-- The pieces of a core. -/
def corePc (c : Co) : List Pc := match c.nums with
  | [] => []
  | n :: l => (7, decI n, 0) :: (l.map numPc ++ endPc c)
theorem endPc_head (c : Co) : ∃ p t, endPc c = p :: t ∧ p.1 ≤ 5 := by
  rw [endPc_eq]
  cases c.letter with
  | nil =>
    obtain ⟨p, t, e, hp⟩ := prePc_head c.pre c.preNum c.rev
    exact ⟨p, t, e, by omega⟩
  | cons d u => exact ⟨_, _, rfl, by show (5 : Int) ≤ 5; omega⟩
theorem corePc_cmp (x y : Co) (hx : Fit 3 x) (hy : Fit 3 y) : listC cmpP (corePc x) (corePc y) = if propC x y = 0 then cmpI x.rev y.rev else propC x y := by
  have he := endPc_cmp x y hx hy
  have hnx := hx.nums
  have hny := hy.nums
  unfold corePc propC
  cases hnx0 : x.nums with
  | nil => exact absurd hnx0 hx.n0
  | cons a l =>
    cases hny0 : y.nums with
    | nil => exact absurd hny0 hy.n0
    | cons b m =>
      rw [hnx0] at hnx
      rw [hny0] at hny
      simp only [List.all_cons, Bool.and_eq_true] at hnx hny
      show (if cmpP (7, decI a, 0) (7, decI b, 0) = 0 then listC cmpP (l.map numPc ++ endPc x) (m.map numPc ++ endPc y) else cmpP (7, decI a, 0) (7, decI b, 0)) = _
      rw [cmpP_num 7 a b (by omega) hnx.1 hny.1, restPc l m _ _ hnx.2 hny.2 (endPc_head x) (endPc_head y), he, cmpNums]
      by_cases h : cmpI a b = 0
      · rw [if_pos h, if_pos h]
        by_cases h2 : cmpNums l m = 0
        · rw [if_pos h2, if_pos h2]
        · rw [if_neg h2, if_neg h2, if_neg h2]
      · rw [if_neg h, if_neg h, if_neg h, if_neg h]
end Go.Proofs.YtdfpdmddiapnmaaDoor

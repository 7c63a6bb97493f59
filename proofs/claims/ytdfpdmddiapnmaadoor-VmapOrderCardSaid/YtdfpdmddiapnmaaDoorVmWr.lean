/- The order of cores is that of their texts: Rpm's order. -/
import Derived.Test.YtdfpdmddiapnmaaDoorVmW
namespace Go.Proofs.YtdfpdmddiapnmaaDoor
theorem skip_no (c : UInt8) (u : List UInt8) (h : idleC c = false) : skipR (c :: u) = c :: u := by
  simp [skipR, past, List.takeWhile_cons, h]
theorem skip_dot (u : List UInt8) : skipR (46 :: u) = skipR u := by
  have : idleC 46 = true := by decide
  simp [skipR, past, List.takeWhile_cons, this]
theorem skip_nil : skipR [] = [] := rfl
theorem cmpR_of (x y x' y' : List UInt8) (h : skipR x = skipR x') (h' : skipR y = skipR y') : cmpR x y = cmpR x' y' := by
  conv => lhs; rw [cmpR]
  conv => rhs; rw [cmpR]
  simp only [h, h']
theorem cR_ne (x y : List UInt8) (h : cmpI (cls (skipR x)) (cls (skipR y)) ≠ 0) : cmpR x y = cmpI (cls (skipR x)) (cls (skipR y)) := by
  rw [cmpR, dif_neg h]
theorem cmpR_nil : cmpR [] [] = 0 := by
  rw [cmpR, dif_pos (by decide), dif_pos (by decide)]
theorem dig_idle (c : UInt8) (h : isDig c = true) : idleC c = false := by simp [idleC, h]
theorem dig_cls (c : UInt8) (h : isDig c = true) : clsC c = 3 := by
  have h1 : c ≠ 126 := fun e => by subst e; simp [isDig] at h
  have h2 : c ≠ 94 := fun e => by subst e; simp [isDig] at h
  have h3 : isLet c = false := by
    simp only [isDig, Bool.and_eq_true, decide_eq_true_eq] at h
    simp only [isLet, isSmall, isBig, Bool.or_eq_false_iff, Bool.and_eq_false_iff, decide_eq_false_iff_not]
    omega
  simp [clsC, h1, h2, h3]
theorem small_idle (c : UInt8) (h : isSmall c = true) : idleC c = false := by simp [idleC, isLet, h]
theorem small_cls (c : UInt8) (h : isSmall c = true) : clsC c = 2 := by
  have hh := h
  simp only [isSmall, Bool.and_eq_true, decide_eq_true_eq] at h
  have h1 : c ≠ 126 := fun e => by subst e; simp at h
  have h2 : c ≠ 94 := fun e => by subst e; simp at h
  simp [clsC, h1, h2, isLet, hh]
theorem digR (a u : List UInt8) (h0 : a ≠ []) (h : ∀ c ∈ a, isDig c = true) : skipR (a ++ u) = a ++ u ∧ cls (a ++ u) = 3 := by
  cases a with
  | nil => exact absurd rfl h0
  | cons c t => exact ⟨skip_no _ _ (dig_idle c (h c (by simp))), dig_cls c (h c (by simp))⟩
theorem cmpR_num (a b u v : List UInt8) (a0 : a ≠ []) (b0 : b ≠ []) (ha : ∀ c ∈ a, isDig c = true) (hb : ∀ c ∈ b, isDig c = true) (hu : NoDig u) (hv : NoDig v) :
    cmpR (a ++ u) (b ++ v) = if cmpN a b = 0 then cmpR u v else cmpN a b := by
  obtain ⟨s1, c1⟩ := digR a u a0 ha
  obtain ⟨s2, c2⟩ := digR b v b0 hb
  obtain ⟨d1, d2⟩ := digs_app a u ha hu
  obtain ⟨d3, d4⟩ := digs_app b v hb hv
  rw [cmpR, s1, s2, dif_pos (by rw [c1, c2]; exact cmpI_same _), dif_neg (by omega), dif_neg (by omega), dif_pos c1, d1, d2, d3, d4]
structure EndR (e : List UInt8) : Prop where
  nodig : NoDig e
  cl : cls (skipR e) < 3
theorem restR (l m : List Int) (e e' : List UInt8) (hl : l.all numOk = true) (hm : m.all numOk = true) (he : EndR e) (he' : EndR e') :
    cmpR (restT l e) (restT m e') = if cmpNums l m = 0 then cmpR e e' else cmpNums l m := by
  induction l generalizing m with
  | nil =>
    cases m with
    | nil => rfl
    | cons b m =>
      simp only [List.all_cons, Bool.and_eq_true] at hm
      have nb := dec_num b hm.1
      obtain ⟨s2, c2⟩ := digR (decI b) (restT m e') nb.ne nb.dig
      have h1 := he.cl
      have hc : cls (skipR (46 :: (decI b ++ restT m e'))) = 3 := by rw [skip_dot, s2, c2]
      rw [restT, restT, cR_ne _ _ (by rw [hc, cI_lt h1]; omega), hc, cI_lt h1]
      rfl
  | cons a l ih =>
    simp only [List.all_cons, Bool.and_eq_true] at hl
    have na := dec_num a hl.1
    obtain ⟨s1, c1⟩ := digR (decI a) (restT l e) na.ne na.dig
    cases m with
    | nil =>
      have h1 := he'.cl
      have hc : cls (skipR (46 :: (decI a ++ restT l e))) = 3 := by rw [skip_dot, s1, c1]
      rw [restT, restT, cR_ne _ _ (by rw [hc, cI_gt h1]; omega), hc, cI_gt h1]
      rfl
    | cons b m =>
      simp only [List.all_cons, Bool.and_eq_true] at hm
      have nb := dec_num b hm.1
      rw [restT, restT, cmpR_of _ _ _ _ (skip_dot _) (skip_dot _),
        cmpR_num _ _ _ _ na.ne nb.ne na.dig nb.dig (rest_nodig _ _ he.nodig) (rest_nodig _ _ he'.nodig), dec_cmp a b hl.1 hm.1, ih m hl.2 hm.2, cmpNums]
      by_cases h : cmpI a b = 0
      · rw [if_pos h, if_pos h]
      · rw [if_neg h, if_neg h, if_neg h]
/-- What is ahead of a release begins with no letter. -/
def NoLet (p : List UInt8) : Prop := ∀ c t, p = c :: t → isLet c = false
theorem lets_app (d r : List UInt8) (h : ∀ c ∈ d, isSmall c = true) (hr : NoLet r) : lets (d ++ r) = d ∧ past isLet (d ++ r) = r := by
  have hh : (d ++ r).takeWhile isLet = d := by
    induction d with
    | nil =>
      cases r with
      | nil => rfl
      | cons c t => rw [List.nil_append, List.takeWhile_cons, if_neg (by rw [hr c t rfl]; simp)]
    | cons c d ih =>
      rw [List.cons_append, List.takeWhile_cons, if_pos (by simp [isLet, h c (by simp)]), ih fun x hx => h x (by simp [hx])]
  exact ⟨hh, by rw [past, hh]; simp⟩
theorem cmpR_let (a b u v : List UInt8) (a0 : a ≠ []) (b0 : b ≠ []) (ha : ∀ c ∈ a, isSmall c = true) (hb : ∀ c ∈ b, isSmall c = true) (hu : NoLet u) (hv : NoLet v) :
    cmpR (a ++ u) (b ++ v) = if cmpB a b = 0 then cmpR u v else cmpB a b := by
  have key : ∀ (a u : List UInt8), a ≠ [] → (∀ c ∈ a, isSmall c = true) → skipR (a ++ u) = a ++ u ∧ cls (a ++ u) = 2 := by
    intro a u h0 h
    cases a with
    | nil => exact absurd rfl h0
    | cons c t => exact ⟨skip_no _ _ (small_idle c (h c (by simp))), small_cls c (h c (by simp))⟩
  obtain ⟨s1, c1⟩ := key a u a0 ha
  obtain ⟨s2, c2⟩ := key b v b0 hb
  obtain ⟨d1, d2⟩ := lets_app a u ha hu
  obtain ⟨d3, d4⟩ := lets_app b v hb hv
  rw [cmpR, s1, s2, dif_pos (by rw [c1, c2]; exact cmpI_same _), dif_neg (by omega), dif_pos c1, d1, d2, d3, d4]
theorem preX_r (w : List UInt8) (k : Int) : cls (skipR (preX 126 w k)) ≤ 0 ∧ NoLet (preX 126 w k) := by
  unfold preX
  split
  · exact ⟨by decide, fun c t h => by cases h⟩
  · refine ⟨?_, fun c t h => by injection h with h _; rw [← h]; rfl⟩
    rw [skip_no _ _ (by decide)]
    show (-1 : Int) ≤ 0
    omega
theorem letRp (l l' p p' : List UInt8) (hl : letOk l = true) (hl' : letOk l' = true) (hp : cls (skipR p) ≤ 0 ∧ NoLet p) (hp' : cls (skipR p') ≤ 0 ∧ NoLet p') :
    cmpR (l ++ p) (l' ++ p') = if cmpB l l' = 0 then cmpR p p' else cmpB l l' := by
  match l, l', hl, hl' with
  | [], [], _, _ => rfl
  | [], [d], _, hd =>
    have hs : skipR (d :: p') = d :: p' := skip_no _ _ (small_idle d hd)
    have hc : cls (d :: p') = 2 := small_cls d hd
    show cmpR p (d :: p') = _
    have := hp.1
    rw [cR_ne _ _ (by rw [hs, hc, cI_lt (by omega)]; omega), hs, hc, cI_lt (by omega)]
    rfl
  | [c], [], hc, _ =>
    have hs : skipR (c :: p) = c :: p := skip_no _ _ (small_idle c hc)
    have hcc : cls (c :: p) = 2 := small_cls c hc
    show cmpR (c :: p) p' = _
    have := hp'.1
    rw [cR_ne _ _ (by rw [hs, hcc, cI_gt (by omega)]; omega), hs, hcc, cI_gt (by omega)]
    rfl
  | [c], [d], hc, hd =>
    exact cmpR_let [c] [d] p p' (by simp) (by simp) (fun x hx => by simp at hx; subst hx; exact hc) (fun x hx => by simp at hx; subst hx; exact hd) hp.2 hp'.2
theorem decR (k k' : Int) (hk : numOk k = true) (hk' : numOk k' = true) : cmpR (decI k) (decI k') = cmpI k k' := by
  have na := dec_num k hk
  have nb := dec_num k' hk'
  have := cmpR_num (decI k) (decI k') [] [] na.ne nb.ne na.dig nb.dig (fun c t h => by cases h) (fun c t h => by cases h)
  rw [List.append_nil, List.append_nil, dec_cmp k k' hk hk', cmpR_nil] at this
  rw [this]
  split
  · rename_i h; exact h.symm
  · rfl
theorem dec_nolet (k : Int) (hk : numOk k = true) : NoLet (decI k) := fun c t h => by
  have := (dec_num k hk).dig c (by rw [h]; simp)
  simp only [isDig, Bool.and_eq_true, decide_eq_true_eq] at this
  simp only [isLet, isSmall, isBig, Bool.or_eq_false_iff, Bool.and_eq_false_iff, decide_eq_false_iff_not]
  omega
theorem words_rank (w w' : List UInt8) (h : w ∈ presL) (h' : w' ∈ presL) : cmpB w w' = cmpI (preRank w) (preRank w') := by
  rcases presL_mem w h with rfl | rfl | rfl | rfl <;> rcases presL_mem w' h' with rfl | rfl | rfl | rfl <;>
    (simp only [rank_0, rank_1, rank_2, rank_3]; decide +kernel)
theorem preRp (w w' : List UInt8) (k k' : Int) (h : PreR w k) (h' : PreR w' k') (hk : numOk k = true) (hk' : numOk k' = true) :
    cmpR (preX 126 w k) (preX 126 w' k') = if cmpI (preRank w) (preRank w') = 0 then cmpI k k' else cmpI (preRank w) (preRank w') := by
  have hs : ∀ u, skipR (126 :: u) = 126 :: u := fun u => skip_no _ _ (by decide)
  have hc : ∀ u, cls (126 :: u) = -1 := fun u => rfl
  have h0 : cls (skipR []) = 0 := rfl
  rcases h with ⟨rfl, rfl⟩ | ⟨hw, hm⟩ <;> rcases h' with ⟨rfl, rfl⟩ | ⟨hw', hm'⟩
  · rw [preX, if_pos rfl, cmpI_same, cmpI_same, if_pos rfl, cmpR_nil]
  · obtain ⟨r1, r2⟩ := rank_in w' hm'
    rw [preX, preX, if_pos rfl, if_neg hw', cR_ne _ _ (by rw [hs, hc, h0]; decide), hs, hc, h0, rank_4, cI_gt (show preRank w' < 4 by omega)]
    rfl
  · obtain ⟨r1, r2⟩ := rank_in w hm
    rw [preX, preX, if_pos rfl, if_neg hw, cR_ne _ _ (by rw [hs, hc, h0]; decide), hs, hc, h0, rank_4, cI_lt (show preRank w < 4 by omega)]
    rfl
  · rw [preX, preX, if_neg hw, if_neg hw', cmpR, hs, hs, hc, hc, dif_pos (cmpI_same _), dif_neg (by omega), dif_neg (by omega), dif_neg (by omega), List.tail_cons, List.tail_cons,
      cmpR_let w w' _ _ hw hw' (pres_smallM w hm) (pres_smallM w' hm') (dec_nolet k hk) (dec_nolet k' hk'), decR k k' hk hk', words_rank w w' hm hm']
theorem end_okR (l w : List UInt8) (k : Int) (hl : letOk l = true) : EndR (l ++ preX 126 w k) := by
  refine ⟨(end_ok l w k hl).nodig, ?_⟩
  match l, hl with
  | [], _ => have := (preX_r w k).1; rw [List.nil_append]; omega
  | [d], hd =>
    show cls (skipR (d :: preX 126 w k)) < 3
    rw [skip_no _ _ (small_idle d hd)]
    show clsC d < 3
    rw [small_cls d hd]; omega
theorem propRp (x y : Co) (hx : Fit 2 x) (hy : Fit 2 y) : cmpR (propT 2 x) (propT 2 y) = propC x y := by
  have hpx : PreR x.pre x.preNum := hx.pre
  have hpy : PreR y.pre y.preNum := hy.pre
  have he : cmpR (x.letter ++ preX 126 x.pre x.preNum) (y.letter ++ preX 126 y.pre y.preNum) = endC x y := by
    rw [letRp _ _ _ _ hx.lt hy.lt (preX_r _ _) (preX_r _ _), preRp _ _ _ _ hpx hpy hx.pn hy.pn, endC]
  have ox := end_okR x.letter x.pre x.preNum hx.lt
  have oy := end_okR y.letter y.pre y.preNum hy.lt
  have hnx := hx.nums
  have hny := hy.nums
  unfold propT propC
  rw [preX_eq, preX_eq]
  show cmpR (numsT x.nums ++ (x.letter ++ preX 126 x.pre x.preNum)) (numsT y.nums ++ (y.letter ++ preX 126 y.pre y.preNum)) = _
  cases hnx0 : x.nums with
  | nil => exact absurd hnx0 hx.n0
  | cons a l =>
    cases hny0 : y.nums with
    | nil => exact absurd hny0 hy.n0
    | cons b m =>
      rw [hnx0] at hnx
      rw [hny0] at hny
      simp only [List.all_cons, Bool.and_eq_true] at hnx hny
      have na := dec_num a hnx.1
      have nb := dec_num b hny.1
      rw [numsT_rest, numsT_rest, cmpR_num _ _ _ _ na.ne nb.ne na.dig nb.dig (rest_nodig _ _ ox.nodig) (rest_nodig _ _ oy.nodig), dec_cmp a b hnx.1 hny.1, restR l m _ _ hnx.2 hny.2 ox oy, he, cmpNums]
      by_cases h : cmpI a b = 0
      · rw [if_pos h, if_pos h]
      · rw [if_neg h, if_neg h, if_neg h]
end Go.Proofs.YtdfpdmddiapnmaaDoor

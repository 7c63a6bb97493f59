/- The order of cores is that of their texts: numbers, and Dpkg's order. -/
import Derived.Test.YtdfpdmddiapnmaaDoorVmU
namespace Go.Proofs.YtdfpdmddiapnmaaDoor
theorem val_eq (l : List UInt8) (n : Nat) : l.foldl (fun n c => 10 * n + (c.toNat - 48)) n = n * 10 ^ l.length + decNum l := by
  induction l generalizing n with
  | nil => simp [decNum]
  | cons c l ih =>
    have e1 : decNum (c :: l) = (c.toNat - 48) * 10 ^ l.length + decNum l := by
      have := ih (10 * 0 + (c.toNat - 48))
      simp only [Nat.mul_zero, Nat.zero_add] at this
      rw [← this]
      simp [decNum]
    rw [List.foldl_cons, ih, e1, List.length_cons, Nat.pow_succ]
    have : (10 * n + (c.toNat - 48)) * 10 ^ l.length = n * (10 ^ l.length * 10) + (c.toNat - 48) * 10 ^ l.length := by
      rw [Nat.add_mul, Nat.mul_comm 10 n, Nat.mul_assoc, Nat.mul_comm 10]
    omega
theorem val_cons (c : UInt8) (l : List UInt8) : decNum (c :: l) = (c.toNat - 48) * 10 ^ l.length + decNum l := by
  rw [decNum, List.foldl_cons, val_eq]; simp
theorem val_lt (l : List UInt8) (h : ∀ c ∈ l, isDig c = true) : decNum l < 10 ^ l.length := by
  induction l with
  | nil => simp [decNum]
  | cons c l ih =>
    have h1 := ih fun d hd => h d (by simp [hd])
    have h2 := h c (by simp)
    simp only [isDig, Bool.and_eq_true, decide_eq_true_eq] at h2
    rw [val_cons, List.length_cons, Nat.pow_succ]
    have : (c.toNat - 48) * 10 ^ l.length ≤ 9 * 10 ^ l.length := Nat.mul_le_mul_right _ (by omega)
    omega
theorem cmpI_add (k x y : Nat) : cmpI ((k + x : Nat) : Int) ((k + y : Nat) : Int) = cmpI (x : Int) (y : Int) := by
  unfold cmpI
  by_cases h1 : x < y
  · rw [if_pos (by omega), if_pos (by omega)]
  · by_cases h2 : y < x
    · rw [if_neg (by omega), if_pos (by omega), if_neg (by omega), if_pos (by omega)]
    · rw [if_neg (by omega), if_neg (by omega), if_neg (by omega), if_neg (by omega)]
theorem cI_lt {x y : Int} (h : x < y) : cmpI x y = -1 := by unfold cmpI; rw [if_pos h]
theorem cI_gt {x y : Int} (h : y < x) : cmpI x y = 1 := by unfold cmpI; rw [if_neg (by omega), if_pos h]
theorem same_len : ∀ (a b : List UInt8), (∀ c ∈ a, isDig c = true) → (∀ c ∈ b, isDig c = true) → a.length = b.length → cmpB a b = cmpI (decNum a) (decNum b)
  | [], [], _, _, _ => rfl
  | [], _ :: _, _, _, h => by simp at h
  | _ :: _, [], _, _, h => by simp at h
  | c :: u, d :: v, ha, hb, hl => by
    have hl : u.length = v.length := by simpa using hl
    have ih := same_len u v (fun x hx => ha x (by simp [hx])) (fun x hx => hb x (by simp [hx])) hl
    have h1 := ha c (by simp)
    have h2 := hb d (by simp)
    simp only [isDig, Bool.and_eq_true, decide_eq_true_eq] at h1 h2
    have hu := val_lt u fun x hx => ha x (by simp [hx])
    have hv := val_lt v fun x hx => hb x (by simp [hx])
    rw [val_cons, val_cons, hl, cmpB]
    rw [hl] at hu
    by_cases e : c = d
    · subst e
      rw [if_pos rfl, ih, cmpI_add]
    · rw [if_neg e]
      have hne : c.toNat ≠ d.toNat := fun h => e (UInt8.toNat_inj.1 h)
      by_cases h3 : c.toNat < d.toNat
      · rw [if_pos h3, cI_lt]
        have : (c.toNat - 48 + 1) * 10 ^ v.length ≤ (d.toNat - 48) * 10 ^ v.length := Nat.mul_le_mul_right _ (by omega)
        rw [Nat.add_mul] at this
        omega
      · rw [if_neg h3, cI_gt]
        have : (d.toNat - 48 + 1) * 10 ^ v.length ≤ (c.toNat - 48) * 10 ^ v.length := Nat.mul_le_mul_right _ (by omega)
        rw [Nat.add_mul] at this
        omega
theorem cut0_facts (a : List UInt8) (h : ∀ c ∈ a, isDig c = true) : decNum (cut0 a) = decNum a ∧ (∀ c ∈ cut0 a, isDig c = true) ∧ (cut0 a = [] ∨ 10 ^ ((cut0 a).length - 1) ≤ decNum (cut0 a)) := by
  induction a with
  | nil => exact ⟨rfl, h, .inl rfl⟩
  | cons c a ih =>
    obtain ⟨i1, i2, i3⟩ := ih fun d hd => h d (by simp [hd])
    by_cases e : c = 48
    · subst e
      have hc : cut0 (48 :: a) = cut0 a := by simp [cut0, List.dropWhile_cons]
      rw [hc]
      refine ⟨?_, i2, i3⟩
      rw [i1, val_cons]
      simp
    · have hc : cut0 (c :: a) = c :: a := by simp [cut0, List.dropWhile_cons, e]
      rw [hc]
      refine ⟨rfl, h, .inr ?_⟩
      have h1 := h c (by simp)
      simp only [isDig, Bool.and_eq_true, decide_eq_true_eq] at h1
      have hne : c.toNat ≠ 48 := fun h => e (UInt8.toNat_inj.1 (by simpa using h))
      rw [val_cons]
      have : 1 * 10 ^ a.length ≤ (c.toNat - 48) * 10 ^ a.length := Nat.mul_le_mul_right _ (by omega)
      simp only [List.length_cons, Nat.add_sub_cancel]
      omega
theorem num_cmp (a b : List UInt8) (ha : ∀ c ∈ a, isDig c = true) (hb : ∀ c ∈ b, isDig c = true) : cmpN a b = cmpI (decNum a) (decNum b) := by
  obtain ⟨a1, a2, a3⟩ := cut0_facts a ha
  obtain ⟨b1, b2, b3⟩ := cut0_facts b hb
  rw [← a1, ← b1, cmpN]
  have la := val_lt _ a2
  have lb := val_lt _ b2
  generalize cut0 a = x at a2 a3 la ⊢
  generalize cut0 b = y at b2 b3 lb ⊢
  by_cases h : x.length = y.length
  · rw [h, cmpI_same, if_pos rfl, same_len x y a2 b2 h]
  · by_cases h1 : x.length < y.length
    · have e1 : cmpI (x.length : Int) (y.length : Int) = -1 := cI_lt (by omega)
      rw [e1, if_neg (by omega)]
      rcases b3 with rfl | b3
      · simp at h1
      · have := Nat.pow_le_pow_right (n := 10) (by omega) (show x.length ≤ y.length - 1 by omega)
        rw [cI_lt (by omega)]
    · have e1 : cmpI (x.length : Int) (y.length : Int) = 1 := cI_gt (by omega)
      rw [e1, if_neg (by omega)]
      rcases a3 with rfl | a3
      · have h1 : ¬ 0 < y.length := h1
        have h : ¬ 0 = y.length := h
        omega
      · have := Nat.pow_le_pow_right (n := 10) (by omega) (show y.length ≤ x.length - 1 by omega)
        rw [cI_gt (by omega)]
theorem dec_cmp (n m : Int) (hn : numOk n = true) (hm : numOk m = true) : cmpN (decI n) (decI m) = cmpI n m := by
  simp only [numOk, Bool.and_eq_true, decide_eq_true_eq] at hn hm
  have e1 : decI n = Lib.decDigits n.toNat := by rw [decI, if_neg (by omega)]
  have e2 : decI m = Lib.decDigits m.toNat := by rw [decI, if_neg (by omega)]
  obtain ⟨_, a2, a3, _⟩ := dec_facts n.toNat
  obtain ⟨_, b2, b3, _⟩ := dec_facts m.toNat
  rw [e1, e2, num_cmp _ _ (fun c hc => List.all_eq_true.1 a2 c hc) (fun c hc => List.all_eq_true.1 b2 c hc), a3, b3]
  rw [Int.toNat_of_nonneg hn.1, Int.toNat_of_nonneg hm.1]
theorem cmpD_ord (a b : List UInt8) (h : ordD a ≠ 0 ∨ ordD b ≠ 0) : cmpD a b = if cmpI (ordD a) (ordD b) = 0 then cmpD a.tail b.tail else cmpI (ordD a) (ordD b) := by
  rw [cmpD, if_neg (by rintro ⟨rfl, rfl⟩; simp [ordD] at h), dif_pos h]
  split <;> rfl
theorem cmpD_nil : cmpD [] [] = 0 := by rw [cmpD, if_pos ⟨rfl, rfl⟩]
theorem ordD_dig (a u : List UInt8) (h0 : a ≠ []) (h : ∀ c ∈ a, isDig c = true) : ordD (a ++ u) = 0 := by
  cases a with
  | nil => exact absurd rfl h0
  | cons c t => simp [ordD, ordC, h c (by simp)]
theorem cD_num (a b u v : List UInt8) (a0 : a ≠ []) (b0 : b ≠ []) (ha : ∀ c ∈ a, isDig c = true) (hb : ∀ c ∈ b, isDig c = true) (hu : NoDig u) (hv : NoDig v) :
    cmpD (a ++ u) (b ++ v) = if cmpN a b = 0 then cmpD u v else cmpN a b := by
  have ea := ordD_dig a u a0 ha
  have eb := ordD_dig b v b0 hb
  obtain ⟨d1, d2⟩ := digs_app a u ha hu
  obtain ⟨d3, d4⟩ := digs_app b v hb hv
  rw [cmpD, if_neg (by rintro ⟨h, _⟩; exact a0 (List.append_eq_nil_iff.1 h).1), dif_neg (by rw [ea, eb]; simp), d1, d2, d3, d4]
/-- The rest of a version's numbers, and what follows. -/
def restT : List Int → List UInt8 → List UInt8
  | [], e => e
  | n :: l, e => 46 :: (decI n ++ restT l e)
theorem numsT_rest (n : Int) (l : List Int) (e : List UInt8) : numsT (n :: l) ++ e = decI n ++ restT l e := by
  induction l generalizing n with
  | nil => rw [numsT_one]; rfl
  | cons m l ih => rw [numsT_cons, restT, List.append_assoc, List.cons_append, ih]
theorem rest_nodig (l : List Int) (e : List UInt8) (h : NoDig e) : NoDig (restT l e) := by
  cases l with
  | nil => exact h
  | cons n l => intro c t hc; injection hc with hc _; rw [← hc]; rfl
/-- What follows a version's numbers, so far as the order sees it. -/
structure EndD (e : List UInt8) : Prop where
  nodig : NoDig e
  ord : ordD e < 302
theorem ord_dot (u : List UInt8) : ordD (46 :: u) = 302 := rfl
theorem restD (l m : List Int) (e e' : List UInt8) (hl : l.all numOk = true) (hm : m.all numOk = true) (he : EndD e) (he' : EndD e') :
    cmpD (restT l e) (restT m e') = if cmpNums l m = 0 then cmpD e e' else cmpNums l m := by
  induction l generalizing m with
  | nil =>
    cases m with
    | nil => rfl
    | cons b m =>
      have h1 := he.ord
      rw [restT, restT, cmpD_ord _ _ (.inr (by rw [ord_dot]; omega)), ord_dot, cI_lt h1]
      rfl
  | cons a l ih =>
    cases m with
    | nil =>
      have h1 := he'.ord
      rw [restT, restT, cmpD_ord _ _ (.inl (by rw [ord_dot]; omega)), ord_dot, cI_gt h1]
      rfl
    | cons b m =>
      simp only [List.all_cons, Bool.and_eq_true] at hl hm
      have na := dec_num a hl.1
      have nb := dec_num b hm.1
      rw [restT, restT, cmpD_ord _ _ (.inl (by rw [ord_dot]; omega)), ord_dot, ord_dot, cmpI_same, if_pos rfl, List.tail_cons, List.tail_cons,
        cD_num _ _ _ _ na.ne nb.ne na.dig nb.dig (rest_nodig _ _ he.nodig) (rest_nodig _ _ he'.nodig), dec_cmp a b hl.1 hm.1, ih m hl.2 hm.2, cmpNums]
      by_cases h : cmpI a b = 0
      · rw [if_pos h, if_pos h]
      · rw [if_neg h, if_neg h, if_neg h]
theorem ord_small (c : UInt8) (u : List UInt8) (h : isSmall c = true) : ordD (c :: u) = c.toNat ∧ 97 ≤ c.toNat ∧ c.toNat ≤ 122 := by
  have hs := h
  simp only [isSmall, Bool.and_eq_true, decide_eq_true_eq] at h
  refine ⟨?_, h.1, h.2⟩
  have hd : isDig c = false := by simp only [isDig, Bool.and_eq_false_iff, decide_eq_false_iff_not]; omega
  have ht : c ≠ 126 := fun e => by subst e; simp at h
  simp [ordD, ordC, hd, ht, isLet, hs]
/-- A letter or none, and what follows. -/
theorem letD (l l' p p' : List UInt8) (hl : letOk l = true) (hl' : letOk l' = true) (hp : ordD p ≤ 0) (hp' : ordD p' ≤ 0) :
    cmpD (l ++ p) (l' ++ p') = if cmpB l l' = 0 then cmpD p p' else cmpB l l' := by
  match l, l', hl, hl' with
  | [], [], _, _ => rfl
  | [], [d], _, hd =>
    obtain ⟨o1, o2, _⟩ := ord_small d p' hd
    show cmpD p (d :: p') = _
    rw [cmpD_ord _ _ (.inr (by omega)), o1, cI_lt (by omega)]
    rfl
  | [c], [], hc, _ =>
    obtain ⟨o1, o2, _⟩ := ord_small c p hc
    show cmpD (c :: p) p' = _
    rw [cmpD_ord _ _ (.inl (by omega)), o1, cI_gt (by omega)]
    rfl
  | [c], [d], hc, hd =>
    obtain ⟨o1, o2, _⟩ := ord_small c p hc
    obtain ⟨o3, o4, _⟩ := ord_small d p' hd
    show cmpD (c :: p) (d :: p') = _
    rw [cmpD_ord _ _ (.inl (by omega)), o1, o3, List.tail_cons, List.tail_cons]
    by_cases e : c = d
    · subst e
      rw [cmpI_same, if_pos rfl]
      simp [cmpB]
    · have hne : c.toNat ≠ d.toNat := fun h => e (UInt8.toNat_inj.1 h)
      by_cases h : c.toNat < d.toNat
      · rw [cI_lt (by omega)]
        simp [cmpB, e, h]
      · rw [cI_gt (by omega)]
        simp [cmpB, e, h]
theorem stripD (w u v : List UInt8) (h : ∀ c ∈ w, isSmall c = true) : cmpD (w ++ u) (w ++ v) = cmpD u v := by
  induction w with
  | nil => rfl
  | cons c w ih =>
    obtain ⟨o1, o2, _⟩ := ord_small c (w ++ u) (h c (by simp))
    obtain ⟨o3, _⟩ := ord_small c (w ++ v) (h c (by simp))
    rw [List.cons_append, List.cons_append, cmpD_ord _ _ (.inl (by omega)), o1, o3, cmpI_same, if_pos rfl]
    exact ih fun d hd => h d (by simp [hd])
theorem headsD (c d : UInt8) (u v : List UInt8) (hc : isSmall c = true) (hd : isSmall d = true) (h : c ≠ d) : cmpD (c :: u) (d :: v) = cmpI c.toNat d.toNat := by
  obtain ⟨o1, o2, _⟩ := ord_small c u hc
  obtain ⟨o3, _⟩ := ord_small d v hd
  have hne : ¬ cmpI (c.toNat : Int) (d.toNat : Int) = 0 := fun e => h (UInt8.toNat_inj.1 (by have := cmpI_zero e; omega))
  rw [cmpD_ord _ _ (.inl (by omega)), o1, o3, if_neg hne]
/-- What is ahead of a release, as it is written. -/
def preX (s : UInt8) (w : List UInt8) (k : Int) : List UInt8 := if w = [] then [] else s :: (w ++ decI k)
theorem preX_eq (f : Int) (c : Co) : preT f c = preX (sgnB f) c.pre c.preNum := rfl
def PreR (w : List UInt8) (k : Int) : Prop := (w = [] ∧ k = 0) ∨ (w ≠ [] ∧ w ∈ presL)
theorem presL_mem (w : List UInt8) (h : w ∈ presL) : w = [97, 108, 112, 104, 97] ∨ w = [98, 101, 116, 97] ∨ w = [112, 114, 101] ∨ w = [114, 99] := by
  simpa [presL] using h
theorem rank_0 : preRank [97, 108, 112, 104, 97] = 0 := by decide +kernel
theorem rank_1 : preRank [98, 101, 116, 97] = 1 := by decide +kernel
theorem rank_2 : preRank [112, 114, 101] = 2 := by decide +kernel
theorem rank_3 : preRank [114, 99] = 3 := by decide +kernel
theorem rank_4 : preRank [] = 4 := by decide +kernel
theorem rank_in (w : List UInt8) (h : w ∈ presL) : 0 ≤ preRank w ∧ preRank w ≤ 3 := by
  rcases presL_mem w h with rfl | rfl | rfl | rfl
  · rw [rank_0]; omega
  · rw [rank_1]; omega
  · rw [rank_2]; omega
  · rw [rank_3]; omega
theorem pres_smallM (w : List UInt8) (h : w ∈ presL) : ∀ c ∈ w, isSmall c = true := fun c hc => List.all_eq_true.1 (List.all_eq_true.1 pres_small w h) c hc
theorem decD (k k' : Int) (hk : numOk k = true) (hk' : numOk k' = true) : cmpD (decI k) (decI k') = cmpI k k' := by
  have na := dec_num k hk
  have nb := dec_num k' hk'
  have := cD_num (decI k) (decI k') [] [] na.ne nb.ne na.dig nb.dig (fun c t h => by cases h) (fun c t h => by cases h)
  rw [List.append_nil, List.append_nil, dec_cmp k k' hk hk', cmpD_nil] at this
  rw [this]
  split
  · rename_i h; exact h.symm
  · rfl
theorem wordsD (w w' u v : List UInt8) (h : w ∈ presL) (h' : w' ∈ presL) : cmpD (w ++ u) (w' ++ v) = if cmpI (preRank w) (preRank w') = 0 then cmpD u v else cmpI (preRank w) (preRank w') := by
  by_cases e : w = w'
  · subst e
    rw [cmpI_same, if_pos rfl]
    exact stripD w u v (pres_smallM w h)
  · rcases presL_mem w h with rfl | rfl | rfl | rfl <;> rcases presL_mem w' h' with rfl | rfl | rfl | rfl <;>
      first
      | exact absurd rfl e
      | (simp only [List.cons_append, rank_0, rank_1, rank_2, rank_3]
         rw [headsD _ _ _ _ (by decide) (by decide) (by decide)]
         rfl)
theorem preD (w w' : List UInt8) (k k' : Int) (h : PreR w k) (h' : PreR w' k') (hk : numOk k = true) (hk' : numOk k' = true) :
    cmpD (preX 126 w k) (preX 126 w' k') = if cmpI (preRank w) (preRank w') = 0 then cmpI k k' else cmpI (preRank w) (preRank w') := by
  have hord : ∀ u, ordD (126 :: u) = -1 := fun u => rfl
  rcases h with ⟨rfl, rfl⟩ | ⟨hw, hm⟩ <;> rcases h' with ⟨rfl, rfl⟩ | ⟨hw', hm'⟩
  · rw [preX, if_pos rfl, cmpI_same, cmpI_same, if_pos rfl, cmpD_nil]
  · obtain ⟨r1, r2⟩ := rank_in w' hm'
    rw [preX, preX, if_pos rfl, if_neg hw', cmpD_ord _ _ (.inr (by rw [hord]; omega)), hord, rank_4, cI_gt (show (-1 : Int) < ordD [] by decide), cI_gt (show preRank w' < 4 by omega)]
    rfl
  · obtain ⟨r1, r2⟩ := rank_in w hm
    rw [preX, preX, if_pos rfl, if_neg hw, cmpD_ord _ _ (.inl (by rw [hord]; omega)), hord, rank_4, cI_lt (show (-1 : Int) < ordD [] by decide), cI_lt (show preRank w < 4 by omega)]
    rfl
  · rw [preX, preX, if_neg hw, if_neg hw', cmpD_ord _ _ (.inl (by rw [hord]; omega)), hord, hord, cmpI_same, if_pos rfl, List.tail_cons, List.tail_cons, wordsD w w' _ _ hm hm', decD k k' hk hk']
/-- Two cores' versions proper. -/
def endC (x y : Co) : Int := if cmpB x.letter y.letter = 0 then (if cmpI (preRank x.pre) (preRank y.pre) = 0 then cmpI x.preNum y.preNum else cmpI (preRank x.pre) (preRank y.pre)) else cmpB x.letter y.letter
def propC (x y : Co) : Int := if cmpNums x.nums y.nums = 0 then endC x y else cmpNums x.nums y.nums
theorem preX_ord (w : List UInt8) (k : Int) : ordD (preX 126 w k) ≤ 0 := by
  unfold preX
  split
  · simp [ordD]
  · show (-1 : Int) ≤ 0; omega
theorem end_ok (l w : List UInt8) (k : Int) (hl : letOk l = true) : EndD (l ++ preX 126 w k) := by
  match l, hl with
  | [], _ =>
    refine ⟨fun c t h => ?_, by have := preX_ord w k; rw [List.nil_append]; omega⟩
    rw [List.nil_append, preX] at h
    split at h
    · cases h
    · injection h with h _; rw [← h]; rfl
  | [d], hd =>
    obtain ⟨o1, o2, o3⟩ := ord_small d (preX 126 w k) hd
    refine ⟨fun c t h => ?_, by show ordD (d :: preX 126 w k) < 302; omega⟩
    injection h with h _
    rw [← h]
    simp only [isDig, Bool.and_eq_false_iff, decide_eq_false_iff_not]
    omega
theorem endD (x y : Co) (hl : letOk x.letter = true) (hl' : letOk y.letter = true) (hp : PreR x.pre x.preNum) (hp' : PreR y.pre y.preNum) (hk : numOk x.preNum = true) (hk' : numOk y.preNum = true) :
    cmpD (x.letter ++ preX 126 x.pre x.preNum) (y.letter ++ preX 126 y.pre y.preNum) = endC x y := by
  rw [letD _ _ _ _ hl hl' (preX_ord _ _) (preX_ord _ _), preD _ _ _ _ hp hp' hk hk', endC]
theorem propD (x y : Co) (hx : Fit 1 x) (hy : Fit 1 y) : cmpD (propT 1 x) (propT 1 y) = propC x y := by
  have hpx : PreR x.pre x.preNum := hx.pre
  have hpy : PreR y.pre y.preNum := hy.pre
  have he := endD x y hx.lt hy.lt hpx hpy hx.pn hy.pn
  have ox := end_ok x.letter x.pre x.preNum hx.lt
  have oy := end_ok y.letter y.pre y.preNum hy.lt
  have hnx := hx.nums
  have hny := hy.nums
  unfold propT propC
  rw [preX_eq, preX_eq]
  show cmpD (numsT x.nums ++ (x.letter ++ preX 126 x.pre x.preNum)) (numsT y.nums ++ (y.letter ++ preX 126 y.pre y.preNum)) = _
  cases hnx0 : x.nums with
  | nil => exact absurd hnx0 hx.n0
  | cons a l =>
    cases hny0 : y.nums with
    | nil => exact absurd hny0 hy.n0
    | cons b m =>
      rw [hnx0] at hnx
      rw [hny0] at hny
      simp only [List.all_cons, Bool.and_eq_true] at hnx hny
      have na := dec_num a hnx.1
      have nb := dec_num b hny.1
      rw [numsT_rest, numsT_rest, cD_num _ _ _ _ na.ne nb.ne na.dig nb.dig (rest_nodig _ _ ox.nodig) (rest_nodig _ _ oy.nodig), dec_cmp a b hnx.1 hny.1, restD l m _ _ hnx.2 hny.2 ox oy, he, cmpNums]
      by_cases h : cmpI a b = 0
      · rw [if_pos h, if_pos h]
      · rw [if_neg h, if_neg h, if_neg h]
end Go.Proofs.YtdfpdmddiapnmaaDoor

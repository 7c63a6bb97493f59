/- Cores of versions, in plain words: a core that is written is read as it was. -/
import Derived.Test.YtdfpdmddiapnmaaDoorVmS
import Derived.Test.YtdfpdmddiapnmaaDoorVerT
namespace Go.Proofs.YtdfpdmddiapnmaaDoor
theorem dec_facts (n : Nat) : Lib.decDigits n ≠ [] ∧ allDig (Lib.decDigits n) = true ∧ decNum (Lib.decDigits n) = n ∧ (1 ≤ n → ∃ c t, Lib.decDigits n = c :: t ∧ c.toNat ≠ 48) := by
  induction n using Nat.strongRecOn with
  | ind n ih =>
    by_cases h : n < 10
    · have hd : isDig (UInt8.ofNat (48 + n)) = true ∧ (UInt8.ofNat (48 + n)).toNat = 48 + n := by
        have : (UInt8.ofNat (48 + n)).toNat = 48 + n := by rw [UInt8.toNat_ofNat']; omega
        exact ⟨by simp only [isDig, this, Bool.and_eq_true, decide_eq_true_eq]; omega, this⟩
      rw [Lib.decDigits_one h]
      refine ⟨by simp, by show ([UInt8.ofNat (48 + n)].all isDig) = true; rw [List.all_cons, hd.1]; rfl, by simp only [decNum, List.foldl_cons, List.foldl_nil, hd.2]; omega, fun h1 => ⟨_, [], rfl, by rw [hd.2]; omega⟩⟩
    · obtain ⟨i1, i2, i3, i4⟩ := ih (n / 10) (by omega)
      have hd : isDig (UInt8.ofNat (48 + n % 10)) = true ∧ (UInt8.ofNat (48 + n % 10)).toNat = 48 + n % 10 := by
        have : (UInt8.ofNat (48 + n % 10)).toNat = 48 + n % 10 := by rw [UInt8.toNat_ofNat']; omega
        exact ⟨by simp only [isDig, this, Bool.and_eq_true, decide_eq_true_eq]; omega, this⟩
      rw [dec_big h]
      refine ⟨by simp, ?_, ?_, fun _ => ?_⟩
      · simp only [allDig, List.all_append] at i2 ⊢
        rw [i2, List.all_cons, hd.1]; rfl
      · rw [decNum_snoc, i3, hd.2]; omega
      · obtain ⟨c, t, e, hc⟩ := i4 (by omega)
        exact ⟨c, t ++ [UInt8.ofNat (48 + n % 10)], by rw [e]; rfl, hc⟩
/-- A number as it is written. -/
structure NumT (d : List UInt8) (n : Int) : Prop where
  ne : d ≠ []
  dig : ∀ c ∈ d, isDig c = true
  ud : udN d = n
  code : udCode d = 0
  nought : noughtB d = false
  len : d.length ≤ 9
theorem dec_num (n : Int) (h : numOk n = true) : NumT (decI n) n := by
  simp only [numOk, Bool.and_eq_true, decide_eq_true_eq] at h
  obtain ⟨m, rfl⟩ := Int.eq_ofNat_of_zero_le h.1
  have hd : decI (m : Int) = Lib.decDigits m := by unfold decI; rw [if_neg (by omega)]; simp
  rw [hd]
  obtain ⟨h1, h2, h3, h4⟩ := dec_facts m
  have hb : headBad (Lib.decDigits m) = false := by
    rcases Nat.eq_zero_or_pos m with rfl | hp
    · rw [Lib.decDigits_one (by omega)]; decide
    · obtain ⟨c, t, e, hc⟩ := h4 hp
      rw [e]; simp [headBad, hc]
  refine ⟨h1, fun c hc => List.all_eq_true.1 h2 c hc, ?_, (ud_ok _ hb h2 (by rw [h3]; omega)).1, ?_, ?_⟩
  · rw [(ud_ok _ hb h2 (by rw [h3]; omega)).2, h3]
  · rcases Nat.eq_zero_or_pos m with rfl | hp
    · rw [Lib.decDigits_one (by omega)]; decide
    · obtain ⟨c, t, e, hc⟩ := h4 hp
      rw [e]
      cases t with
      | nil => rfl
      | cons d u => simp [noughtB, hc]
  · rw [Lib.decDigits_length]
    exact nd_le 9 m (by omega) (by omega)
theorem byte_allV (P : UInt8 → Bool) (h : ((List.range 256).all fun n => P (UInt8.ofNat n)) = true) (c : UInt8) : P c = true := by
  have := List.all_eq_true.1 h c.toNat (List.mem_range.2 c.toNat_lt)
  simpa using this
theorem dig_ne (c d : UInt8) (h : isDig c = true) (hd : isDig d = false) : c ≠ d := fun e => by rw [e] at h; rw [h] at hd; cases hd
/-- Digits and dots, digits at both ends. -/
theorem numsT_cons (n m : Int) (l : List Int) : numsT (n :: m :: l) = decI n ++ (46 :: numsT (m :: l)) := by simp [numsT, Lib.join]
theorem numsT_one (n : Int) : numsT [n] = decI n := by simp [numsT, Lib.join]
theorem numsT_mem (l : List Int) (h : l.all numOk = true) : ∀ c ∈ numsT l, isDig c = true ∨ c = 46 := by
  induction l with
  | nil => intro c hc; simp [numsT, Lib.join] at hc
  | cons n l ih =>
    simp only [List.all_cons, Bool.and_eq_true] at h
    have hn := dec_num n h.1
    cases l with
    | nil => rw [numsT_one]; exact fun c hc => .inl (hn.dig c hc)
    | cons m l =>
      rw [numsT_cons]
      intro c hc
      rcases List.mem_append.1 hc with hc | hc
      · exact .inl (hn.dig c hc)
      · rcases List.mem_cons.1 hc with hc | hc
        · exact .inr hc
        · exact ih h.2 c hc
theorem numsT_head (l : List Int) (h : l.all numOk = true) (h0 : l ≠ []) : ∃ c t, numsT l = c :: t ∧ isDig c = true := by
  cases l with
  | nil => exact absurd rfl h0
  | cons n l =>
    simp only [List.all_cons, Bool.and_eq_true] at h
    have hn := dec_num n h.1
    cases hd : decI n with
    | nil => exact absurd hd hn.ne
    | cons c t =>
      have hc := hn.dig c (by rw [hd]; simp)
      cases l with
      | nil => rw [numsT_one, hd]; exact ⟨c, t, rfl, hc⟩
      | cons m l => rw [numsT_cons, hd]; exact ⟨c, _, rfl, hc⟩
theorem numsT_last (l : List Int) (h : l.all numOk = true) (h0 : l ≠ []) : ∃ t c, numsT l = t ++ [c] ∧ isDig c = true := by
  induction l with
  | nil => exact absurd rfl h0
  | cons n l ih =>
    simp only [List.all_cons, Bool.and_eq_true] at h
    have hn := dec_num n h.1
    cases l with
    | nil =>
      rw [numsT_one]
      exact ⟨_, _, (List.dropLast_concat_getLast hn.ne).symm, hn.dig _ (List.getLast_mem hn.ne)⟩
    | cons m l =>
      obtain ⟨t, c, e, hc⟩ := ih h.2 (by simp)
      exact ⟨decI n ++ (46 :: t), c, by rw [numsT_cons, e]; simp, hc⟩
theorem dotsP_app (x r a : List UInt8) (h : ∀ c ∈ x, c ≠ 46) : dotsP (x ++ r) a = dotsP r (a ++ x) := by
  induction x generalizing a with
  | nil => simp
  | cons c x ih =>
    rw [List.cons_append, dotsP, if_neg (h c (by simp)), ih _ (fun d hd => h d (by simp [hd]))]
    simp
theorem dots_nums (l : List Int) (h : l.all numOk = true) (h0 : l ≠ []) : dots (numsT l) = l.map decI := by
  induction l with
  | nil => exact absurd rfl h0
  | cons n l ih =>
    simp only [List.all_cons, Bool.and_eq_true] at h
    have hn := dec_num n h.1
    have h46 : ∀ c ∈ decI n, c ≠ 46 := fun c hc => dig_ne c 46 (hn.dig c hc) (by decide +kernel)
    cases l with
    | nil =>
      rw [numsT_one]
      have := dotsP_app (decI n) [] [] h46
      rw [List.append_nil, List.nil_append] at this
      unfold dots
      rw [this]
      rfl
    | cons m l =>
      rw [numsT_cons]
      unfold dots at ih ⊢
      rw [dotsP_app _ _ _ h46, dotsP, if_pos rfl, ih h.2 (by simp)]
      rfl
theorem udN_map (l : List Int) (h : l.all numOk = true) : (l.map decI).map udN = l := by
  induction l with
  | nil => rfl
  | cons n l ih =>
    simp only [List.all_cons, Bool.and_eq_true] at h
    rw [List.map_cons, List.map_cons, (dec_num n h.1).ud, ih h.2]
theorem last_of (t : List UInt8) (c : UInt8) : (t ++ [c]).getLast? = some c := by simp
theorem body_let (l : List Int) (lt : List UInt8) (h : l.all numOk = true) (h0 : l ≠ []) (hl : letOk lt = true) : bodyH (numsT l ++ lt) = numsT l ∧ letH (numsT l ++ lt) = lt := by
  match lt, hl with
  | [], _ =>
    obtain ⟨t, c, e, hc⟩ := numsT_last l h h0
    have : lastSmall (numsT l ++ []) = false := by
      rw [List.append_nil, e, lastSmall, last_of]
      have := byte_allV (fun c => !isDig c || !isSmall c) (by decide +kernel) c
      simp only [hc, Bool.not_true, Bool.false_or, Bool.not_eq_true'] at this
      exact this
    unfold bodyH letH
    rw [this]
    exact ⟨by simp, rfl⟩
  | [c], hl =>
    have hs : isSmall c = true := hl
    have : lastSmall (numsT l ++ [c]) = true := by rw [lastSmall, last_of]; exact hs
    unfold bodyH letH
    rw [this]
    simp
theorem in_no (l : List UInt8) (c : UInt8) (h : c ∉ l) : inB l c = false := by
  cases hb : inB l c with
  | false => rfl
  | true => exact absurd ((inB_mem l c).1 hb) h
theorem cut_at (A B : List UInt8) (c : UInt8) (h : c ∉ A) : inB (A ++ c :: B) c = true ∧ cutA (A ++ c :: B) c = A ∧ cutB (A ++ c :: B) c = B := by
  have hi : inB (A ++ c :: B) c = true := (inB_mem _ _).2 (by simp)
  obtain ⟨h1, h2⟩ := cut_split _ c hi
  obtain ⟨e1, e2⟩ := uniq_first h h2 h1
  exact ⟨hi, e1.symm, e2.symm⟩
theorem cut_not (A : List UInt8) (c : UInt8) (h : c ∉ A) : cutA A c = A ∧ cutB A c = [] := by
  have := in_no A c h
  exact ⟨by rw [cutA, this]; rfl, by rw [cutB, this]; rfl⟩
theorem uniq_last {c : UInt8} {A B C D : List UInt8} (h1 : c ∉ B) (h2 : c ∉ D) (h : A ++ c :: B = C ++ c :: D) : A = C ∧ B = D := by
  have := congrArg List.reverse h
  simp only [List.reverse_append, List.reverse_cons, List.append_assoc, List.singleton_append] at this
  obtain ⟨e1, e2⟩ := uniq_first (by simpa using h1) (by simpa using h2) this
  exact ⟨by simpa using e2, by simpa using e1⟩
theorem last_at (A B : List UInt8) (h : 45 ∉ B) : 0 ≤ lastI (A ++ 45 :: B) ∧ dPr (A ++ 45 :: B) = A ∧ dRev (A ++ 45 :: B) = B := by
  rcases last_split (A ++ 45 :: B) with ⟨_, h2⟩ | ⟨h1, h2, h3⟩
  · exact absurd (by simp) h2
  · obtain ⟨e1, e2⟩ := uniq_last h h3 h2
    exact ⟨h1, e1.symm, e2.symm⟩
/-- What stands in a core that fits. -/
structure Fit (f : Int) (c : Co) : Prop where
  n0 : c.nums ≠ []
  nums : c.nums.all numOk = true
  ep : numOk c.epoch = true
  pn : numOk c.preNum = true
  rev : numOk c.rev = true
  lt : letOk c.letter = true
  pre : (c.pre = [] ∧ c.preNum = 0) ∨ (c.pre ≠ [] ∧ c.pre ∈ presL)
  len : (textC 1 c).length ≤ 64
  apk : f = 3 → c.epoch = 0 ∧ (textC f c).length ≤ 64
theorem fit_of (f : Int) (c : Co) (h : fits f c = true) : Fit f c := by
  simp only [fits, coOk, Bool.and_eq_true, Bool.not_eq_true', decide_eq_true_eq] at h
  obtain ⟨⟨⟨⟨⟨h1, ⟨⟨h2, h3⟩, h4⟩, h5⟩, h6⟩, h7⟩, h8⟩, h9⟩ := h
  refine ⟨fun e => by rw [e] at h1; simp at h1, h5, h2, h3, h4, h6, ?_, h8, fun hf => ?_⟩
  · unfold preOk at h7
    by_cases hp : c.pre = []
    · rw [if_pos hp] at h7
      exact .inl ⟨hp, by simpa using h7⟩
    · rw [if_neg hp] at h7
      exact .inr ⟨hp, by simpa using h7⟩
  · simp only [hf, decide_true, Bool.true_and, Bool.or_eq_false_iff, decide_eq_false_iff_not] at h9
    exact ⟨by omega, by rw [hf]; omega⟩
theorem small_not (c d : UInt8) (h : isSmall c = true) (hd : isSmall d = false) : c ≠ d := fun e => by rw [e] at h; rw [h] at hd; cases hd
theorem let_mem (l : List UInt8) (h : letOk l = true) : ∀ c ∈ l, isSmall c = true := by
  match l, h with
  | [], _ => intro c hc; cases hc
  | [d], h => intro c hc; rw [List.mem_singleton.1 hc]; exact h
theorem pres_small : (presL.all fun w => w.all isSmall) = true := by decide +kernel
theorem pre_mem (c : Co) (h : (c.pre = [] ∧ c.preNum = 0) ∨ (c.pre ≠ [] ∧ c.pre ∈ presL)) : ∀ d ∈ c.pre, isSmall d = true := by
  intro d hd
  rcases h with ⟨e, _⟩ | ⟨_, hm⟩
  · rw [e] at hd; cases hd
  · exact List.all_eq_true.1 (List.all_eq_true.1 pres_small _ hm) d hd
/-- The bytes of what is proper. -/
theorem prop_mem (f : Int) (c : Co) (h : Fit f c) : ∀ d ∈ propT f c, isDig d = true ∨ d = 46 ∨ isSmall d = true ∨ d = sgnB f := by
  intro d hd
  unfold propT at hd
  rcases List.mem_append.1 hd with hd | hd
  · exact (numsT_mem _ h.nums d hd).imp id .inl
  · rcases List.mem_append.1 hd with hd | hd
    · exact .inr (.inr (.inl (let_mem _ h.lt d hd)))
    · unfold preT at hd
      split at hd
      · cases hd
      · rcases List.mem_cons.1 hd with hd | hd
        · exact .inr (.inr (.inr hd))
        · rcases List.mem_append.1 hd with hd | hd
          · exact .inr (.inr (.inl (pre_mem c h.pre d hd)))
          · exact .inl ((dec_num _ h.pn).dig d hd)
theorem sgn_no (f : Int) (c : Co) (h : Fit f c) : sgnB f ∉ numsT c.nums ++ c.letter := by
  intro hm
  have hd : isDig (sgnB f) = false ∧ sgnB f ≠ 46 ∧ isSmall (sgnB f) = false := by
    unfold sgnB
    split <;> decide +kernel
  rcases List.mem_append.1 hm with hm | hm
  · rcases numsT_mem _ h.nums _ hm with e | e
    · rw [hd.1] at e; cases e
    · exact hd.2.1 e
  · have := let_mem _ h.lt _ hm
    rw [hd.2.2] at this; cases this
theorem preC_nil : preC [] = ([], 0) := by decide +kernel
theorem preC_of (p d : List UInt8) (h : p ∈ presL) : preC (p ++ d) = (p, udN d) := by
  simp only [presL, List.mem_cons, List.not_mem_nil, or_false] at h
  rcases h with rfl | rfl | rfl | rfl <;> simp [preC, presL, List.isPrefixOf]
theorem cand_prop (f : Int) (c : Co) (h : Fit f c) (e : List UInt8) (he : (if e = [] then 0 else udN e) = c.epoch) : candP f e (propT f c) (decI c.rev) = c := by
  have hb := body_let c.nums c.letter h.nums h.n0 h.lt
  have hs := sgn_no f c h
  have hr := (dec_num _ h.rev).ud
  rcases h.pre with ⟨p1, p2⟩ | ⟨p1, p2⟩
  · have hp : propT f c = numsT c.nums ++ c.letter := by simp [propT, preT, p1]
    obtain ⟨k1, k2⟩ := cut_not _ _ hs
    unfold candP
    rw [hp, k1, k2, hb.1, hb.2, preC_nil, he, hr, dots_nums _ h.nums h.n0, udN_map _ h.nums]
    cases c
    simp_all
  · have hp : propT f c = (numsT c.nums ++ c.letter) ++ sgnB f :: (c.pre ++ decI c.preNum) := by simp [propT, preT, p1]
    obtain ⟨_, k1, k2⟩ := cut_at _ (c.pre ++ decI c.preNum) _ hs
    unfold candP
    rw [hp, k1, k2, hb.1, hb.2, preC_of _ _ p2, he, hr, dots_nums _ h.nums h.n0, udN_map _ h.nums, (dec_num _ h.pn).ud]
end Go.Proofs.YtdfpdmddiapnmaaDoor

/- Right lists of entries, plain: what the check of a list says, and the list of the law on limits. -/
import Derived.Test.YtjhikglgaoncjaaDoorEnT
namespace Go.Proofs.YtjhikglgaoncjaaDoor
/-- A list of entries that is right. -/
structure Rt (l : List En) : Prop where
  len : l.length ≤ 4096
  chk : ∀ e ∈ l, chkE e = 0
  uniq : (l.map En.path).Nodup
  hard : ∀ (k : Nat) (h : k < l.length), l[k].kind = 4 → ∃ (j : Nat) (hj : j < k), l[j].path = l[k].link ∧ l[j].kind = 1 ∧ alikeE l[k] l[j] = true
  nest : ∀ x ∈ l, ∀ y ∈ l, x.path ∈ upsL y.path → x.kind = 2
theorem goE_zero : ∀ (l a : List En), ((goE a l).2 = 0 ↔ ∀ k (h : k < l.length), badE (a ++ l.take k) l[k] = 0) ∧ ((goE a l).2 = 0 → goE a l = (0, 0))
  | [], a => ⟨⟨fun _ k h => by simp at h, fun _ => rfl⟩, fun _ => rfl⟩
  | e :: t, a => by
    rw [goE]
    by_cases hb : badE a e = 0
    · rw [if_pos hb]
      obtain ⟨h1, h2⟩ := goE_zero t (a ++ [e])
      refine ⟨h1.trans ⟨fun h k hk => ?_, fun h k hk => ?_⟩, h2⟩
      · cases k with
        | zero => simpa using hb
        | succ k =>
          have := h k (by simpa using hk)
          simpa using this
      · have := h (k + 1) (by simpa using hk)
        simpa using this
    · rw [if_neg hb]
      refine ⟨⟨fun h => absurd h hb, fun h => ?_⟩, fun h => absurd h hb⟩
      have := h 0 (by simp)
      simpa using this
theorem badE_zero (a : List En) (e : En) : badE a e = 0 ↔ chkE e = 0 ∧ hasE a e.path = false ∧ (e.kind = 4 → linkE a e = 0) ∧ nestE a e = false := by
  rw [badE]
  by_cases h1 : chkE e = 0
  · rw [if_pos h1]
    by_cases h2 : hasE a e.path = true
    · rw [if_pos h2]; simp [h2]
    · rw [if_neg h2]
      by_cases h3 : e.kind = 4 ∧ linkE a e ≠ 0
      · rw [if_pos h3]
        exact ⟨fun h => absurd h h3.2, fun h => absurd (h.2.2.1 h3.1) h3.2⟩
      · rw [if_neg h3]
        by_cases h4 : nestE a e = true
        · rw [if_pos h4]; simp [h4]
        · rw [if_neg h4]
          refine ⟨fun _ => ⟨h1, by simpa using h2, fun hk => ?_, by simpa using h4⟩, fun _ => rfl⟩
          exact Decidable.byContradiction fun hn => h3 ⟨hk, hn⟩
  · rw [if_neg h1]
    exact ⟨fun h => absurd h h1, fun h => absurd h.1 h1⟩
theorem linkE_zero (a : List En) (e : En) : linkE a e = 0 ↔ ∃ x, findE a e.link = some x ∧ x.kind = 1 ∧ alikeE e x = true := by
  rw [linkE]
  cases hf : findE a e.link with
  | none => simp
  | some x =>
    simp only [Option.some.injEq]
    by_cases h1 : x.kind = 1
    · rw [if_pos h1]
      cases h2 : alikeE e x with
      | true => simp [h1, h2]
      | false => simp [h1, h2]
    · rw [if_neg h1]; simp [h1]
theorem ups_irrefl (p : List UInt8) : p ∉ upsL p := by
  rw [ups_mem]
  rintro ⟨t, h⟩
  have := congrArg List.length h
  simp at this
theorem nodup_paths {l : List En} (h : (l.map En.path).Nodup) {i j : Nat} (hi : i < l.length) (hj : j < l.length) (he : l[i].path = l[j].path) : i = j := by
  have := (List.getElem_inj (h₀ := by simpa using hi) (h₁ := by simpa using hj) h).1 (by simpa using he)
  exact this
theorem path_inj {l : List En} (h : (l.map En.path).Nodup) {a b : En} (ha : a ∈ l) (hb : b ∈ l) (he : a.path = b.path) : a = b := by
  obtain ⟨i, hi, rfl⟩ := List.getElem_of_mem ha
  obtain ⟨j, hj, rfl⟩ := List.getElem_of_mem hb
  obtain rfl := nodup_paths h hi hj he
  rfl
theorem find_some {l : List En} {p : List UInt8} {x : En} (h : findE l p = some x) : x ∈ l ∧ x.path = p := by
  refine ⟨List.mem_of_find?_eq_some h, ?_⟩
  have := List.find?_some h
  simpa using this
theorem find_of {l : List En} (hn : (l.map En.path).Nodup) {x : En} (hx : x ∈ l) : findE l x.path = some x := by
  cases hf : findE l x.path with
  | none =>
    rw [findE, List.find?_eq_none] at hf
    exact absurd (by simp) (hf x hx)
  | some y =>
    obtain ⟨h1, h2⟩ := find_some hf
    rw [path_inj hn h1 hx h2]
theorem hasE_iff (l : List En) (p : List UInt8) : hasE l p = true ↔ ∃ x ∈ l, x.path = p := by simp [hasE]
theorem rt_iff (l : List En) (hl : l.length ≤ 4096) : (∀ k (h : k < l.length), badE (l.take k) l[k] = 0) ↔ Rt l := by
  constructor
  · intro h
    have hk := fun k hk => (badE_zero _ _).1 (h k hk)
    have hlt : ∀ (i j : Nat) (hi : i < l.length) (hj : j < l.length), i < j → l[i] ∈ l.take j := fun i j hi hj hij => List.mem_take_iff_getElem.2 ⟨i, by omega, rfl⟩
    have hu : (l.map En.path).Nodup := by
      rw [List.Nodup, List.pairwise_iff_getElem]
      intro i j hi hj hij
      have hj' : j < l.length := by simpa using hj
      have h2 := (hk j hj').2.1
      simp only [List.getElem_map]
      intro e
      have : hasE (l.take j) l[j].path = true := (hasE_iff _ _).2 ⟨l[i]'(by omega), hlt i j (by omega) hj' hij, e⟩
      rw [this] at h2; cases h2
    have hnest : ∀ (i j : Nat) (hi : i < l.length) (hj : j < l.length), i < j → (l[i].path ∈ upsL l[j].path → l[i].kind = 2) ∧ (l[j].path ∈ upsL l[i].path → l[j].kind = 2) := by
      intro i j hi hj hij
      have h4 := (hk j hj).2.2.2
      rw [nestE, List.any_eq_false] at h4
      have := h4 _ (hlt i j hi hj hij)
      simp only [Bool.or_eq_true, Bool.and_eq_true, List.contains_iff_mem, Bool.not_eq_true', decide_eq_false_iff_not, not_or, not_and, Decidable.not_not] at this
      exact this
    refine ⟨hl, fun e he => ?_, hu, fun k hk' h4 => ?_, fun x hx y hy hm => ?_⟩
    · obtain ⟨k, hk', rfl⟩ := List.getElem_of_mem he
      exact (hk k hk').1
    · obtain ⟨x, h1, h2, h3⟩ := (linkE_zero _ _).1 ((hk k hk').2.2.1 h4)
      obtain ⟨h5, h6⟩ := find_some h1
      obtain ⟨j, hj, rfl⟩ := List.mem_take_iff_getElem.1 h5
      exact ⟨j, by omega, h6, h2, h3⟩
    · obtain ⟨i, hi, rfl⟩ := List.getElem_of_mem hx
      obtain ⟨j, hj, rfl⟩ := List.getElem_of_mem hy
      rcases Nat.lt_trichotomy i j with hij | hij | hij
      · exact (hnest i j hi hj hij).1 hm
      · subst hij; exact absurd hm (ups_irrefl _)
      · exact (hnest j i hj hi hij).2 hm
  · intro h k hk
    rw [badE_zero]
    have hm : ∀ x ∈ l.take k, x ∈ l := fun x hx => List.mem_of_mem_take hx
    refine ⟨h.chk _ (List.getElem_mem hk), ?_, fun h4 => ?_, ?_⟩
    · cases hh : hasE (l.take k) l[k].path with
      | false => rfl
      | true =>
        obtain ⟨x, hx, he⟩ := (hasE_iff _ _).1 hh
        obtain ⟨j, hj, rfl⟩ := List.mem_take_iff_getElem.1 hx
        have := nodup_paths h.uniq (by omega) hk he
        omega
    · obtain ⟨j, hj, h1, h2, h3⟩ := h.hard k hk h4
      refine (linkE_zero _ _).2 ⟨l[j], ?_, h2, h3⟩
      rw [← h1]
      refine find_of ?_ (List.mem_take_iff_getElem.2 ⟨j, by omega, rfl⟩)
      rw [List.map_take]
      exact List.Nodup.sublist (List.take_sublist _ _) h.uniq
    · rw [nestE, List.any_eq_false]
      intro x hx
      simp only [Bool.or_eq_true, Bool.and_eq_true, List.contains_iff_mem, Bool.not_eq_true', decide_eq_false_iff_not, not_or, not_and, Decidable.not_not]
      exact ⟨fun hc => h.nest x (hm x hx) _ (List.getElem_mem hk) hc, fun hc => h.nest _ (List.getElem_mem hk) x (hm x hx) hc⟩
theorem chk_rt (l : List En) : (chkL l).2 = 0 ↔ Rt l := by
  rw [chkL]
  by_cases h : 4096 < l.length
  · rw [if_pos h]
    exact ⟨fun h0 => absurd h0 (by decide), fun hr => absurd hr.len (by omega)⟩
  · rw [if_neg h, (goE_zero l []).1]
    simp only [List.nil_append]
    exact rt_iff l (by omega)
theorem rt_chk {l : List En} (h : Rt l) : chkL l = (0, 0) := by
  have h2 := (chk_rt l).2 h
  rw [chkL, if_neg (by have := h.len; omega)] at h2 ⊢
  exact (goE_zero l []).2 h2
/-- The i-th path of the law on limits. -/
def b3 (i : Nat) : List UInt8 := [UInt8.ofNat (97 + i % 16), UInt8.ofNat (97 + i / 16 % 16), UInt8.ofNat (97 + i / 256)]
def mkE (i : Nat) : En := ⟨b3 i, 1, 0, 0, 0, [], [], 0, [], []⟩
def mkL (n : Nat) : List En := (List.range n).map mkE
theorem mkL_succ (n : Nat) : mkL (n + 1) = mkL n ++ [mkE n] := by simp [mkL, List.range_succ]
theorem mkL_len (n : Nat) : (mkL n).length = n := by simp [mkL]
theorem path3 (a b c : UInt8) (ha : a ≠ 47 ∧ a ≠ 0 ∧ a ≠ 46) (hb : b ≠ 47 ∧ b ≠ 0) (hc : c ≠ 47 ∧ c ≠ 0) : pathOk [a, b, c] = true := by
  simp [pathOk, partsB, splitP, partOk, ha.1, hb.1, hc.1, Ne.symm ha.2.1, Ne.symm hb.2, Ne.symm hc.2]
theorem ofNat_ne (n : Nat) (h : n < 256) (m : UInt8) (hm : m.toNat < n) : UInt8.ofNat n ≠ m := by
  intro e
  have := congrArg UInt8.toNat e
  rw [UInt8.toNat_ofNat'] at this
  omega
theorem mkE_chk (i : Nat) (h : i < 5000) : chkE (mkE i) = 0 := by
  have e : pathOk (b3 i) = true := path3 _ _ _ ⟨ofNat_ne _ (by omega) _ (by show 47 < _; omega), ofNat_ne _ (by omega) _ (by show 0 < _; omega), ofNat_ne _ (by omega) _ (by show 46 < _; omega)⟩
    ⟨ofNat_ne _ (by omega) _ (by show 47 < _; omega), ofNat_ne _ (by omega) _ (by show 0 < _; omega)⟩ ⟨ofNat_ne _ (by omega) _ (by show 47 < _; omega), ofNat_ne _ (by omega) _ (by show 0 < _; omega)⟩
  rw [chkE, if_neg (by rw [show (mkE i).path = b3 i from rfl, e]; simp)]
  rfl
theorem b3_inj (i j : Nat) (hi : i < 5000) (hj : j < 5000) (h : b3 i = b3 j) : i = j := by
  simp only [b3, List.cons.injEq, and_true] at h
  obtain ⟨h1, h2, h3⟩ := h
  have h1 := congrArg UInt8.toNat h1
  have h2 := congrArg UInt8.toNat h2
  have h3 := congrArg UInt8.toNat h3
  rw [UInt8.toNat_ofNat', UInt8.toNat_ofNat'] at h1 h2 h3
  omega
theorem mkL_rt (n : Nat) (h : n ≤ 4096) : Rt (mkL n) where
  len := by rw [mkL_len]; exact h
  chk e he := by
    obtain ⟨i, hi, rfl⟩ := List.mem_map.1 he
    exact mkE_chk i (by have := List.mem_range.1 hi; omega)
  uniq := by
    rw [List.Nodup, List.pairwise_iff_getElem]
    intro i j hi hj hij e
    simp only [mkL, List.getElem_map, List.getElem_range] at e
    have := b3_inj i j (by simp [mkL] at hi; omega) (by simp [mkL] at hj; omega) e
    omega
  hard k hk h4 := by
    simp only [mkL, List.getElem_map] at h4
    exact absurd (show (1 : Int) = 4 from h4) (by decide)
  nest x hx y hy hm := by
    obtain ⟨i, _, rfl⟩ := List.mem_map.1 hx
    obtain ⟨j, _, rfl⟩ := List.mem_map.1 hy
    obtain ⟨t, ht⟩ := (ups_mem _ _).1 hm
    have := congrArg List.length ht
    simp [mkE, b3] at this
theorem mkL_chk (n : Nat) : chkL (mkL n) = if 4096 < n then (4096, 4) else (0, 0) := by
  by_cases h : 4096 < n
  · rw [if_pos h, chkL, mkL_len, if_pos h]
  · rw [if_neg h]; exact rt_chk (mkL_rt n (by omega))
end Go.Proofs.YtjhikglgaoncjaaDoor

/- Entries: plain lemmas on paths that stand above, and on what is known of the entries ahead. -/
import Derived.Test.YtjhikglgaoncjaaDoorEnS
namespace Go.Proofs.YtjhikglgaoncjaaDoor
theorem up_mem : ∀ (l acc a : List UInt8), a ∈ upP acc l ↔ ∃ s t, l = s ++ 47 :: t ∧ a = acc ++ s
  | [], acc, a => by simp [upP]
  | c :: l, acc, a => by
    rw [upP]
    by_cases hc : c = 47
    · rw [if_pos hc, List.mem_cons, up_mem l (acc ++ [c]) a]
      constructor
      · rintro (h | ⟨s, t, h1, h2⟩)
        · exact ⟨[], l, by rw [hc]; rfl, by simp [h]⟩
        · exact ⟨c :: s, t, by rw [h1]; rfl, by rw [h2]; simp⟩
      · rintro ⟨s, t, h1, h2⟩
        cases s with
        | nil => exact .inl (by simpa using h2)
        | cons d s =>
          injection h1 with e1 e2
          exact .inr ⟨s, t, e2, by rw [h2, ← e1]; simp⟩
    · rw [if_neg hc, up_mem l (acc ++ [c]) a]
      constructor
      · rintro ⟨s, t, h1, h2⟩
        exact ⟨c :: s, t, by rw [h1]; rfl, by rw [h2]; simp⟩
      · rintro ⟨s, t, h1, h2⟩
        cases s with
        | nil => injection h1 with e1 _; exact absurd e1 hc
        | cons d s =>
          injection h1 with e1 e2
          exact ⟨s, t, e2, by rw [h2, ← e1]; simp⟩
theorem ups_mem (a b : List UInt8) : a ∈ upsL b ↔ ∃ t, b = a ++ 47 :: t := by
  rw [upsL, up_mem]
  constructor
  · rintro ⟨s, t, h1, h2⟩
    exact ⟨t, by rw [h1, h2]; simp⟩
  · rintro ⟨t, h⟩
    exact ⟨a, t, h, by simp⟩
/-- Does a path stand above another one, as the document asks it? -/
def aboveL (a b : List UInt8) : Bool := decide (a.length < b.length) && (decide (b.take a.length = a) && decide (b[a.length]? = some 47))
theorem above_is (a b : List UInt8) : aboveL a b = (upsL b).contains a := by
  rw [Bool.eq_iff_iff, List.contains_iff_mem, ups_mem, aboveL]
  simp only [Bool.and_eq_true, decide_eq_true_eq]
  constructor
  · rintro ⟨h1, h2, h3⟩
    rw [List.getElem?_eq_getElem h1] at h3
    injection h3 with h3
    refine ⟨b.drop (a.length + 1), ?_⟩
    conv => lhs; rw [← List.take_append_drop a.length b]
    rw [h2, List.drop_eq_getElem_cons h1, h3]
  · rintro ⟨t, h⟩
    subst h
    refine ⟨by simp, by simp, by simp⟩
theorem any_or {α : Type} (l : List α) (p q : α → Bool) : l.any (fun x => p x || q x) = (l.any p || l.any q) := by
  induction l with
  | nil => rfl
  | cons x t ih => rw [List.any_cons, ih, List.any_cons, List.any_cons]; cases p x <;> cases q x <;> cases t.any p <;> cases t.any q <;> rfl
theorem any_and {α : Type} (l : List α) (p : α → Bool) (b : Bool) : l.any (fun x => p x && b) = (l.any p && b) := by
  induction l with
  | nil => rfl
  | cons x t ih => rw [List.any_cons, ih, List.any_cons]; cases p x <;> cases b <;> cases t.any p <;> rfl
/-- The entries ahead have paths of their own. -/
def Uniq (a : List En) : Prop := ∀ i j (hi : i < a.length) (hj : j < a.length), a[i].path = a[j].path → i = j
/-- What the map of places knows. -/
def AtM (m : List UInt8 → Option Int) (l : List En) (i : Nat) : Prop :=
  ∀ p, (m p = none ∧ hasE (l.take i) p = false) ∨ ∃ (j : Nat) (h : j < l.length), j < i ∧ m p = some (j : Int) ∧ l[j].path = p ∧ findE (l.take i) p = some l[j] ∧ hasE (l.take i) p = true
/-- What the map of the paths above knows. -/
def AbM (m : List UInt8 → Option Int) (a : List En) : Prop := ∀ p, (m p).isSome = a.any fun x => (upsL x.path).contains p
theorem has_find (a : List En) (p : List UInt8) : hasE a p = (findE a p).isSome := by
  rw [hasE, findE, List.isSome_find?]
theorem find_none_of (a : List En) (p : List UInt8) (h : hasE a p = false) : findE a p = none := by
  rw [has_find] at h
  cases hf : findE a p with
  | none => rfl
  | some x => rw [hf] at h; cases h
theorem goE_step (l : List En) (k : Nat) (h : k < l.length) : goE (l.take k) (l.drop k) = if badE (l.take k) l[k] = 0 then goE (l.take (k + 1)) (l.drop (k + 1)) else ((k : Int), badE (l.take k) l[k]) := by
  rw [List.drop_eq_getElem_cons h, goE, List.take_succ_eq_append_getElem h, List.length_take, Nat.min_eq_left (by omega)]
theorem hasE_snoc (a : List En) (e : En) (p : List UInt8) : hasE (a ++ [e]) p = (hasE a p || decide (e.path = p)) := by
  rw [hasE, List.any_append]; simp [hasE]
theorem findE_snoc (a : List En) (e : En) (p : List UInt8) : findE (a ++ [e]) p = (findE a p).or (if e.path = p then some e else none) := by
  rw [findE, List.find?_append]
  by_cases h : e.path = p
  · simp [findE, h]
  · simp [findE, h]
theorem Uniq.snoc {a : List En} {e : En} (h : Uniq a) (hn : hasE a e.path = false) : Uniq (a ++ [e]) := by
  have hx : ∀ i (hi : i < a.length), a[i].path ≠ e.path := fun i hi e2 => by
    have : hasE a e.path = true := List.any_eq_true.2 ⟨a[i], List.getElem_mem hi, by simpa using e2⟩
    rw [hn] at this; cases this
  intro i j hi hj hp
  simp at hi hj
  by_cases h1 : i < a.length
  · by_cases h2 : j < a.length
    · rw [List.getElem_append_left h1, List.getElem_append_left h2] at hp
      exact h i j h1 h2 hp
    · have : j = a.length := by omega
      subst this
      rw [List.getElem_append_left h1] at hp
      simp at hp
      exact absurd hp (hx i h1)
  · have : i = a.length := by omega
    subst this
    by_cases h2 : j < a.length
    · rw [List.getElem_append_left h2] at hp
      simp at hp
      exact absurd hp.symm (hx j h2)
    · omega
theorem Uniq.find {a : List En} (h : Uniq a) {x : En} (hx : x ∈ a) : findE a x.path = some x := by
  obtain ⟨i, hi, rfl⟩ := List.getElem_of_mem hx
  cases hf : findE a a[i].path with
  | none =>
    have := List.find?_eq_none.1 hf a[i] (List.getElem_mem hi)
    simp at this
  | some y =>
    have hy := List.mem_of_find?_eq_some hf
    have hp := List.find?_some hf
    obtain ⟨j, hj, rfl⟩ := List.getElem_of_mem hy
    have hp2 : a[j].path = a[i].path := by simpa using hp
    have := h i j hi hj hp2.symm
    subst this
    rfl
theorem AtM.nil (l : List En) : AtM (fun _ => none) l 0 := fun p => .inl ⟨rfl, by simp [hasE]⟩
theorem AtM.known {m : List UInt8 → Option Int} {l : List En} {i : Nat} (h : AtM m l i) (p : List UInt8) : (m p).isSome = hasE (l.take i) p := by
  rcases h p with ⟨h1, h2⟩ | ⟨j, _, _, h1, _, _, h2⟩
  · rw [h1, h2]; rfl
  · rw [h1, h2]; rfl
theorem AtM.put {m : List UInt8 → Option Int} {l : List En} {i : Nat} (h : AtM m l i) (hi : i < l.length) (hn : hasE (l.take i) l[i].path = false) :
    AtM (fun p => if p = l[i].path then some (i : Int) else m p) l (i + 1) := fun p => by
  have ht := List.take_succ_eq_append_getElem hi
  rw [ht, hasE_snoc, findE_snoc]
  by_cases hp : p = l[i].path
  · subst hp
    right
    refine ⟨i, hi, by omega, by simp, rfl, ?_, by simp⟩
    rw [find_none_of _ _ hn]; simp
  · have hp2 : ¬ l[i].path = p := fun e => hp e.symm
    rcases h p with ⟨h1, h2⟩ | ⟨j, hj, hji, h1, h2, h3, h4⟩
    · left
      refine ⟨by simp [hp, h1], by simp [h2, hp2]⟩
    · right
      exact ⟨j, hj, by omega, by simp [hp, h1], h2, by rw [h3]; rfl, by rw [h4]; rfl⟩
theorem AbM.nil : AbM (fun _ => none) [] := fun _ => rfl
/-- As the maps see it. -/
theorem nest_maps {a : List En} (h : Uniq a) (e : En) : nestE a e = ((upsL e.path).any (fun p => match findE a p with | some x => !decide (x.kind = 2) | none => false) || ((a.any fun x => (upsL x.path).contains e.path) && !decide (e.kind = 2))) := by
  rw [nestE, any_or, any_and]
  congr 1
  rw [Bool.eq_iff_iff, List.any_eq_true, List.any_eq_true]
  constructor
  · rintro ⟨x, hx, hp⟩
    rw [Bool.and_eq_true, List.contains_iff_mem] at hp
    exact ⟨x.path, hp.1, by rw [h.find hx]; exact hp.2⟩
  · rintro ⟨p, hp, hk⟩
    cases hf : findE a p with
    | none => rw [hf] at hk; cases hk
    | some x =>
      rw [hf] at hk
      have hx := List.find?_some hf
      simp at hx
      exact ⟨x, List.mem_of_find?_eq_some hf, by rw [Bool.and_eq_true, List.contains_iff_mem, hx]; exact ⟨hp, hk⟩⟩
end Go.Proofs.YtjhikglgaoncjaaDoor

/- Entries of archives, in plain words: paths, what is wrong with an entry, what is wrong with a list of them. Entries: plain lemmas on paths that stand above, and on what is known of the entries ahead. Right lists of entries, plain: what the check of a list says, and the list of the law on limits. -/
import Derived.Test.YtpheifdpjcppdaaGreatDoorSpl
namespace Go.Proofs.YtpheifdpjcppdaaGreatDoor
/-- An entry. -/
structure En where
  path : List UInt8
  kind : Int
  mode : Int
  uid : Int
  gid : Int
  owner : List UInt8
  group : List UInt8
  mtime : Int
  link : List UInt8
  data : List UInt8
def partOk (p : List UInt8) : Bool := !(decide (p = []) || (decide (p = [46]) || decide (p = [46, 46])))
def pathOk (s : List UInt8) : Bool := !decide (s.length < 1) && (!decide (200 < s.length) && (!s.contains 0 && (partsB 47 s).all partOk))
def ownOk (s : List UInt8) : Bool := decide (s.length ≤ 31) && !s.any fun c => decide (c = 0) || (decide (c = 10) || decide (c = 58))
def tgtOk (s : List UInt8) : Bool := decide (1 ≤ s.length) && (decide (s.length ≤ 200) && !s.any fun c => decide (c = 0) || decide (c = 10))
def numBad (e : En) : Bool := decide (e.mode < 0) || (decide (4095 < e.mode) || (decide (e.uid < 0) || (decide (2097151 < e.uid) || (decide (e.gid < 0) || (decide (2097151 < e.gid) || (decide (e.mtime < 0) || decide (8589934591 < e.mtime)))))))
/-- What is wrong with an entry. -/
def chkE (e : En) : Int :=
  if pathOk e.path = false then 10
  else if e.kind < 1 ∨ 4 < e.kind then 9
  else if numBad e = true then 1
  else if ownOk e.owner = false ∨ ownOk e.group = false then 10
  else if e.kind = 3 ∧ tgtOk e.link = false then 10
  else if e.kind = 4 ∧ (pathOk e.link = false ∨ e.link = e.path) then 10
  else if e.kind ≠ 3 ∧ e.kind ≠ 4 ∧ e.link ≠ [] then 1
  else if e.kind ≠ 1 ∧ e.data ≠ [] then 1
  else if 1048576 < e.data.length then 4
  else 0
/-- The paths that stand above one; acc is what stands ahead. -/
def upP : List UInt8 → List UInt8 → List (List UInt8)
  | _, [] => []
  | acc, c :: t => if c = 47 then acc :: upP (acc ++ [c]) t else upP (acc ++ [c]) t
def upsL (s : List UInt8) : List (List UInt8) := upP [] s
def alikeE (a b : En) : Bool := decide (a.mode = b.mode) && (decide (a.uid = b.uid) && (decide (a.gid = b.gid) && (decide (a.owner = b.owner) && (decide (a.group = b.group) && decide (a.mtime = b.mtime)))))
def hasE (l : List En) (p : List UInt8) : Bool := l.any fun x => decide (x.path = p)
def findE (l : List En) (p : List UInt8) : Option En := l.find? fun x => decide (x.path = p)
/-- What is wrong with a hard link behind those entries. -/
def linkE (a : List En) (e : En) : Int := match findE a e.link with
  | none => 15
  | some x => if x.kind = 1 then (if alikeE e x = true then 0 else 1) else 15
/-- Does it stand under what is no directory, or above one of them and is none? -/
def nestE (a : List En) (e : En) : Bool := a.any fun x => ((upsL e.path).contains x.path && !decide (x.kind = 2)) || ((upsL x.path).contains e.path && !decide (e.kind = 2))
/-- What is wrong with an entry behind those that are right. -/
def badE (a : List En) (e : En) : Int :=
  if chkE e = 0 then
    (if hasE a e.path = true then 8
    else if e.kind = 4 ∧ linkE a e ≠ 0 then linkE a e
    else if nestE a e = true then 9 else 0)
  else chkE e
def goE : List En → List En → Int × Int
  | _, [] => (0, 0)
  | a, e :: t => if badE a e = 0 then goE (a ++ [e]) t else ((a.length : Int), badE a e)
/-- Where a list isn't right, and why. -/
def chkL (l : List En) : Int × Int := if 4096 < l.length then (4096, 4) else goE [] l
end Go.Proofs.YtpheifdpjcppdaaGreatDoor
namespace Go.Proofs.YtpheifdpjcppdaaGreatDoor
theorem up_mem : ∀ (l acc a : List UInt8), a ∈ upP acc l ↔ ∃ s t, l = s ++ 47 :: t ∧ a = acc ++ s
  | [], acc, a => by simp [upP]
  | c :: l, acc, a => by
    rw [upP]
    by_cases hc : c = 47
    · rw [if_pos hc, List.mem_cons, up_mem l (acc ++ [c]) a]
      constructor
      · rintro (h | ⟨s, t, h1, h2⟩)
        · exact ⟨[], l, by rw [hc]; rfl, by simp [h]⟩
        · exact ⟨c :: s, t, by rw [h1]; rfl, by rw [h2]; simp⟩
      · rintro ⟨s, t, h1, h2⟩
        cases s with
        | nil => exact .inl (by simpa using h2)
        | cons d s =>
          injection h1 with e1 e2
          exact .inr ⟨s, t, e2, by rw [h2, ← e1]; simp⟩
    · rw [if_neg hc, up_mem l (acc ++ [c]) a]
      constructor
      · rintro ⟨s, t, h1, h2⟩
        exact ⟨c :: s, t, by rw [h1]; rfl, by rw [h2]; simp⟩
      · rintro ⟨s, t, h1, h2⟩
        cases s with
        | nil => injection h1 with e1 _; exact absurd e1 hc
        | cons d s =>
          injection h1 with e1 e2
          exact ⟨s, t, e2, by rw [h2, ← e1]; simp⟩
theorem ups_mem (a b : List UInt8) : a ∈ upsL b ↔ ∃ t, b = a ++ 47 :: t := by
  rw [upsL, up_mem]
  constructor
  · rintro ⟨s, t, h1, h2⟩
    exact ⟨t, by rw [h1, h2]; simp⟩
  · rintro ⟨t, h⟩
    exact ⟨a, t, h, by simp⟩
/-- Does a path stand above another one, as the document asks it? -/
def aboveL (a b : List UInt8) : Bool := decide (a.length < b.length) && (decide (b.take a.length = a) && decide (b[a.length]? = some 47))
theorem above_is (a b : List UInt8) : aboveL a b = (upsL b).contains a := by
  rw [Bool.eq_iff_iff, List.contains_iff_mem, ups_mem, aboveL]
  simp only [Bool.and_eq_true, decide_eq_true_eq]
  constructor
  · rintro ⟨h1, h2, h3⟩
    rw [List.getElem?_eq_getElem h1] at h3
    injection h3 with h3
    refine ⟨b.drop (a.length + 1), ?_⟩
    conv => lhs; rw [← List.take_append_drop a.length b]
    rw [h2, List.drop_eq_getElem_cons h1, h3]
  · rintro ⟨t, h⟩
    subst h
    refine ⟨by simp, by simp, by simp⟩
theorem any_or {α : Type} (l : List α) (p q : α → Bool) : l.any (fun x => p x || q x) = (l.any p || l.any q) := by
  induction l with
  | nil => rfl
  | cons x t ih => rw [List.any_cons, ih, List.any_cons, List.any_cons]; cases p x <;> cases q x <;> cases t.any p <;> cases t.any q <;> rfl
theorem any_and {α : Type} (l : List α) (p : α → Bool) (b : Bool) : l.any (fun x => p x && b) = (l.any p && b) := by
  induction l with
  | nil => rfl
  | cons x t ih => rw [List.any_cons, ih, List.any_cons]; cases p x <;> cases b <;> cases t.any p <;> rfl
/-- The entries ahead have paths of their own. -/
def Uniq (a : List En) : Prop := ∀ i j (hi : i < a.length) (hj : j < a.length), a[i].path = a[j].path → i = j
/-- What the map of places knows. -/
def AtM (m : List UInt8 → Option Int) (l : List En) (i : Nat) : Prop :=
  ∀ p, (m p = none ∧ hasE (l.take i) p = false) ∨ ∃ (j : Nat) (h : j < l.length), j < i ∧ m p = some (j : Int) ∧ l[j].path = p ∧ findE (l.take i) p = some l[j] ∧ hasE (l.take i) p = true
/-- What the map of the paths above knows. -/
def AbM (m : List UInt8 → Option Int) (a : List En) : Prop := ∀ p, (m p).isSome = a.any fun x => (upsL x.path).contains p
theorem has_find (a : List En) (p : List UInt8) : hasE a p = (findE a p).isSome := by
  rw [hasE, findE, List.isSome_find?]
theorem find_none_of (a : List En) (p : List UInt8) (h : hasE a p = false) : findE a p = none := by
  rw [has_find] at h
  cases hf : findE a p with
  | none => rfl
  | some x => rw [hf] at h; cases h
theorem goE_step (l : List En) (k : Nat) (h : k < l.length) : goE (l.take k) (l.drop k) = if badE (l.take k) l[k] = 0 then goE (l.take (k + 1)) (l.drop (k + 1)) else ((k : Int), badE (l.take k) l[k]) := by
  rw [List.drop_eq_getElem_cons h, goE, List.take_succ_eq_append_getElem h, List.length_take, Nat.min_eq_left (by omega)]
theorem hasE_snoc (a : List En) (e : En) (p : List UInt8) : hasE (a ++ [e]) p = (hasE a p || decide (e.path = p)) := by
  rw [hasE, List.any_append]; simp [hasE]
theorem findE_snoc (a : List En) (e : En) (p : List UInt8) : findE (a ++ [e]) p = (findE a p).or (if e.path = p then some e else none) := by
  rw [findE, List.find?_append]
  by_cases h : e.path = p
  · simp [findE, h]
  · simp [findE, h]
theorem Uniq.snoc {a : List En} {e : En} (h : Uniq a) (hn : hasE a e.path = false) : Uniq (a ++ [e]) := by
  have hx : ∀ i (hi : i < a.length), a[i].path ≠ e.path := fun i hi e2 => by
    have : hasE a e.path = true := List.any_eq_true.2 ⟨a[i], List.getElem_mem hi, by simpa using e2⟩
    rw [hn] at this; cases this
  intro i j hi hj hp
  simp at hi hj
  by_cases h1 : i < a.length
  · by_cases h2 : j < a.length
    · rw [List.getElem_append_left h1, List.getElem_append_left h2] at hp
      exact h i j h1 h2 hp
    · have : j = a.length := by omega
      subst this
      rw [List.getElem_append_left h1] at hp
      simp at hp
      exact absurd hp (hx i h1)
  · have : i = a.length := by omega
    subst this
    by_cases h2 : j < a.length
    · rw [List.getElem_append_left h2] at hp
      simp at hp
      exact absurd hp.symm (hx j h2)
    · omega
theorem Uniq.find {a : List En} (h : Uniq a) {x : En} (hx : x ∈ a) : findE a x.path = some x := by
  obtain ⟨i, hi, rfl⟩ := List.getElem_of_mem hx
  cases hf : findE a a[i].path with
  | none =>
    have := List.find?_eq_none.1 hf a[i] (List.getElem_mem hi)
    simp at this
  | some y =>
    have hy := List.mem_of_find?_eq_some hf
    have hp := List.find?_some hf
    obtain ⟨j, hj, rfl⟩ := List.getElem_of_mem hy
    have hp2 : a[j].path = a[i].path := by simpa using hp
    have := h i j hi hj hp2.symm
    subst this
    rfl
theorem AtM.nil (l : List En) : AtM (fun _ => none) l 0 := fun p => .inl ⟨rfl, by simp [hasE]⟩
theorem AtM.known {m : List UInt8 → Option Int} {l : List En} {i : Nat} (h : AtM m l i) (p : List UInt8) : (m p).isSome = hasE (l.take i) p := by
  rcases h p with ⟨h1, h2⟩ | ⟨j, _, _, h1, _, _, h2⟩
  · rw [h1, h2]; rfl
  · rw [h1, h2]; rfl
theorem AtM.put {m : List UInt8 → Option Int} {l : List En} {i : Nat} (h : AtM m l i) (hi : i < l.length) (hn : hasE (l.take i) l[i].path = false) :
    AtM (fun p => if p = l[i].path then some (i : Int) else m p) l (i + 1) := fun p => by
  have ht := List.take_succ_eq_append_getElem hi
  rw [ht, hasE_snoc, findE_snoc]
  by_cases hp : p = l[i].path
  · subst hp
    right
    refine ⟨i, hi, by omega, by simp, rfl, ?_, by simp⟩
    rw [find_none_of _ _ hn]; simp
  · have hp2 : ¬ l[i].path = p := fun e => hp e.symm
    rcases h p with ⟨h1, h2⟩ | ⟨j, hj, hji, h1, h2, h3, h4⟩
    · left
      refine ⟨by simp [hp, h1], by simp [h2, hp2]⟩
    · right
      exact ⟨j, hj, by omega, by simp [hp, h1], h2, by rw [h3]; rfl, by rw [h4]; rfl⟩
theorem AbM.nil : AbM (fun _ => none) [] := fun _ => rfl
/-- As the maps see it. -/
theorem nest_maps {a : List En} (h : Uniq a) (e : En) : nestE a e = ((upsL e.path).any (fun p => match findE a p with | some x => !decide (x.kind = 2) | none => false) || ((a.any fun x => (upsL x.path).contains e.path) && !decide (e.kind = 2))) := by
  rw [nestE, any_or, any_and]
  congr 1
  rw [Bool.eq_iff_iff, List.any_eq_true, List.any_eq_true]
  constructor
  · rintro ⟨x, hx, hp⟩
    rw [Bool.and_eq_true, List.contains_iff_mem] at hp
    exact ⟨x.path, hp.1, by rw [h.find hx]; exact hp.2⟩
  · rintro ⟨p, hp, hk⟩
    cases hf : findE a p with
    | none => rw [hf] at hk; cases hk
    | some x =>
      rw [hf] at hk
      have hx := List.find?_some hf
      simp at hx
      exact ⟨x, List.mem_of_find?_eq_some hf, by rw [Bool.and_eq_true, List.contains_iff_mem, hx]; exact ⟨hp, hk⟩⟩
end Go.Proofs.YtpheifdpjcppdaaGreatDoor
namespace Go.Proofs.YtpheifdpjcppdaaGreatDoor
/-- A list of entries that is right. -/
structure Rt (l : List En) : Prop where
  len : l.length ≤ 4096
  chk : ∀ e ∈ l, chkE e = 0
  uniq : (l.map En.path).Nodup
  hard : ∀ (k : Nat) (h : k < l.length), l[k].kind = 4 → ∃ (j : Nat) (hj : j < k), l[j].path = l[k].link ∧ l[j].kind = 1 ∧ alikeE l[k] l[j] = true
  nest : ∀ x ∈ l, ∀ y ∈ l, x.path ∈ upsL y.path → x.kind = 2
theorem goE_zero : ∀ (l a : List En), ((goE a l).2 = 0 ↔ ∀ k (h : k < l.length), badE (a ++ l.take k) l[k] = 0) ∧ ((goE a l).2 = 0 → goE a l = (0, 0))
  | [], a => ⟨⟨fun _ k h => by simp at h, fun _ => rfl⟩, fun _ => rfl⟩
  | e :: t, a => by
    rw [goE]
    by_cases hb : badE a e = 0
    · rw [if_pos hb]
      obtain ⟨h1, h2⟩ := goE_zero t (a ++ [e])
      refine ⟨h1.trans ⟨fun h k hk => ?_, fun h k hk => ?_⟩, h2⟩
      · cases k with
        | zero => simpa using hb
        | succ k =>
          have := h k (by simpa using hk)
          simpa using this
      · have := h (k + 1) (by simpa using hk)
        simpa using this
    · rw [if_neg hb]
      refine ⟨⟨fun h => absurd h hb, fun h => ?_⟩, fun h => absurd h hb⟩
      have := h 0 (by simp)
      simpa using this
theorem badE_zero (a : List En) (e : En) : badE a e = 0 ↔ chkE e = 0 ∧ hasE a e.path = false ∧ (e.kind = 4 → linkE a e = 0) ∧ nestE a e = false := by
  rw [badE]
  by_cases h1 : chkE e = 0
  · rw [if_pos h1]
    by_cases h2 : hasE a e.path = true
    · rw [if_pos h2]; simp [h2]
    · rw [if_neg h2]
      by_cases h3 : e.kind = 4 ∧ linkE a e ≠ 0
      · rw [if_pos h3]
        exact ⟨fun h => absurd h h3.2, fun h => absurd (h.2.2.1 h3.1) h3.2⟩
      · rw [if_neg h3]
        by_cases h4 : nestE a e = true
        · rw [if_pos h4]; simp [h4]
        · rw [if_neg h4]
          refine ⟨fun _ => ⟨h1, by simpa using h2, fun hk => ?_, by simpa using h4⟩, fun _ => rfl⟩
          exact Decidable.byContradiction fun hn => h3 ⟨hk, hn⟩
  · rw [if_neg h1]
    exact ⟨fun h => absurd h h1, fun h => absurd h.1 h1⟩
theorem linkE_zero (a : List En) (e : En) : linkE a e = 0 ↔ ∃ x, findE a e.link = some x ∧ x.kind = 1 ∧ alikeE e x = true := by
  rw [linkE]
  cases hf : findE a e.link with
  | none => simp
  | some x =>
    simp only [Option.some.injEq]
    by_cases h1 : x.kind = 1
    · rw [if_pos h1]
      cases h2 : alikeE e x with
      | true => simp [h1, h2]
      | false => simp [h1, h2]
    · rw [if_neg h1]; simp [h1]
theorem ups_irrefl (p : List UInt8) : p ∉ upsL p := by
  rw [ups_mem]
  rintro ⟨t, h⟩
  have := congrArg List.length h
  simp at this
theorem nodup_paths {l : List En} (h : (l.map En.path).Nodup) {i j : Nat} (hi : i < l.length) (hj : j < l.length) (he : l[i].path = l[j].path) : i = j := by
  have := (List.getElem_inj (h₀ := by simpa using hi) (h₁ := by simpa using hj) h).1 (by simpa using he)
  exact this
theorem path_inj {l : List En} (h : (l.map En.path).Nodup) {a b : En} (ha : a ∈ l) (hb : b ∈ l) (he : a.path = b.path) : a = b := by
  obtain ⟨i, hi, rfl⟩ := List.getElem_of_mem ha
  obtain ⟨j, hj, rfl⟩ := List.getElem_of_mem hb
  obtain rfl := nodup_paths h hi hj he
  rfl
theorem find_some {l : List En} {p : List UInt8} {x : En} (h : findE l p = some x) : x ∈ l ∧ x.path = p := by
  refine ⟨List.mem_of_find?_eq_some h, ?_⟩
  have := List.find?_some h
  simpa using this
theorem find_of {l : List En} (hn : (l.map En.path).Nodup) {x : En} (hx : x ∈ l) : findE l x.path = some x := by
  cases hf : findE l x.path with
  | none =>
    rw [findE, List.find?_eq_none] at hf
    exact absurd (by simp) (hf x hx)
  | some y =>
    obtain ⟨h1, h2⟩ := find_some hf
    rw [path_inj hn h1 hx h2]
theorem hasE_iff (l : List En) (p : List UInt8) : hasE l p = true ↔ ∃ x ∈ l, x.path = p := by simp [hasE]
theorem rt_iff (l : List En) (hl : l.length ≤ 4096) : (∀ k (h : k < l.length), badE (l.take k) l[k] = 0) ↔ Rt l := by
  constructor
  · intro h
    have hk := fun k hk => (badE_zero _ _).1 (h k hk)
    have hlt : ∀ (i j : Nat) (hi : i < l.length) (hj : j < l.length), i < j → l[i] ∈ l.take j := fun i j hi hj hij => List.mem_take_iff_getElem.2 ⟨i, by omega, rfl⟩
    have hu : (l.map En.path).Nodup := by
      rw [List.Nodup, List.pairwise_iff_getElem]
      intro i j hi hj hij
      have hj' : j < l.length := by simpa using hj
      have h2 := (hk j hj').2.1
      simp only [List.getElem_map]
      intro e
      have : hasE (l.take j) l[j].path = true := (hasE_iff _ _).2 ⟨l[i]'(by omega), hlt i j (by omega) hj' hij, e⟩
      rw [this] at h2; cases h2
    have hnest : ∀ (i j : Nat) (hi : i < l.length) (hj : j < l.length), i < j → (l[i].path ∈ upsL l[j].path → l[i].kind = 2) ∧ (l[j].path ∈ upsL l[i].path → l[j].kind = 2) := by
      intro i j hi hj hij
      have h4 := (hk j hj).2.2.2
      rw [nestE, List.any_eq_false] at h4
      have := h4 _ (hlt i j hi hj hij)
      simp only [Bool.or_eq_true, Bool.and_eq_true, List.contains_iff_mem, Bool.not_eq_true', decide_eq_false_iff_not, not_or, not_and, Decidable.not_not] at this
      exact this
    refine ⟨hl, fun e he => ?_, hu, fun k hk' h4 => ?_, fun x hx y hy hm => ?_⟩
    · obtain ⟨k, hk', rfl⟩ := List.getElem_of_mem he
      exact (hk k hk').1
    · obtain ⟨x, h1, h2, h3⟩ := (linkE_zero _ _).1 ((hk k hk').2.2.1 h4)
      obtain ⟨h5, h6⟩ := find_some h1
      obtain ⟨j, hj, rfl⟩ := List.mem_take_iff_getElem.1 h5
      exact ⟨j, by omega, h6, h2, h3⟩
    · obtain ⟨i, hi, rfl⟩ := List.getElem_of_mem hx
      obtain ⟨j, hj, rfl⟩ := List.getElem_of_mem hy
      rcases Nat.lt_trichotomy i j with hij | hij | hij
      · exact (hnest i j hi hj hij).1 hm
      · subst hij; exact absurd hm (ups_irrefl _)
      · exact (hnest j i hj hi hij).2 hm
  · intro h k hk
    rw [badE_zero]
    have hm : ∀ x ∈ l.take k, x ∈ l := fun x hx => List.mem_of_mem_take hx
    refine ⟨h.chk _ (List.getElem_mem hk), ?_, fun h4 => ?_, ?_⟩
    · cases hh : hasE (l.take k) l[k].path with
      | false => rfl
      | true =>
        obtain ⟨x, hx, he⟩ := (hasE_iff _ _).1 hh
        obtain ⟨j, hj, rfl⟩ := List.mem_take_iff_getElem.1 hx
        have := nodup_paths h.uniq (by omega) hk he
        omega
    · obtain ⟨j, hj, h1, h2, h3⟩ := h.hard k hk h4
      refine (linkE_zero _ _).2 ⟨l[j], ?_, h2, h3⟩
      rw [← h1]
      refine find_of ?_ (List.mem_take_iff_getElem.2 ⟨j, by omega, rfl⟩)
      rw [List.map_take]
      exact List.Nodup.sublist (List.take_sublist _ _) h.uniq
    · rw [nestE, List.any_eq_false]
      intro x hx
      simp only [Bool.or_eq_true, Bool.and_eq_true, List.contains_iff_mem, Bool.not_eq_true', decide_eq_false_iff_not, not_or, not_and, Decidable.not_not]
      exact ⟨fun hc => h.nest x (hm x hx) _ (List.getElem_mem hk) hc, fun hc => h.nest _ (List.getElem_mem hk) x (hm x hx) hc⟩
theorem chk_rt (l : List En) : (chkL l).2 = 0 ↔ Rt l := by
  rw [chkL]
  by_cases h : 4096 < l.length
  · rw [if_pos h]
    exact ⟨fun h0 => absurd h0 (by decide), fun hr => absurd hr.len (by omega)⟩
  · rw [if_neg h, (goE_zero l []).1]
    simp only [List.nil_append]
    exact rt_iff l (by omega)
theorem rt_chk {l : List En} (h : Rt l) : chkL l = (0, 0) := by
  have h2 := (chk_rt l).2 h
  rw [chkL, if_neg (by have := h.len; omega)] at h2 ⊢
  exact (goE_zero l []).2 h2
/-- The i-th path of the law on limits. -/
def b3 (i : Nat) : List UInt8 := [UInt8.ofNat (97 + i % 16), UInt8.ofNat (97 + i / 16 % 16), UInt8.ofNat (97 + i / 256)]
def mkE (i : Nat) : En := ⟨b3 i, 1, 0, 0, 0, [], [], 0, [], []⟩
def mkL (n : Nat) : List En := (List.range n).map mkE
theorem mkL_succ (n : Nat) : mkL (n + 1) = mkL n ++ [mkE n] := by simp [mkL, List.range_succ]
theorem mkL_len (n : Nat) : (mkL n).length = n := by simp [mkL]
theorem path3 (a b c : UInt8) (ha : a ≠ 47 ∧ a ≠ 0 ∧ a ≠ 46) (hb : b ≠ 47 ∧ b ≠ 0) (hc : c ≠ 47 ∧ c ≠ 0) : pathOk [a, b, c] = true := by
  simp [pathOk, partsB, splitP, partOk, ha.1, hb.1, hc.1, Ne.symm ha.2.1, Ne.symm hb.2, Ne.symm hc.2]
theorem ofNat_ne (n : Nat) (h : n < 256) (m : UInt8) (hm : m.toNat < n) : UInt8.ofNat n ≠ m := by
  intro e
  have := congrArg UInt8.toNat e
  rw [UInt8.toNat_ofNat'] at this
  omega
theorem mkE_chk (i : Nat) (h : i < 5000) : chkE (mkE i) = 0 := by
  have e : pathOk (b3 i) = true := path3 _ _ _ ⟨ofNat_ne _ (by omega) _ (by show 47 < _; omega), ofNat_ne _ (by omega) _ (by show 0 < _; omega), ofNat_ne _ (by omega) _ (by show 46 < _; omega)⟩
    ⟨ofNat_ne _ (by omega) _ (by show 47 < _; omega), ofNat_ne _ (by omega) _ (by show 0 < _; omega)⟩ ⟨ofNat_ne _ (by omega) _ (by show 47 < _; omega), ofNat_ne _ (by omega) _ (by show 0 < _; omega)⟩
  rw [chkE, if_neg (by rw [show (mkE i).path = b3 i from rfl, e]; simp)]
  rfl
theorem b3_inj (i j : Nat) (hi : i < 5000) (hj : j < 5000) (h : b3 i = b3 j) : i = j := by
  simp only [b3, List.cons.injEq, and_true] at h
  obtain ⟨h1, h2, h3⟩ := h
  have h1 := congrArg UInt8.toNat h1
  have h2 := congrArg UInt8.toNat h2
  have h3 := congrArg UInt8.toNat h3
  rw [UInt8.toNat_ofNat', UInt8.toNat_ofNat'] at h1 h2 h3
  omega
theorem mkL_rt (n : Nat) (h : n ≤ 4096) : Rt (mkL n) where
  len := by rw [mkL_len]; exact h
  chk e he := by
    obtain ⟨i, hi, rfl⟩ := List.mem_map.1 he
    exact mkE_chk i (by have := List.mem_range.1 hi; omega)
  uniq := by
    rw [List.Nodup, List.pairwise_iff_getElem]
    intro i j hi hj hij e
    simp only [mkL, List.getElem_map, List.getElem_range] at e
    have := b3_inj i j (by simp [mkL] at hi; omega) (by simp [mkL] at hj; omega) e
    omega
  hard k hk h4 := by
    simp only [mkL, List.getElem_map] at h4
    exact absurd (show (1 : Int) = 4 from h4) (by decide)
  nest x hx y hy hm := by
    obtain ⟨i, _, rfl⟩ := List.mem_map.1 hx
    obtain ⟨j, _, rfl⟩ := List.mem_map.1 hy
    obtain ⟨t, ht⟩ := (ups_mem _ _).1 hm
    have := congrArg List.length ht
    simp [mkE, b3] at this
theorem mkL_chk (n : Nat) : chkL (mkL n) = if 4096 < n then (4096, 4) else (0, 0) := by
  by_cases h : 4096 < n
  · rw [if_pos h, chkL, mkL_len, if_pos h]
  · rw [if_neg h]; exact rt_chk (mkL_rt n (by omega))
end Go.Proofs.YtpheifdpjcppdaaGreatDoor

/- A region that draws its order, of which operations come in whatever order they may: each is told by what its value is in every world that has grown (R), the quiet ones that need no other go first. Over any program. -/
import Derived.Test.YtpheifdpjcppdaaGreatDoorPlaF
import Derived.Test.YtpheifdpjcppdaaGreatDoorBasM
namespace Go.Proofs.YtpheifdpjcppdaaGreatDoor
open Go Go.RowKit
section
variable {P : Program} {ops : Array Oper} {Q : Exit → Act → World → Prop} {S : World → Prop}
/-- The slots ds of an activation hold what u says. -/
def mixA (a : Act) (ds : List Nat) (u : Nat → Value) : Act := ds.foldl (fun b d => b.put (some d) (u d)) a
theorem mix_get : ∀ (ds : List Nat) (a : Act) (u : Nat → Value) (j : Nat), (mixA a ds u).tmps[j]? = if j ∈ ds then (a.tmps[j]?).map (fun _ => u j) else a.tmps[j]?
  | [], a, u, j => by simp [mixA]
  | d :: ds, a, u, j => by
    have ih := mix_get ds (a.put (some d) (u d)) u j
    show (mixA (a.put (some d) (u d)) ds u).tmps[j]? = _
    rw [ih]
    simp only [Act.put, List.mem_cons]
    by_cases hd : d = j
    · subst hd
      rw [Array.getElem?_setIfInBounds_self]
      by_cases hlt : d < a.tmps.size
      · simp [hlt]
      · simp [hlt]
    · rw [Array.getElem?_setIfInBounds_ne hd]
      simp [Ne.symm hd]
theorem mix_defers : ∀ (ds : List Nat) (a : Act) (u : Nat → Value), (mixA a ds u).defers = a.defers
  | [], _, _ => rfl
  | d :: ds, a, u => mix_defers ds (a.put (some d) (u d)) u
theorem act_ext {a b : Act} (h : ∀ j : Nat, a.tmps[j]? = b.tmps[j]?) (h2 : a.defers = b.defers) : a = b := by
  obtain ⟨t, d⟩ := a
  obtain ⟨t', d'⟩ := b
  have : t = t' := Array.ext_getElem? h
  subst this
  have : d = d' := h2
  subst this
  rfl
theorem mix_put {a : Act} {ds : List Nat} {u : Nat → Value} {d : Nat} (hd : d ∈ ds) (v : Value) : (mixA a ds u).put (some d) v = mixA a ds fun x => if x = d then v else u x := by
  refine act_ext (fun j => ?_) ?_
  · rw [mix_get]
    simp only [Act.put]
    by_cases hj : d = j
    · subst hj
      rw [Array.getElem?_setIfInBounds_self, if_pos hd, if_pos rfl]
      have := mix_get ds a u d
      rw [if_pos hd] at this
      by_cases hlt : d < a.tmps.size
      · have h2 : d < (mixA a ds u).tmps.size := by
          rcases Nat.lt_or_ge d (mixA a ds u).tmps.size with h | h
          · exact h
          · rw [Array.getElem?_eq_none h, Array.getElem?_eq_getElem hlt] at this; cases this
        simp [h2, hlt]
      · have h2 : ¬ d < (mixA a ds u).tmps.size := fun h => by
          rw [Array.getElem?_eq_getElem h, Array.getElem?_eq_none (by omega)] at this; cases this
        simp [h2, hlt]
    · rw [Array.getElem?_setIfInBounds_ne hj, mix_get, if_neg (Ne.symm hj)]
  · rw [mix_defers]
    exact mix_defers ds a u
theorem mix_self (a : Act) (ds : List Nat) : a = mixA a ds fun d => a.tmps.getD d undef := by
  refine act_ext (fun j => ?_) (mix_defers ds a _).symm
  rw [mix_get]
  split
  · by_cases hlt : j < a.tmps.size
    · simp [hlt]
    · simp [hlt]
  · rfl
def dstN (ops : Array Oper) (k : Nat) : Option Nat := (ops[k]?).bind (·.dst)
def waitsFor (o : Oper) (k : Nat) : Bool := o.after.any fun e => Region.binds .any e && e.on == k
/-- What stands while the operations of rem come in whatever order. -/
structure Inv (ops : Array Oper) (R : Nat → Value → World → Prop) (S : World → Prop) (a0 : Act) (ds rem tail : List Nat) (fin : Option Nat) (listed : Array Bool) (a : Act) (w : World) : Prop where
  sz : listed.size = ops.size
  out : ∀ k, k < ops.size → k ∉ rem → k ∉ tail → listed.getD k true = true
  tl : ∀ k ∈ tail, listed.getD k true = false
  st : S w
  fn : ∀ i, fin = some i → listed.getD i true = false
  u : ∃ u, a = mixA a0 ds u ∧ ∀ k ∈ rem, listed.getD k true = true → ∀ d, dstN ops k = some d → R k (u d) w
/-- What is to be shown of one operation. -/
def StepO (P : Program) (ops : Array Oper) (Q : Exit → Act → World → Prop) (R : Nat → Value → World → Prop) (S : World → Prop) (a0 : Act) (ds rem : List Nat) (i : Nat) : Prop :=
  ∃ o, ops[i]? = some o ∧ ∀ u w, S w → (∀ k ∈ rem, waitsFor o k = true → ∀ d, dstN ops k = some d → R k (u d) w) →
    ∀ K : Act → World → Prop, (∀ v w', R i v w' → (Below w.heap.size w w' ∨ ((∀ k x, R k x w → R k x w') ∧ S w')) → K ((mixA a0 ds u).put o.dst v) w') → o.wp P (mixA a0 ds u) w K Q
/-- What comes behind the last one, one after the other, and leaves the world alone. -/
def wpTail (P : Program) (Q : Exit → Act → World → Prop) : List Oper → Act → World → Prop
  | [], a, w => Q .normal a w
  | o :: r, a, w => o.wp P a w (fun a' w' => w' = w ∧ wpTail P Q r a' w') Q
def tailOk (ops : Array Oper) : List Nat → Array Bool → Bool
  | [], l => (Region.ready .any ops l).isEmpty
  | i :: r, l => decide (Region.ready .any ops l = [i]) && (match ops[i]? with | some o => o.guard.isNone | none => false) && tailOk ops r (l.setIfInBounds i true)
def tailL (ops : Array Oper) (tail : List Nat) : Array Bool := ((List.range ops.size).map fun k => !tail.contains k).toArray
/-- It is one of the tail's, by its slot. -/
def wkS (l : List Nat) (o : Oper) : Bool := match o.dst with | some d => l.contains d | none => false
theorem anyI_tail {wk : Oper → Bool} : ∀ (tail : List Nat) (l : List Oper) (listed : Array Bool) (fuel : Nat) (a : Act) (w : World), l.length = tail.length → (∀ (k i : Nat), tail[k]? = some i → ∃ o, ops[i]? = some o ∧ l[k]? = some o) →
    tailOk ops tail listed = true → tail.length ≤ fuel → wpTail P Q l a w → anyI P ops wk S tt Q fuel listed a w
  | [], [], listed, fuel, a, w, _, _, hB, _, h => by
    have hr : Region.ready .any ops listed = [] := by simpa [tailOk] using hB
    cases fuel with
    | zero => exact ⟨hr, h⟩
    | succ fuel => exact ⟨fun _ => h, fun j hj => by rw [hr] at hj; cases hj⟩
  | [], _ :: _, _, _, _, _, hl, _, _, _, _ => by simp at hl
  | _ :: _, [], _, _, _, _, hl, _, _, _, _ => by simp at hl
  | i :: tail, o :: l, listed, fuel, a, w, hl, hat, hB, hf, h => by
    obtain ⟨o', ho, he⟩ := hat 0 i rfl
    obtain rfl := Option.some.inj (he : some o = some o')
    have hat' : ∀ (k i : Nat), tail[k]? = some i → ∃ o, ops[i]? = some o ∧ l[k]? = some o := fun k i hk => by
      have := hat (k + 1) i (by simpa using hk)
      simpa using this
    simp only [tailOk, Bool.and_eq_true, decide_eq_true_eq, ho] at hB
    obtain ⟨⟨hr, hg⟩, hB'⟩ := hB
    have hg' : o.guard = none := by simpa using hg
    obtain ⟨fuel, rfl⟩ : ∃ f, fuel = f + 1 := ⟨fuel - 1, by simp at hf; omega⟩
    refine ⟨(fun h0 => by rw [hr] at h0; cases h0), fun j hj => ?_⟩
    rw [hr] at hj
    obtain rfl : j = i := by simpa using hj
    unfold wpOp
    simp only [ho, show Region.wanted o (yielded ops a.tmps) = true by simp [Region.wanted, hg'], if_true]
    refine .inl (Oper.wp_mono (fun a' w' hh => ?_) h)
    obtain ⟨rfl, hh⟩ := hh
    exact ⟨fun hS => .inl hS, fun _ => trivial, anyI_tail tail l _ fuel a' _ (by simpa using hl) hat' hB' (by simp at hf; omega) hh⟩
/-- What is to be shown of the last one. -/
def FinO (P : Program) (ops : Array Oper) (Q : Exit → Act → World → Prop) (R : Nat → Value → World → Prop) (S : World → Prop) (a0 : Act) (ds rem : List Nat) (tl : List Oper) (i : Nat) : Prop :=
  ∃ o, ops[i]? = some o ∧ ∀ u w, S w → (∀ k ∈ rem, k ≠ i → ∀ d, dstN ops k = some d → R k (u d) w) → ∀ K : Act → World → Prop, (∀ a' w', wpTail P Q tl a' w' → K a' w') → o.wp P (mixA a0 ds u) w K Q
def EndO (ops : Array Oper) (Q : Exit → Act → World → Prop) (R : Nat → Value → World → Prop) (S : World → Prop) (a0 : Act) (ds rem : List Nat) : Prop :=
  ∀ u w, S w → (∀ k ∈ rem, ∀ d, dstN ops k = some d → R k (u d) w) → Q .normal (mixA a0 ds u) w
/-- Each waits for earlier ones alone; the last one waits for all; the slots are apart. -/
def relOk (ops : Array Oper) (ds rem tail tds : List Nat) (fin : Option Nat) : Bool :=
  ((List.range ops.size).all fun k => match ops[k]? with
    | some o => (o.after.all fun e => !Region.binds .any e || decide (e.on < k))
    | none => false) &&
  (rem.all fun k => match ops[k]? with
    | some o => o.guard.isNone && (match o.dst with
      | some d => ds.contains d && (rem.all fun k' => k' == k || dstN ops k' != some d)
      | none => true)
    | none => false) &&
  (match fin with
    | some i => rem.contains i && (match ops[i]? with
      | some o => (lastO (wkS tds) ops o) && (rem.all fun k => k == i || waitsFor o k)
      | none => false) && (tail.all fun k => match ops[k]? with | some o => waitsFor o i && !rem.contains k | none => false) && tailOk ops tail (tailL ops tail)
    | none => tail.isEmpty)
theorem getD_lt {listed : Array Bool} {i : Nat} (h : listed.getD i true = false) : i < listed.size := by
  rcases Nat.lt_or_ge i listed.size with h' | h'
  · exact h'
  · simp [Array.getElem?_eq_none h'] at h
theorem getD_tf {listed : Array Bool} {i : Nat} (h : i < listed.size) : listed.getD i true = listed.getD i false := by simp [h]
theorem set_get {listed : Array Bool} {i j : Nat} (h : (listed.setIfInBounds i true).getD j true = false) : j ≠ i ∧ listed.getD j true = false := by
  have hne : j ≠ i := fun e => by
    subst e
    have hl := getD_lt h
    rw [Array.size_setIfInBounds] at hl
    simp [hl] at h
  exact ⟨hne, by rw [getD_set_ne true (Ne.symm hne)] at h; exact h⟩
/-- Where not all have come there is one that can. -/
theorem ready_some {ds rem tail tds : List Nat} {fin : Option Nat} (hB : relOk ops ds rem tail tds fin = true) {listed : Array Bool} (hsz : listed.size = ops.size) :
    ∀ (n k : Nat), k < n → listed.getD k true = false → Region.ready .any ops listed ≠ [] := by
  intro n
  induction n with
  | zero => intro k h; omega
  | succ n ih =>
    intro k hk hl hr
    have hlt := getD_lt hl
    simp only [relOk, Bool.and_eq_true] at hB
    have hk1 := List.all_eq_true.1 hB.1.1 k (List.mem_range.2 (by omega))
    obtain ⟨o, ho⟩ : ∃ o, ops[k]? = some o := ⟨_, Array.getElem?_eq_getElem (by omega)⟩
    simp only [ho] at hk1
    have hw := Array.all_eq_true_iff_forall_mem.1 hk1
    by_cases hall : ∀ e ∈ o.after, Region.binds .any e = true → listed.getD e.on false = true
    · have : k ∈ Region.ready .any ops listed := mem_ready.2 ⟨hl, o, ho, hall⟩
      rw [hr] at this; cases this
    · simp only [Classical.not_forall] at hall
      obtain ⟨e, he, hb, hf⟩ := hall
      have h1 := hw e he
      rw [hb] at h1
      have h2 : e.on < k := by simpa using h1
      refine ih e.on (by omega) ?_ hr
      rw [getD_tf (by omega)]
      simpa using hf
theorem anyI_rel {R : Nat → Value → World → Prop} {a0 : Act} {ds rem tail tds : List Nat} {fin : Option Nat} (hB : relOk ops ds rem tail tds fin = true) (hgrow : ∀ k v w w', R k v w → Below w.heap.size w w' → R k v w') (hSg : ∀ w w', S w → Below w.heap.size w w' → S w')
    (hstep : ∀ i ∈ rem, fin ≠ some i → StepO P ops Q R S a0 ds rem i) (hfin : ∀ i, fin = some i → FinO P ops Q R S a0 ds rem (tail.map fun k => ops[k]?.getD default) i) (hend : fin = none → EndO ops Q R S a0 ds rem) (hnd : tail.Nodup) :
    ∀ (fuel : Nat) (T : List Nat) (listed : Array Bool) (a : Act) (w : World), Inv ops R S a0 ds rem tail fin listed a w → (∀ k, listed.getD k true = false → k ∈ T) → T.length ≤ fuel → anyI P ops (wkS tds) S tt Q fuel listed a w := by
  have done : ∀ (listed : Array Bool) (a : Act) (w : World), Inv ops R S a0 ds rem tail fin listed a w → (Region.ready .any ops listed = [] → Q .normal a w) := fun listed a w hI hr => by
    have hall : ∀ k, listed.getD k true = true := fun k => by
      cases hk : listed.getD k true with
      | true => rfl
      | false => exact absurd hr (ready_some hB hI.sz (k + 1) k (by omega) hk)
    cases hf : fin with
    | some i =>
      have := hI.fn i hf
      rw [hall i] at this; cases this
    | none =>
      obtain ⟨u, rfl, hu⟩ := hI.u
      exact hend hf u w hI.st fun k hk d hd => hu k hk (hall k) d hd
  intro fuel
  induction fuel with
  | zero =>
    intro T listed a w hI hT hl
    have hT0 : T = [] := List.eq_nil_of_length_eq_zero (by omega)
    have hall : ∀ k, listed.getD k true = true := fun k => by
      cases hk : listed.getD k true with
      | true => rfl
      | false => have := hT k hk; rw [hT0] at this; cases this
    have hr : Region.ready .any ops listed = [] := by
      cases hq : Region.ready .any ops listed with
      | nil => rfl
      | cons j t =>
        have hj : j ∈ Region.ready .any ops listed := by rw [hq]; exact .head _
        have := (mem_ready.1 hj).1
        rw [hall j] at this; cases this
    exact ⟨hr, done listed a w hI hr⟩
  | succ fuel ih =>
    intro T listed a w hI hT hl
    refine ⟨done listed a w hI, fun i hi => ?_⟩
    obtain ⟨hun, o, ho, hwait⟩ := mem_ready.1 hi
    have hilt := getD_lt hun
    have hB' := hB
    simp only [relOk, Bool.and_eq_true] at hB'
    have hnt : i ∉ tail := fun h => by
      have hB2 := hB'.2
      cases hf : fin with
      | none =>
        rw [hf] at hB2
        have : tail = [] := by simpa using hB2
        rw [this] at h; cases h
      | some j =>
        rw [hf] at hB2
        simp only [Bool.and_eq_true] at hB2
        have h1 := List.all_eq_true.1 hB2.1.2 i h
        simp only [ho, Bool.and_eq_true] at h1
        obtain ⟨q, hq, he⟩ := Array.any_eq_true.1 h1.1
        simp only [Bool.and_eq_true, beq_iff_eq] at he
        have h2 := hwait o.after[q] (Array.getElem_mem hq) he.1
        rw [he.2] at h2
        have h3 := hI.fn j hf
        rw [getD_tf (getD_lt h3), h2] at h3
        cases h3
    have hmem : i ∈ rem := Classical.byContradiction fun h => by
      have := hI.out i (by rw [← hI.sz]; exact hilt) h hnt
      rw [hun] at this; cases this
    have hk1 := List.all_eq_true.1 hB'.1.2 i hmem
    simp only [ho, Bool.and_eq_true] at hk1
    have hg : o.guard = none := by simpa using hk1.1
    have hwant : ∀ ys, Region.wanted o ys = true := fun ys => by simp [Region.wanted, hg]
    obtain ⟨u, rfl, hu⟩ := hI.u
    have hlisted : ∀ k ∈ rem, waitsFor o k = true → listed.getD k true = true := fun k _ hk => by
      obtain ⟨j, hj, he⟩ := Array.any_eq_true.1 hk
      simp only [Bool.and_eq_true, beq_iff_eq] at he
      have := hwait o.after[j] (Array.getElem_mem hj) he.1
      rw [he.2] at this
      rcases Nat.lt_or_ge k listed.size with h | h
      · rw [getD_tf h]; exact this
      · simp [Array.getElem?_eq_none h]
    unfold wpOp
    simp only [ho, hwant, if_true]
    refine .inl ?_
    have hT' : ∀ k, (listed.setIfInBounds i true).getD k true = false → k ∈ T.erase i := fun k hk => by
      obtain ⟨h1, h2⟩ := set_get hk
      exact (List.mem_erase_of_ne h1).2 (hT k h2)
    have hTl : (T.erase i).length ≤ fuel := by
      rw [List.length_erase_of_mem (hT i hun)]; omega
    by_cases hf : fin = some i
    · obtain ⟨o', ho', hF⟩ := hfin i hf
      obtain rfl := Option.some.inj (ho.symm.trans ho')
      have hB2 := hB'.2
      rw [hf] at hB2
      simp only [ho, Bool.and_eq_true] at hB2
      obtain ⟨⟨⟨_, hlast, hw2⟩, htl⟩, htok⟩ := hB2
      have hall : ∀ k, k ≠ i → k ∉ tail → listed.getD k true = true := fun k hk hkt => by
        by_cases hkr : k ∈ rem
        · have := List.all_eq_true.1 hw2 k hkr
          refine hlisted k hkr ?_
          simpa [hk] using this
        · rcases Nat.lt_or_ge k ops.size with h | h
          · exact hI.out k h hkr hkt
          · simp [Array.getElem?_eq_none (show listed.size ≤ k by rw [hI.sz]; exact h)]
      have hremt : ∀ k ∈ rem, k ∉ tail := fun k hk hkt => by
        have := List.all_eq_true.1 htl k hkt
        obtain ⟨ok, hok⟩ : ∃ ok, ops[k]? = some ok := by
          have := List.all_eq_true.1 hB'.1.2 k hk
          cases hq : ops[k]? with
          | none => simp [hq] at this
          | some ok => exact ⟨ok, rfl⟩
        simp [hok, hk] at this
      refine hF u w hI.st (fun k hk hne d hd => hu k hk (hall k hne (hremt k hk)) d hd) _ fun a' w' hQ => ?_
      refine ⟨fun _ => .inr ⟨⟨o, rfl, hlast⟩, trivial⟩, fun _ => trivial, ?_⟩
      have hls : listed.setIfInBounds i true = tailL ops tail := by
        apply Array.ext_getElem?
        intro k
        have hik : i ∉ tail := hnt
        rcases Nat.lt_or_ge k ops.size with h | h
        · have h1 : k < listed.size := by rw [hI.sz]; exact h
          have e2 : (tailL ops tail)[k]? = some (!tail.contains k) := by simp [tailL, h]
          rw [e2]
          by_cases hki : i = k
          · subst hki
            rw [Array.getElem?_setIfInBounds_self, if_pos h1]
            simp [hik]
          · rw [Array.getElem?_setIfInBounds_ne hki]
            by_cases hkt : k ∈ tail
            · have := hI.tl k hkt
              rw [Array.getElem?_eq_getElem h1]
              simp [h1] at this
              simp [this, hkt]
            · have := hall k (fun e => hki e.symm) hkt
              rw [Array.getElem?_eq_getElem h1]
              simp [h1] at this
              simp [this, hkt]
        · have h1 : (listed.setIfInBounds i true).size ≤ k := by rw [Array.size_setIfInBounds, hI.sz]; exact h
          rw [Array.getElem?_eq_none h1]
          simp [tailL, h]
      rw [hls]
      refine anyI_tail tail _ _ fuel a' w' (by simp) (fun k j hk => ?_) htok ?_ hQ
      · have hj := List.all_eq_true.1 htl j (List.mem_of_getElem? hk)
        cases hq : ops[j]? with
        | none => simp [hq] at hj
        | some oj => exact ⟨oj, rfl, by simp [hk, hq]⟩
      · have hsub : ∀ k ∈ tail, k ∈ T.erase i := fun k hk => hT' k (by
          rw [getD_set_ne true (fun e => hnt (by rw [e]; exact hk))]
          exact hI.tl k hk)
        exact Nat.le_trans (hnd.length_le_of_subset hsub) hTl
    · obtain ⟨o', ho', hF⟩ := hstep i hmem hf
      obtain rfl := Option.some.inj (ho.symm.trans ho')
      refine hF u w hI.st (fun k hk hw d hd => hu k hk (hlisted k hk hw) d hd) _ fun v w' hR hb => ?_
      have hgr : ∀ k x, R k x w → R k x w' := hb.elim (fun hb k x h => hgrow k x w w' h hb) (fun h => h.1)
      have hSn : S w' := hb.elim (fun hb => hSg w w' hI.st hb) (fun h => h.2)
      refine ⟨fun _ => .inl hSn, fun _ => trivial, ih (T.erase i) _ _ w' ?_ hT' hTl⟩
      have hdR := hk1.2
      refine ⟨by rw [Array.size_setIfInBounds, hI.sz], fun k hk hkr hkt => ?_, fun k hkt => ?_, hSn, fun j hj => ?_, ?_⟩
      · have hne : i ≠ k := fun e => hkr (by rw [← e]; exact hmem)
        rw [getD_set_ne true hne]
        exact hI.out k hk hkr hkt
      · rw [getD_set_ne true (fun e => hnt (by rw [e]; exact hkt))]
        exact hI.tl k hkt
      · have hne : i ≠ j := fun e => hf (by rw [hj, e])
        rw [getD_set_ne true hne]
        exact hI.fn j hj
      · cases hd : o.dst with
        | none =>
          refine ⟨u, rfl, fun k hk hkl d hkd => ?_⟩
          by_cases hki : k = i
          · subst hki
            rw [dstN, ho] at hkd
            simp only [Option.bind_some, hd] at hkd
            cases hkd
          · rw [getD_set_ne true (Ne.symm hki)] at hkl
            exact hgr k _ (hu k hk hkl d hkd)
        | some d0 =>
          rw [hd] at hdR
          simp only [Bool.and_eq_true] at hdR
          refine ⟨fun x => if x = d0 then v else u x, mix_put (by simpa using hdR.1) v, fun k hk hkl d hkd => ?_⟩
          by_cases hki : k = i
          · subst hki
            rw [dstN, ho] at hkd
            simp only [Option.bind_some, hd, Option.some.injEq] at hkd
            show R k (if d = d0 then v else u d) w'
            rw [if_pos hkd.symm]
            exact hR
          · rw [getD_set_ne true (Ne.symm hki)] at hkl
            have h3 := List.all_eq_true.1 hdR.2 k hk
            have hne : d ≠ d0 := fun e => by
              rw [hkd, e] at h3
              simp [hki] at h3
            show R k (if d = d0 then v else u d) w'
            rw [if_neg hne]
            exact hgr k _ (hu k hk hkl d hkd)
/-- The quiet ones that go first. -/
def wpQs (P : Program) (ops : Array Oper) (S : World → Prop) (K : Act → World → Prop) : List Oper → Act → World → Prop
  | [], a, w => K a w
  | o :: rest, a, w => ∃ v, (∀ w', S w' → if Region.wanted o (yielded ops a.tmps) then stillV P o a w' v else undef = v) ∧ wpQs P ops S K rest (a.put o.dst v) w
theorem qs_step {K : Act → World → Prop} {o : Oper} {rest : List Oper} {a : Act} {w : World} {v : Value} (hg : o.guard = none) (h : ∀ w', S w' → stillV P o a w' v) (hr : wpQs P ops S K rest (a.put o.dst v) w) : wpQs P ops S K (o :: rest) a w :=
  ⟨v, fun w' hw' => by rw [if_pos (by simp [Region.wanted, hg])]; exact h w' hw', hr⟩
def okQ (ops : Array Oper) (l : Array Bool) (i : Nat) : Bool := (Region.ready .any ops l).contains i && Region.free .any ops l i && (match ops[i]? with | some o => !isStore o | none => false)
def qsFrom (ops : Array Oper) : List Nat → Array Bool → Option (Array Bool)
  | [], l => some l
  | i :: r, l => if okQ ops l i = true then qsFrom ops r (l.setIfInBounds i true) else none
theorem anyI_of_qs {wk : Oper → Bool} (hs : Region.noSelect ops = true) (hQ : ∀ c d v a w, Q (.panic c) (Act.put a d v) w → Q (.panic c) a w) :
    ∀ (plan : List Nat) (l : List Oper) (listed lf : Array Bool) (fuel : Nat) (a : Act) (w : World), l.length = plan.length → (∀ (k i : Nat), plan[k]? = some i → ∃ o, ops[i]? = some o ∧ l[k]? = some o ∧ wk o = false) → S w →
      qsFrom ops plan listed = some lf → wpQs P ops S (fun a' w' => S w' → anyI P ops wk S tt Q fuel lf a' w') l a w → anyI P ops wk S tt Q (plan.length + fuel) listed a w
  | [], [], listed, lf, fuel, a, w, _, _, hS, hB, h => by
    simp only [qsFrom, Option.some.injEq] at hB
    subst hB
    simp only [List.length_nil, Nat.zero_add]
    exact h hS
  | [], _ :: _, _, _, _, _, _, hl, _, _, _, _ => by simp at hl
  | _ :: _, [], _, _, _, _, _, hl, _, _, _, _ => by simp at hl
  | i :: plan, o :: l, listed, lf, fuel, a, w, hl, hat, hS, hB, h => by
    obtain ⟨o', ho, he, hwk⟩ := hat 0 i rfl
    obtain rfl := Option.some.inj (he : some o = some o')
    have hat' : ∀ (k i : Nat), plan[k]? = some i → ∃ o, ops[i]? = some o ∧ l[k]? = some o ∧ wk o = false := fun k i hk => by
      have := hat (k + 1) i (by simpa using hk)
      simpa using this
    unfold qsFrom at hB
    split at hB
    · rename_i hc
      simp only [okQ, Bool.and_eq_true] at hc
      obtain ⟨⟨hr, hf⟩, hns⟩ := hc
      have hns' : isStore o = false := by simpa [ho] using hns
      obtain ⟨v, hX, hrest⟩ := h
      rw [show (i :: plan).length + fuel = (plan.length + fuel) + 1 by simp; omega]
      exact anyI_first hns' ho (Region.noSelect_spec hs) (fun c a w => hQ c o.dst v a w) (plan.length + fuel) listed a w (Region.free_spec ho hf) (by simpa using hr) (fun w' hw' => yieldsAt_of (hX w' (by rcases hw' with h | h; exact h; rw [hwk] at h; cases h.1))) (.inl hS)
        (anyI_of_qs hs hQ plan l _ lf fuel _ w (by simpa using hl) hat' hS hB hrest)
    · cases hB
def relB (ops : Array Oper) (qs ds rem tail tds : List Nat) (fin : Option Nat) : Bool :=
  Region.noSelect ops && decide (qs.length + (rem.length + tail.length) = ops.size) && relOk ops ds rem tail tds fin && rem.all (fun i => decide (i < ops.size)) && decide tail.Nodup &&
  (qs.all fun i => match ops[i]? with | some o => !wkS tds o | none => false) &&
  (match qsFrom ops qs (Array.replicate ops.size false) with
    | some lf => decide (lf.size = ops.size) && ((List.range ops.size).all fun k => if rem.contains k || tail.contains k then !lf.getD k true else lf.getD k true)
    | none => false) && tail.all (fun i => decide (i < ops.size))
/-- What is to be shown of the operations that are left. -/
def RelO (P : Program) (ops : Array Oper) (Q : Exit → Act → World → Prop) (R : Nat → Value → World → Prop) (S : World → Prop) (ds rem : List Nat) (tl : List Oper) (fin : Option Nat) (a : Act) (w : World) : Prop :=
  (∀ i ∈ rem, fin ≠ some i → StepO P ops Q R S a ds rem i) ∧ (∀ i, fin = some i → FinO P ops Q R S a ds rem tl i) ∧ (fin = none → EndO ops Q R S a ds rem)
theorem wp_region_rel {id : Nat} {a : Act} {w : World} {l : List Oper} (R : Nat → Value → World → Prop) (S : World → Prop) (qs ds rem tail tds : List Nat) (fin : Option Nat) (hm : P.follows .mixedOrders = true) (hB : relB l.toArray qs ds rem tail tds fin = true)
    (hgrow : ∀ k v w w', R k v w → Below w.heap.size w w' → R k v w') (hSg : ∀ w w', S w → Below w.heap.size w w' → S w') (hS : S w.drew)
    (h : wpQs P l.toArray S (RelO P l.toArray (NoP Q) R S ds rem (tail.map fun i => l.getD i default) fin) (qs.map fun i => l.getD i default) a w.drew) : (Code.region id l.toArray true).wp P Q a w := by
  refine Code.wp_mono NoP.le ?_
  simp only [relB, Bool.and_eq_true, decide_eq_true_eq] at hB
  obtain ⟨⟨⟨⟨⟨⟨⟨hs, hlen⟩, hok⟩, hrl⟩, hnd⟩, hqw⟩, hq⟩, htl2⟩ := hB
  refine wp_region_any hm (wpAny_of_anyI (wk := wkS tds) (S := S) (S2 := tt) _ _ _ _ ?_)
  cases hlf : qsFrom l.toArray qs (Array.replicate l.toArray.size false) with
  | none => rw [hlf] at hq; cases hq
  | some lf =>
    rw [hlf] at hq
    simp only [Bool.and_eq_true, decide_eq_true_eq] at hq
    obtain ⟨hsz, hlist⟩ := hq
    rw [← hlen]
    have hin : ∀ k, k < l.toArray.size → ((k ∈ rem ∨ k ∈ tail) ∧ lf.getD k true = false) ∨ (k ∉ rem ∧ k ∉ tail ∧ lf.getD k true = true) := fun k hk => by
      have := List.all_eq_true.1 hlist k (List.mem_range.2 hk)
      by_cases hkr : k ∈ rem
      · exact .inl ⟨.inl hkr, by simpa [hkr] using this⟩
      · by_cases hkt : k ∈ tail
        · exact .inl ⟨.inr hkt, by simpa [hkr, hkt] using this⟩
        · exact .inr ⟨hkr, hkt, by simpa [hkr, hkt] using this⟩
    refine anyI_of_qs hs (fun _ _ _ _ _ h => h) qs (qs.map fun i => l.getD i default) _ lf (rem.length + tail.length) a _ (by simp) (fun k i hk => ?_) hS (by rw [hlen]; exact hlf) ?_
    · have hi : i < l.length := by
        have hsome : ∀ (qs : List Nat) (l0 lf : Array Bool) (ops : Array Oper) (i : Nat), qsFrom ops qs l0 = some lf → i ∈ qs → i < ops.size := by
          intro qs
          induction qs with
          | nil => intro _ _ _ _ _ h; cases h
          | cons j r ih =>
            intro l0 lf ops i hq hi
            unfold qsFrom at hq
            split at hq
            · rename_i hc
              rcases List.mem_cons.1 hi with rfl | hi
              · simp only [okQ, Bool.and_eq_true] at hc
                have h1 : i ∈ Region.ready .any ops l0 := by simpa using hc.1.1
                obtain ⟨_, o, ho, _⟩ := mem_ready.1 h1
                exact (Array.getElem?_eq_some_iff.1 ho).1
              · exact ih _ _ ops i hq hi
            · cases hq
        have := hsome qs _ _ _ i hlf (List.mem_of_getElem? hk)
        simpa using this
      have hw := List.all_eq_true.1 hqw i (List.mem_of_getElem? hk)
      exact ⟨l[i], by simp [hi], by simp [hk, hi], by simpa [hi] using hw⟩
    · have mono : ∀ (l' : List Oper) (a : Act) (w : World) (K K' : Act → World → Prop), (∀ a w, K a w → K' a w) → wpQs P l.toArray S K l' a w → wpQs P l.toArray S K' l' a w := by
        intro l'
        induction l' with
        | nil => intro a w K K' hK h; exact hK _ _ h
        | cons o r ih => intro a w K K' hK h; obtain ⟨v, h1, h2⟩ := h; exact ⟨v, h1, ih _ _ K K' hK h2⟩
      refine mono _ _ _ _ _ (fun a' w' hO hS' => ?_) h
      obtain ⟨h1, h2, h3⟩ := hO
      have htm : (tail.map fun k => l.toArray[k]?.getD default) = tail.map fun i => l.getD i default := by
        apply List.map_congr_left
        intro k _
        simp
      rw [← htm] at h2
      refine anyI_rel hok hgrow hSg h1 h2 h3 hnd (rem.length + tail.length) (rem ++ tail) lf a' w' ⟨hsz, fun k hk hkr hkt => ?_, fun k hkt => ?_, hS', fun i hi => ?_, ⟨_, mix_self a' ds, fun k hk hkl => ?_⟩⟩ (fun k hk => ?_) (by simp)
      · rcases hin k hk with h | h
        · exact absurd h.1 (fun e => e.elim hkr hkt)
        · exact h.2.2
      · have hktl := of_decide_eq_true (List.all_eq_true.1 htl2 k hkt)
        rcases hin k hktl with h | h
        · exact h.2
        · exact absurd hkt h.2.1
      · simp only [relOk, Bool.and_eq_true] at hok
        have h4 := hok.2
        rw [hi] at h4
        simp only [Bool.and_eq_true] at h4
        have hir : i ∈ rem := by simpa using h4.1.1.1
        have hil := of_decide_eq_true (List.all_eq_true.1 hrl i hir)
        rcases hin i hil with h | h
        · exact h.2
        · exact absurd hir h.1
      · have hkl2 := of_decide_eq_true (List.all_eq_true.1 hrl k hk)
        rcases hin k hkl2 with h | h
        · rw [h.2] at hkl; cases hkl
        · exact absurd hk h.1
      · have hklt := getD_lt hk
        rcases hin k (by rw [← hsz]; exact hklt) with h | h
        · exact List.mem_append.2 h.1
        · rw [h.2.2] at hk; cases hk
def StepB (P : Program) (ops : Array Oper) (Q : Exit → Act → World → Prop) (R : Nat → Value → World → Prop) (S : World → Prop) (a0 : Act) (ds rem : List Nat) (i : Nat) (o : Oper) : Prop :=
  ∀ u w, S w → (∀ k ∈ rem, waitsFor o k = true → ∀ d, dstN ops k = some d → R k (u d) w) → ∀ K : Act → World → Prop, (∀ v w', R i v w' → (Below w.heap.size w w' ∨ ((∀ k x, R k x w → R k x w') ∧ S w')) → K ((mixA a0 ds u).put o.dst v) w') → o.wp P (mixA a0 ds u) w K Q
def FinB (P : Program) (ops : Array Oper) (Q : Exit → Act → World → Prop) (R : Nat → Value → World → Prop) (S : World → Prop) (a0 : Act) (ds rem : List Nat) (tl : List Oper) (i : Nat) (o : Oper) : Prop :=
  ∀ u w, S w → (∀ k ∈ rem, k ≠ i → ∀ d, dstN ops k = some d → R k (u d) w) → ∀ K : Act → World → Prop, (∀ a' w', wpTail P Q tl a' w' → K a' w') → o.wp P (mixA a0 ds u) w K Q
theorem step_of {l : List Oper} {R : Nat → Value → World → Prop} {a0 : Act} {ds rem : List Nat} {i : Nat} {fin : Option Nat} (hi : decide (i < l.length) = true) (h : StepB P l.toArray Q R S a0 ds rem i (l.getD i default)) : fin ≠ some i → StepO P l.toArray Q R S a0 ds rem i := fun _ => by
  have hi := of_decide_eq_true hi
  refine ⟨l[i], by simp [hi], ?_⟩
  have e : l.getD i default = l[i] := by simp [List.getD, hi]
  rw [e] at h
  exact h
theorem fin_of {l tl : List Oper} {R : Nat → Value → World → Prop} {a0 : Act} {ds rem : List Nat} {i : Nat} (hi : decide (i < l.length) = true) (h : FinB P l.toArray Q R S a0 ds rem tl i (l.getD i default)) : FinO P l.toArray Q R S a0 ds rem tl i := by
  have hi := of_decide_eq_true hi
  refine ⟨l[i], by simp [hi], ?_⟩
  have e : l.getD i default = l[i] := by simp [List.getD, hi]
  rw [e] at h
  exact h
theorem nop_normal {a : Act} {w : World} (h : Q .normal a w) : wpTail P (NoP Q) [] a w := h
theorem tail_step {o : Oper} {r : List Oper} {a : Act} {w : World} (h : ∀ K : Act → World → Prop, (∀ a', wpTail P Q r a' w → K a' w) → o.wp P a w K Q) : wpTail P Q (o :: r) a w := h _ fun _ h => ⟨rfl, h⟩
theorem all_nil {p : Nat → Prop} : ∀ i ∈ ([] : List Nat), p i := fun i h => by cases h
theorem all_cons {p : Nat → Prop} {a : Nat} {l : List Nat} (h : p a) (t : ∀ i ∈ l, p i) : ∀ i ∈ a :: l, p i := fun i hi => by
  rcases List.mem_cons.1 hi with rfl | hi
  · exact h
  · exact t i hi
end
end Go.Proofs.YtpheifdpjcppdaaGreatDoor

/- A region that draws its order, walked along a tree of orders: what is quiet under an invariant S of the worlds goes first; where two loud operations can come, both orders are walked. Over any program. -/
import Derived.Test.YtdnncbhbajciaaaDoorPlan
namespace Go.Proofs.YtdnncbhbajciaaaDoor
open Go
/-- A tree of orders: a quiet operation, a loud one that alone can come, two loud ones that can come. -/
inductive Tr where
  | nil
  | q (i : Nat) (r : Tr)
  | l (i : Nat) (r : Tr)
  | f (i : Nat) (r : Tr) (j : Nat) (s : Tr)
def Tr.size : Tr → Nat
  | .nil => 0
  | .q _ r => r.size + 1
  | .l _ r => r.size + 1
  | .f _ r _ _ => r.size + 1
section
variable {P : Program} {ops : Array Oper} {Q : Exit → Act → World → Prop} {S : World → Prop}
def wpLoud (P : Program) (ops : Array Oper) (S : World → Prop) (Q : Exit → Act → World → Prop) (i : Nat) (k : Act → World → Prop) (a : Act) (w : World) : Prop := ∃ o, ops[i]? = some o ∧
  if Region.wanted o (yielded ops a.tmps) then o.wp P a w (fun a' w' => S w' ∧ k a' w') Q ∨ (o.asks P a w ∧ LetsOut Q) else S w ∧ k (a.put o.dst undef) w
def wpTree (P : Program) (ops : Array Oper) (S : World → Prop) (Q : Exit → Act → World → Prop) : Tr → Act → World → Prop
  | .nil, a, w => Q .normal a w
  | .q i r, a, w => ∃ o v, ops[i]? = some o ∧ (∀ w', S w' → if Region.wanted o (yielded ops a.tmps) then stillV P o a w' v else undef = v) ∧ wpTree P ops S Q r (a.put o.dst v) w
  | .l i r, a, w => wpLoud P ops S Q i (wpTree P ops S Q r) a w
  | .f i r j s, a, w => wpLoud P ops S Q i (wpTree P ops S Q r) a w ∧ wpLoud P ops S Q j (wpTree P ops S Q s) a w
theorem tree_q {i : Nat} {o : Oper} {r : Tr} {a : Act} {w : World} {v : Value} (ho : ops[i]? = some o) (hg : o.guard = none) (h : ∀ w', S w' → stillV P o a w' v) (hr : wpTree P ops S Q r (a.put o.dst v) w) : wpTree P ops S Q (.q i r) a w :=
  ⟨o, v, ho, fun w' hw' => by rw [if_pos (by simp [Region.wanted, hg])]; exact h w' hw', hr⟩
theorem loud_of {i : Nat} {o : Oper} {k : Act → World → Prop} {a : Act} {w : World} (ho : ops[i]? = some o) (hg : o.guard = none)
    (h : ∀ K : Act → World → Prop, (∀ a' w', S w' → k a' w' → K a' w') → o.wp P a w K Q) : wpLoud P ops S Q i k a w :=
  ⟨o, ho, by rw [if_pos (by simp [Region.wanted, hg])]; exact .inl (h _ fun _ _ h1 h2 => ⟨h1, h2⟩)⟩
theorem tree_l {i : Nat} {o : Oper} {r : Tr} {a : Act} {w : World} (ho : ops[i]? = some o) (hg : o.guard = none)
    (h : ∀ K : Act → World → Prop, (∀ a' w', S w' → wpTree P ops S Q r a' w' → K a' w') → o.wp P a w K Q) : wpTree P ops S Q (.l i r) a w := loud_of ho hg h
theorem tree_f {i j : Nat} {o u : Oper} {r s : Tr} {a : Act} {w : World} (ho : ops[i]? = some o) (hg : o.guard = none)
    (h : ∀ K : Act → World → Prop, (∀ a' w', S w' → wpTree P ops S Q r a' w' → K a' w') → o.wp P a w K Q) (hu : ops[j]? = some u) (hgu : u.guard = none)
    (h2 : ∀ K : Act → World → Prop, (∀ a' w', S w' → wpTree P ops S Q s a' w' → K a' w') → u.wp P a w K Q) : wpTree P ops S Q (.f i r j s) a w := ⟨loud_of ho hg h, loud_of hu hgu h2⟩
theorem tree_end {a : Act} {w : World} (h : Q .normal a w) : wpTree P ops S (NoP Q) .nil a w := h
/-- Each step of the tree is let. -/
def treeFrom (ops : Array Oper) : Tr → Array Bool → Bool
  | .nil, listed => (Region.ready .any ops listed).isEmpty
  | .q i r, listed => (Region.ready .any ops listed).contains i && Region.free .any ops listed i && (match ops[i]? with | some o => !isStore o | none => false) && treeFrom ops r (listed.setIfInBounds i true)
  | .l i r, listed => decide (Region.ready .any ops listed = [i]) && treeFrom ops r (listed.setIfInBounds i true)
  | .f i r j s, listed => decide (Region.ready .any ops listed = [i, j]) && decide (r.size = s.size) && treeFrom ops r (listed.setIfInBounds i true) && treeFrom ops s (listed.setIfInBounds j true)
def nope : Oper → Bool := fun _ => false
theorem loud_any {i n : Nat} {listed : Array Bool} {k : Act → World → Prop} {a : Act} {w : World} (h : wpLoud P ops S Q i k a w)
    (hk : ∀ a' w', S w' → k a' w' → anyI P ops nope S tt Q n listed a' w') :
    wpOp P ops Q i (fun a' w' => (S w → S w' ∨ ((∃ o, ops[i]? = some o ∧ lastO nope ops o = true) ∧ tt w')) ∧ (tt w → tt w') ∧ anyI P ops nope S tt Q n listed a' w') a w := by
  obtain ⟨o, ho, h⟩ := h
  unfold wpOp
  simp only [ho]
  split
  · rename_i hw
    rw [if_pos hw] at h
    rcases h with h | h
    · exact .inl (Oper.wp_mono (fun a' w' hh => ⟨fun _ => .inl hh.1, fun _ => trivial, hk a' w' hh.1 hh.2⟩) h)
    · exact .inr h
  · rename_i hw
    rw [if_neg hw] at h
    exact ⟨fun _ => .inl h.1, fun _ => trivial, hk _ w h.1 h.2⟩
theorem anyI_of_tree (hs : Region.noSelect ops = true) (hQ : ∀ c d v a w, Q (.panic c) (Act.put a d v) w → Q (.panic c) a w) :
    ∀ (t : Tr) (listed : Array Bool) (a : Act) (w : World), S w → treeFrom ops t listed = true → wpTree P ops S Q t a w → anyI P ops nope S tt Q t.size listed a w
  | .nil, listed, a, w, _, hB, h => ⟨by simpa [treeFrom] using hB, h⟩
  | .q i r, listed, a, w, hS, hB, h => by
    simp only [treeFrom, Bool.and_eq_true] at hB
    obtain ⟨⟨⟨hr, hf⟩, hns⟩, hB'⟩ := hB
    obtain ⟨o, v, ho, hX, hrest⟩ := h
    have hns' : isStore o = false := by simpa [ho] using hns
    exact anyI_first hns' ho (Region.noSelect_spec hs) (fun c a w => hQ c o.dst v a w) r.size listed a w (Region.free_spec ho hf) (by simpa using hr) (fun w' hw' => yieldsAt_of (hX w' (by rcases hw' with h | h; exact h; cases h.1))) (.inl hS)
      (anyI_of_tree hs hQ r _ _ w hS hB' hrest)
  | .l i r, listed, a, w, hS, hB, h => by
    simp only [treeFrom, Bool.and_eq_true, decide_eq_true_eq] at hB
    obtain ⟨hr, hB'⟩ := hB
    refine ⟨(fun h0 => by rw [hr] at h0; cases h0), fun j hj => ?_⟩
    rw [hr] at hj
    obtain rfl : j = i := by simpa using hj
    exact loud_any h fun a' w' h1 h2 => anyI_of_tree hs hQ r _ a' w' h1 hB' h2
  | .f i r j s, listed, a, w, hS, hB, h => by
    simp only [treeFrom, Bool.and_eq_true, decide_eq_true_eq] at hB
    obtain ⟨⟨⟨hr, hsz⟩, hB1⟩, hB2⟩ := hB
    refine ⟨(fun h0 => by rw [hr] at h0; cases h0), fun k hk => ?_⟩
    rw [hr] at hk
    rcases List.mem_cons.1 hk with rfl | hk
    · exact loud_any h.1 fun a' w' h1 h2 => anyI_of_tree hs hQ r _ a' w' h1 hB1 h2
    · obtain rfl : k = j := by simpa using hk
      have := loud_any h.2 (n := s.size) (listed := listed.setIfInBounds k true) fun a' w' h1 h2 => anyI_of_tree hs hQ s _ a' w' h1 hB2 h2
      rw [← hsz] at this
      exact this
def treeB (ops : Array Oper) (t : Tr) : Bool := Region.noSelect ops && decide (t.size = ops.size) && treeFrom ops t (Array.replicate ops.size false)
theorem wp_region_tree {id : Nat} {a : Act} {w : World} {l : List Oper} (S : World → Prop) (t : Tr) (hm : P.follows .mixedOrders = true) (hB : treeB l.toArray t = true)
    (hS : S w.drew) (h : wpTree P l.toArray S (NoP Q) t a w.drew) : (Code.region id l.toArray true).wp P Q a w := by
  refine Code.wp_mono NoP.le ?_
  simp only [treeB, Bool.and_eq_true, decide_eq_true_eq] at hB
  obtain ⟨⟨hs, hlen⟩, hp⟩ := hB
  refine wp_region_any hm (wpAny_of_anyI (wk := nope) (S := S) (S2 := tt) _ _ _ _ ?_)
  rw [← hlen]
  exact anyI_of_tree hs (fun _ _ _ _ _ h => h) t _ a _ hS (by rw [hlen]; exact hp) h
end
end Go.Proofs.YtdnncbhbajciaaaDoor

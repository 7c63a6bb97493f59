/- Readings that ask nothing of the memory; rows that are being made, held apart by their types; maps beside them. Over any program (out of PaF, PaG, PaH). -/
import Derived.Test.YtpheifdpjcppdaaGreatDoorBasM
import Derived.Test.YtpheifdpjcppdaaGreatDoorMapU
import Derived.Test.YtpheifdpjcppdaaGreatDoorTxt
namespace Go.Proofs.YtpheifdpjcppdaaGreatDoor
open Go.RowKit
theorem info_str : (Tryz.prog.info? 9).map (fun i => (i.zero, i.size, i.bytes)) = some (some (.string ⟨#[]⟩), 1, 16) := by kernel_rfl
theorem Kept.row {X : Nat → Prop} {a b c : World} {v : Value} (h : Kept X a b) (k : Kept (fun i => v.ownBlock = some i) b c) (hv : ∀ i, v.ownBlock = some i → a.heap.size ≤ i) : Kept X a c :=
  ⟨k.os.trans h.os, k.tape.trans h.tape, k.output.trans h.output, Nat.le_trans h.size k.size, fun i hi hx => (k.block i (Nat.lt_of_lt_of_le hi h.size) (fun e => by have := hv i e; omega)).trans (h.block i hi hx)⟩
theorem OwnL.new {α : Type} {sz : Nat} {R : Rel α} {e : TypeId} {base B : Nat} {w : World} {v : Value} {l : List α} (h : OwnL sz R e base (old B) w v l) : ∀ i, v.ownBlock = some i → B ≤ i := by
  obtain ⟨css, _, _, hX, _⟩ := h
  intro i hi
  have := hX i hi
  unfold old at this
  omega
/-- A cell. -/
def Rval : Rel Value := fun _ _ cs v => cs = [v] ∧ v.oneCell' = true
theorem good_val : Good 1 Rval := ⟨fun h _ => h, fun h _ => h, (fun h => by rw [h.1]; rfl), (fun h u hu => by
  rw [h.1] at hu; simp at hu; subst hu; exact h.2)⟩
/-- A reading that asks nothing of the memory. -/
def FreeR {α : Type} (R : Rel α) : Prop := ∀ X Y w w' cs a, R X w cs a → R Y w' cs a
theorem free_val : FreeR Rval := fun _ _ _ _ _ _ h => h
theorem free_text : FreeR Rtext := fun _ _ _ _ _ _ h => h
/-- What was there ahead, but the row's own block. -/
def old' (w : World) (v : Value) : Nat → Prop := fun k => k < w.heap.size ∧ v.ownBlock ≠ some k
section
variable {α : Type} {sz : Nat} {R : Rel α} {X Y : Nat → Prop} {w w' : World} {v : Value} {l : List α} {e : TypeId} {B : Nat}
theorem OwnL.to (F : FreeR R) (h : OwnL sz R e B X w v l) (hY : ∀ k, v.ownBlock = some k → ¬ Y k) : OwnL sz R e B Y w v l := by
  obtain ⟨css, ho, hl, hX, hR⟩ := h
  exact ⟨css, ho, hl, hY, fun j h h' => F _ _ _ _ _ _ (hR j h h')⟩
theorem OwnL.old (F : FreeR R) (h : OwnL sz R e B X w v l) : OwnL sz R e B (old' w v) w v l := h.to F fun _ hk h => h.2 hk
theorem OwnL.no (F : FreeR R) (h : OwnL sz R e B X w v l) : OwnL sz R e B nowhere w v l := h.to F fun _ _ h => h
theorem OwnL.kept (F : FreeR R) (h : OwnL sz R e B X w v l) (k : Kept Y w w') (hY : ∀ k, v.ownBlock = some k → ¬ Y k) : OwnL sz R e B X w' v l := by
  obtain ⟨css, ho, hl, hX, hR⟩ := h
  exact ⟨css, k.own ho hY, hl, hX, fun j h h' => F _ _ _ _ _ _ (hR j h h')⟩
theorem OwnL.typed (h : OwnL sz R e B X w v l) {g : Nat} (hg : v.ownBlock = some g) : B ≤ g ∧ ∃ cs, Blk w g e cs := by
  obtain ⟨css, ho, _⟩ := h
  rcases ho.2 with ⟨rfl, _⟩ | ⟨g', cap, cur, rfl, hb, hh, _⟩
  · simp [Value.ownBlock] at hg
  · simp [Value.ownBlock] at hg
    subst hg
    exact ⟨hb, cur, hh⟩
theorem OwnL.apart {α2 : Type} {sz2 : Nat} {R2 : Rel α2} {X2 : Nat → Prop} {v2 : Value} {l2 : List α2} {e2 : TypeId} {B2 : Nat} (h : OwnL sz R e B X w v l) (h2 : OwnL sz2 R2 e2 B2 X2 w v2 l2) (hne : e ≠ e2) {g : Nat} (hg : v.ownBlock = some g) : v2.ownBlock ≠ some g := fun hg2 => by
  obtain ⟨_, _, a⟩ := h.typed hg
  obtain ⟨_, _, b⟩ := h2.typed hg2
  have := a.symm.trans b
  injection this with this
  injection this with _ this
  exact hne this
theorem OwnL.apartB (h : OwnL sz R e B X w v l) {b : Nat} {t : TypeId} {cs : Array Value} (hb : Blk w b t cs) (hne : e ≠ t) : v.ownBlock ≠ some b := fun hg => by
  obtain ⟨_, _, a⟩ := h.typed hg
  have := a.symm.trans hb
  injection this with this
  injection this with _ this
  exact hne this
theorem NMap.blk {b n : Nat} {m : List UInt8 → Option Int} (h : NMap w b n m) : ∃ es c, w.heap[b]? = some (.map es c) := by
  obtain ⟨D, ⟨es, c, hb, _⟩, _⟩ := h
  exact ⟨es, c, hb⟩
theorem OwnL.apartM (h : OwnL sz R e B X w v l) {b n : Nat} {m : List UInt8 → Option Int} (hb : NMap w b n m) : v.ownBlock ≠ some b := fun hg => by
  obtain ⟨_, _, a⟩ := h.typed hg
  obtain ⟨_, _, hb⟩ := hb.blk
  have := a.symm.trans hb
  injection this with this
  cases this
theorem Blk.apartM {b n : Nat} {m : List UInt8 → Option Int} {g : Nat} {t : TypeId} {cs : Array Value} (h : Blk w g t cs) (hb : NMap w b n m) : g ≠ b := fun e => by
  subst e
  obtain ⟨_, _, hb⟩ := hb.blk
  have := h.symm.trans hb
  injection this with this
  cases this
end
theorem own_set {w : World} {base : Nat} {e : TypeId} {size g n cap : Nat} {xs : List Value} (h : w.ownsRow base e size (.slice (some ⟨g, 0, none⟩) n cap) n xs) (i : Nat) (u : Value) :
    (w.setCell ⟨g, i, none⟩ u).ownsRow base e size (.slice (some ⟨g, 0, none⟩) n cap) n (xs.set i u) := by
  refine ⟨by rw [List.length_set]; exact h.1, ?_⟩
  rcases h.2 with ⟨h0, _⟩ | ⟨g', cap', cur, hv, hb, hg, h1, h2, h3, h4⟩
  · cases h0
  · injection hv with e1 e2 e3
    injection e1 with e1
    injection e1 with e1
    subst e1 e3
    refine .inr ⟨g, cap, cur.setIfInBounds i u, rfl, hb, heap_setCell_same w g i cur e u hg, h1, h2, by simp [h3], ?_⟩
    rw [Array.toList_setIfInBounds, List.take_set, h4]
section
variable {w : World} {B : Nat}
theorem val_own {e : TypeId} {v : Value} {vs : List Value} {k : Nat} (hk : k = vs.length) (h : w.ownsRow B e 1 v k vs) (h1 : ∀ u ∈ vs, u.oneCell' = true) : OwnL 1 Rval e B nowhere w v vs := by
  subst hk
  refine ⟨vs.map fun u => [u], ?_, by simp, fun _ _ h => h, fun j h h' => by simp [Rval]; exact h1 _ (List.getElem_mem h)⟩
  have : (vs.map fun u => [u]).flatten = vs := by
    clear h h1
    induction vs with
    | nil => rfl
    | cons a r ih => simp [ih]
  rw [this]; exact h
theorem own_val {e : TypeId} {v : Value} {X : Nat → Prop} {vs : List Value} (h : OwnL 1 Rval e B X w v vs) : w.ownsRow B e 1 v vs.length vs ∧ ∀ u ∈ vs, u.oneCell' = true := by
  obtain ⟨css, ho, hl, _, hR⟩ := h
  refine ⟨?_, fun u hu => ?_⟩
  · have : css.flatten = vs := by
      clear ho
      induction vs generalizing css with
      | nil => rw [List.eq_nil_of_length_eq_zero hl]; rfl
      | cons f p ih =>
        cases css with
        | nil => simp at hl
        | cons c css =>
          have h0 := (hR 0 (by simp) (by simp)).1
          simp at h0
          rw [List.flatten_cons, ih css (by simpa using hl) (fun j h h' => hR (j + 1) (Nat.succ_lt_succ h) (Nat.succ_lt_succ h')), h0]
          rfl
    rwa [this] at ho
  · obtain ⟨j, hj, rfl⟩ := List.getElem_of_mem hu
    exact (hR j hj (by omega)).2
theorem own_slice {α : Type} {sz : Nat} {R : Rel α} {e : TypeId} {X : Nat → Prop} {v : Value} {l : List α} (h : OwnL sz R e B X w v l) (hn : l ≠ []) : ∃ g cap, v = .slice (some ⟨g, 0, none⟩) l.length cap ∧ v.ownBlock = some g := by
  obtain ⟨css, ho, _⟩ := h
  rcases ho.2 with ⟨_, h0⟩ | ⟨g, cap, cur, rfl, _⟩
  · exact absurd (List.eq_nil_of_length_eq_zero h0) hn
  · exact ⟨g, cap, rfl, rfl⟩
theorem flat_one (vs : List Value) : (vs.map fun u => [u]).flatten = vs := by
  induction vs with
  | nil => rfl
  | cons a r ih => rw [List.map_cons, List.flatten_cons, ih]; rfl
end
end Go.Proofs.YtpheifdpjcppdaaGreatDoor

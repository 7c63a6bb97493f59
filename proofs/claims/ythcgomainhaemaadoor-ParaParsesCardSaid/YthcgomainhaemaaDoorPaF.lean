/- The reader of paragraphs as it lies in memory, and what its steps do to it. -/
import Derived.Test.YthcgomainhaemaaDoorPaE
namespace Go.Proofs.YthcgomainhaemaaDoor
open Go.RowKit
abbrev tF : TypeId := 37
abbrev tP : TypeId := 38
abbrev tS : TypeId := 9
abbrev tR : TypeId := 59
/-- A cell. -/
def Rval : Rel Value := fun _ _ cs v => cs = [v] ∧ v.oneCell' = true
theorem good_val : Good 1 Rval := ⟨fun h _ => h, fun h _ => h, (fun h => by rw [h.1]; rfl), (fun h u hu => by
  rw [h.1] at hu; simp at hu; subst hu; exact h.2)⟩
/-- A reading that asks nothing of the memory. -/
def FreeR {α : Type} (R : Rel α) : Prop := ∀ X Y w w' cs a, R X w cs a → R Y w' cs a
theorem free_val : FreeR Rval := fun _ _ _ _ _ _ h => h
theorem free_field : FreeR Rfield := fun _ _ _ _ _ _ h => h
theorem free_text : FreeR Rtext := fun _ _ _ _ _ _ h => h
/-- What was there ahead, but the row's own block. -/
def old' (w : World) (v : Value) : Nat → Prop := fun k => k < w.heap.size ∧ v.ownBlock ≠ some k
section
variable {α : Type} {sz : Nat} {R : Rel α} {X Y : Nat → Prop} {w w' : World} {v : Value} {l : List α} {e : TypeId} {B : Nat}
theorem OwnL.to (F : FreeR R) (h : OwnL sz R e B X w v l) (hY : ∀ k, v.ownBlock = some k → ¬ Y k) : OwnL sz R e B Y w v l := by
  obtain ⟨css, ho, hl, hX, hR⟩ := h
  exact ⟨css, ho, hl, hY, fun j h h' => F _ _ _ _ _ _ (hR j h h')⟩
theorem OwnL.old (F : FreeR R) (h : OwnL sz R e B X w v l) : OwnL sz R e B (old' w v) w v l := h.to F fun _ hk h => h.2 hk
theorem OwnL.no (F : FreeR R) (h : OwnL sz R e B X w v l) : OwnL sz R e B nowhere w v l := h.to F fun _ _ h => h
theorem OwnL.kept (F : FreeR R) (h : OwnL sz R e B X w v l) (k : Kept Y w w') (hY : ∀ k, v.ownBlock = some k → ¬ Y k) : OwnL sz R e B X w' v l := by
  obtain ⟨css, ho, hl, hX, hR⟩ := h
  exact ⟨css, k.own ho hY, hl, hX, fun j h h' => F _ _ _ _ _ _ (hR j h h')⟩
theorem OwnL.typed (h : OwnL sz R e B X w v l) {g : Nat} (hg : v.ownBlock = some g) : B ≤ g ∧ ∃ cs, Blk w g e cs := by
  obtain ⟨css, ho, _⟩ := h
  rcases ho.2 with ⟨rfl, _⟩ | ⟨g', cap, cur, rfl, hb, hh, _⟩
  · simp [Value.ownBlock] at hg
  · simp [Value.ownBlock] at hg
    subst hg
    exact ⟨hb, cur, hh⟩
theorem OwnL.apart {α2 : Type} {sz2 : Nat} {R2 : Rel α2} {X2 : Nat → Prop} {v2 : Value} {l2 : List α2} {e2 : TypeId} {B2 : Nat} (h : OwnL sz R e B X w v l) (h2 : OwnL sz2 R2 e2 B2 X2 w v2 l2) (hne : e ≠ e2) {g : Nat} (hg : v.ownBlock = some g) : v2.ownBlock ≠ some g := fun hg2 => by
  obtain ⟨_, _, a⟩ := h.typed hg
  obtain ⟨_, _, b⟩ := h2.typed hg2
  have := a.symm.trans b
  injection this with this
  injection this with _ this
  exact hne this
theorem OwnL.apartB (h : OwnL sz R e B X w v l) {b : Nat} {t : TypeId} {cs : Array Value} (hb : Blk w b t cs) (hne : e ≠ t) : v.ownBlock ≠ some b := fun hg => by
  obtain ⟨_, _, a⟩ := h.typed hg
  have := a.symm.trans hb
  injection this with this
  injection this with _ this
  exact hne this
theorem NMap.blk {b n : Nat} {m : List UInt8 → Option Int} (h : NMap w b n m) : ∃ es c, w.heap[b]? = some (.map es c) := by
  obtain ⟨D, ⟨es, c, hb, _⟩, _⟩ := h
  exact ⟨es, c, hb⟩
theorem OwnL.apartM (h : OwnL sz R e B X w v l) {b n : Nat} {m : List UInt8 → Option Int} (hb : NMap w b n m) : v.ownBlock ≠ some b := fun hg => by
  obtain ⟨_, _, a⟩ := h.typed hg
  obtain ⟨_, _, hb⟩ := hb.blk
  have := a.symm.trans hb
  injection this with this
  cases this
theorem Blk.apartM {b n : Nat} {m : List UInt8 → Option Int} {g : Nat} {t : TypeId} {cs : Array Value} (h : Blk w g t cs) (hb : NMap w b n m) : g ≠ b := fun e => by
  subst e
  obtain ⟨_, _, hb⟩ := hb.blk
  have := h.symm.trans hb
  injection this with this
  cases this
end
theorem own_set {w : World} {base : Nat} {e : TypeId} {size g n cap : Nat} {xs : List Value} (h : w.ownsRow base e size (.slice (some ⟨g, 0, none⟩) n cap) n xs) (i : Nat) (u : Value) :
    (w.setCell ⟨g, i, none⟩ u).ownsRow base e size (.slice (some ⟨g, 0, none⟩) n cap) n (xs.set i u) := by
  refine ⟨by rw [List.length_set]; exact h.1, ?_⟩
  rcases h.2 with ⟨h0, _⟩ | ⟨g', cap', cur, hv, hb, hg, h1, h2, h3, h4⟩
  · cases h0
  · injection hv with e1 e2 e3
    injection e1 with e1
    injection e1 with e1
    subst e1 e3
    refine .inr ⟨g, cap, cur.setIfInBounds i u, rfl, hb, heap_setCell_same w g i cur e u hg, h1, h2, by simp [h3], ?_⟩
    rw [Array.toList_setIfInBounds, List.take_set, h4]
/-- The cells of fields. -/
def fcells (p : List Fd) : List Value := p.flatMap fun f => [.string (bs f.1), .string (bs f.2)]
theorem own_field {w : World} {e : TypeId} {B : Nat} {X : Nat → Prop} {v : Value} {p : List Fd} (h : OwnL 2 Rfield e B X w v p) : w.ownsRow B e 2 v p.length (fcells p) := by
  obtain ⟨css, ho, hl, _, hR⟩ := h
  have : css.flatten = fcells p := by
    clear ho
    induction p generalizing css with
    | nil => rw [List.eq_nil_of_length_eq_zero hl]; rfl
    | cons f p ih =>
      cases css with
      | nil => simp at hl
      | cons c css =>
        have h0 := hR 0 (by simp) (by simp)
        simp [Rfield] at h0
        have := ih css (by simpa using hl) (fun j h h' => hR (j + 1) (Nat.succ_lt_succ h) (Nat.succ_lt_succ h'))
        simp [fcells] at this ⊢
        rw [h0, this]
        rfl
  rwa [this] at ho
theorem field_own {w : World} {e : TypeId} {B : Nat} {v : Value} {p : List Fd} (h : w.ownsRow B e 2 v p.length (fcells p)) : OwnL 2 Rfield e B nowhere w v p :=
  ⟨p.map fun f => [.string (bs f.1), .string (bs f.2)], by simpa [fcells, List.flatMap] using h, by simp, fun _ _ h => h, fun j h h' => by simp [Rfield]⟩
end Go.Proofs.YthcgomainhaemaaDoor

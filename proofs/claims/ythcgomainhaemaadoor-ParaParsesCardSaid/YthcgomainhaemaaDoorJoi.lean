/- strings.Join of a slice of texts; small laws on rows that are being made. -/
import Derived.Test.YthcgomainhaemaaDoorTxt
import Derived.Test.YthcgomainhaemaaDoorShelfJ
import Derived.Lib.Join
namespace Go.Proofs.YthcgomainhaemaaDoor
open Go.RowKit
theorem info_str : (Tryd.prog.info? 9).map (fun i => (i.zero, i.size, i.bytes)) = some (some (.string ⟨#[]⟩), 1, 16) := by kernel_rfl
theorem Kept.row {X : Nat → Prop} {a b c : World} {v : Value} (h : Kept X a b) (k : Kept (fun i => v.ownBlock = some i) b c) (hv : ∀ i, v.ownBlock = some i → a.heap.size ≤ i) : Kept X a c :=
  ⟨k.os.trans h.os, k.tape.trans h.tape, k.output.trans h.output, Nat.le_trans h.size k.size, fun i hi hx => (k.block i (Nat.lt_of_lt_of_le hi h.size) (fun e => by have := hv i e; omega)).trans (h.block i hi hx)⟩
theorem OwnL.new {α : Type} {sz : Nat} {R : Rel α} {e : TypeId} {base B : Nat} {w : World} {v : Value} {l : List α} (h : OwnL sz R e base (old B) w v l) : ∀ i, v.ownBlock = some i → B ≤ i := by
  obtain ⟨css, _, _, hX, _⟩ := h
  intro i hi
  have := hX i hi
  unfold old at this
  omega
theorem map_take {α β : Type} (f : α → β) (l : List α) (k : Nat) (h : k < l.length) : (l.take (k + 1)).map f = (l.take k).map f ++ [f l[k]] := by
  rw [List.take_succ_eq_append_getElem h, List.map_append]; rfl
theorem join_any (X : Nat → Prop) (v : Value) (l : List (List UInt8)) (sep : List UInt8) (w : World) (h : Sl 1 Rtext X w v l) (hj : (Lib.join l sep).length ≤ 140737488355328) (hl : l.length ≤ 140737488355328) :
    Calls Tryd.prog 41 #[v, .string (bs sep)] w fun e w' => e = .returned (.string (bs (Lib.join l sep))) ∧ Below w.heap.size w w' := by
  obtain ⟨A, cap, rfl, h1, h2⟩ := h.form
  rcases Nat.eq_zero_or_pos l.length with h0 | h0
  · have : l = [] := List.eq_nil_of_length_eq_zero h0
    subst this
    exact (Tryd.strings_Join_none A cap (bs sep) w).mono fun e w' ⟨a, b⟩ => ⟨by rw [a]; rfl, by rw [b]; exact Below.refl _ _⟩
  · obtain ⟨_, _, _, b, off, rfl, hc⟩ := h.text h0
    have hb : b < w.heap.size := lt_of_cell (hc 0 h0)
    have e1 : (l.map bs).map (·.data.toList) = l := by simp [Function.comp_def, bs_list]
    have := Tryd.strings_Join b off cap (l.map bs) (bs sep) w (fun j x hx => by
      have hjl : j < l.length := by have := (List.getElem?_eq_some_iff.1 hx).1; simpa using this
      rw [hc j hjl]
      have : (l.map bs)[j]? = some (bs l[j]) := by simp [hjl]
      rw [this] at hx
      injection hx with hx
      rw [hx]) hb (by simpa using hl) (by simpa using h1) (by rw [e1]; exact hj)
    rw [e1, List.length_map] at this
    exact this
theorem join_len (l : List (List UInt8)) (sep : List UInt8) (M : Nat) (h : ∀ a ∈ l, a.length ≤ M) : (Lib.join l sep).length ≤ l.length * (M + sep.length) := by
  induction l with
  | nil => simp [Lib.join]
  | cons a l ih =>
    have h1 := h a (by simp)
    have h2 := ih fun b hb => h b (by simp [hb])
    cases l with
    | nil => simp [Lib.join]; omega
    | cons b l =>
      have : Lib.join (a :: b :: l) sep = a ++ sep ++ Lib.join (b :: l) sep := by simp [Lib.join]
      have h3 : (a :: b :: l).length = (b :: l).length + 1 := rfl
      rw [this, List.length_append, List.length_append, h3, Nat.succ_mul]
      omega
end Go.Proofs.YthcgomainhaemaaDoor

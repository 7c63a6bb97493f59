/- rdep's reader in memory; next. -/
import Derived.Test.YtjdcegogkafmoaaDoorRdD
import Derived.Test.YtjdcegogkafmoaaDoorVerH
namespace Go.Proofs.YtjdcegogkafmoaaDoor
open Go.RowKit
/-- l[1:]. -/
theorem sl_next {α : Type} {sz : Nat} {R : Rel α} {P : Program} {X : Nat → Prop} {w : World} {A : Option Addr} {n cap : Nat} {x : α} {l : List α} (h : Sl sz R X w (.slice A n cap) (x :: l)) (t e : TypeId) (ht : P.underlying t = some (.slice e)) (he : (P.info? e).map (·.size) = some sz) :
    ∃ A' cap', (∀ W : World, (Instr.slice t (.slice A n cap) (some (.int .i64 1)) none none).run P W = .ok (.slice A' l.length cap') W) ∧ Sl sz R X w (.slice A' l.length cap') l := by
  obtain ⟨A0, cap0, hv, h1, h2, h3, h4, h5⟩ := h
  injection hv with e1 e2 e3
  subst e1 e3
  simp only [List.length_cons] at e2 h1 h5
  refine ⟨if cap = 1 then A else A.map (·.add sz), cap - 1, fun W => ?_, _, cap - 1, rfl, by omega, by omega, ?_, fun hne => ?_, fun b off hA i hi => ?_⟩
  · cases hi : P.info? e with
    | none => simp [hi] at he
    | some i =>
      have h1 : i.size = sz := by simpa [hi] using he
      have hb : (1 : Int) ≤ (n : Int) := by omega
      simp [Instr.slice, Instr.sliceBounds, Instr.sliceBound, run_underlying ht, sizeOf, typeInfo, hi, h1, asIntOf]
      rw [if_pos (by omega)]
      simp
      omega
  · intro hA
    split at hA
    · omega
    · have : A = none := by simpa using hA
      have := h3 this
      omega
  · obtain ⟨b, off, rfl, hX, hc⟩ := h4 (by simp)
    have hl : 0 < l.length := List.length_pos_iff.2 hne
    rw [if_neg (by omega)]
    refine ⟨b, off + sz, by simp [Addr.add_lit], hX, fun j hj => ?_⟩
    obtain ⟨cs, hcs, hR⟩ := hc (j + 1) (by simp; omega)
    refine ⟨cs, fun q u hu => ?_, by simpa using hR⟩
    have := hcs q u hu
    rw [Nat.add_mul, Nat.one_mul] at this
    rw [show off + sz + j * sz + q = off + (j * sz + sz) + q by omega]
    exact this
  · by_cases hck : cap = 1
    · have : l.length = 0 := by omega
      rw [this] at hi
      omega
    · rw [if_neg hck] at hA
      cases A with
      | none => simp at hA
      | some a =>
        obtain ⟨b0, off0, hb0, _, _⟩ := h4 (by simp)
        injection hb0 with hb0
        subst hb0
        simp [Addr.add_lit] at hA
        obtain ⟨rfl, rfl⟩ := hA
        have := h5 b0 off0 rfl (sz + i) (by rw [Nat.add_mul, Nat.one_mul]; omega)
        rw [← Nat.add_assoc] at this
        exact this
/-- The tokens are parts of a text: the last one alone is empty. -/
def WfT : List (List UInt8 × Nat) → Prop
  | [] => False
  | t :: r => t.1.length ≤ 1000000 ∧ (if r = [] then t.1 = [] else t.1 ≠ [] ∧ WfT r)
theorem WfT.bd : ∀ {ts : List (List UInt8 × Nat)}, WfT ts → ∀ t ∈ ts, t.1.length ≤ 1000000
  | [], h, _, _ => h.elim
  | a :: r, h, t, ht => by
    rw [WfT] at h
    rcases List.mem_cons.1 ht with rfl | h2
    · exact h.1
    · obtain ⟨_, h3⟩ := h
      split at h3
      · rename_i hr
        rw [hr] at h2
        cases h2
      · exact WfT.bd h3.2 t h2
theorem WfT.ne {ts : List (List UInt8 × Nat)} (h : WfT ts) : ∃ t r, ts = t :: r := by
  cases ts with
  | nil => exact h.elim
  | cons t r => exact ⟨t, r, rfl⟩
theorem WfT.next {t : List UInt8 × Nat} {r : List (List UInt8 × Nat)} (h : WfT (t :: r)) (ht : t.1 ≠ []) : WfT r := by
  rw [WfT] at h
  obtain ⟨_, h⟩ := h
  split at h
  · exact absurd h ht
  · exact h.2
structure RS (B : Nat) (W : World) (gr : Nat) (ts : List (List UInt8 × Nat)) (n : Nat) : Prop where
  sl : ∃ A c, Blk W gr 45 #[.slice A ts.length c, .int .i64 (n : Int)] ∧ Sl 2 Rprt (fun k => k = gr ∨ B ≤ k) W (.slice A ts.length c) ts
theorem RS.below {W W' : World} {gr : Nat} {ts : List (List UInt8 × Nat)} {B n : Nat} (h : RS B W gr ts n) (hb : Below W.heap.size W W') : RS B W' gr ts n := by
  obtain ⟨A, c, h1, h2⟩ := h.sl
  exact ⟨A, c, h1.below hb h1.lt, Below.sl good_prt hb h2⟩
theorem RS.keep {W W' : World} {gr : Nat} {ts : List (List UInt8 × Nat)} {B n : Nat} {X : Nat → Prop} (h : RS B W gr ts n) (k : Kept X W W') (hX : ∀ i, i < W.heap.size → ¬ X i) : RS B W' gr ts n :=
  h.below ⟨k.os, k.tape, k.output, k.size, fun i hi => k.block i hi (hX i hi)⟩
theorem RS.lt {W : World} {gr : Nat} {ts : List (List UInt8 × Nat)} {B n : Nat} (h : RS B W gr ts n) : gr < W.heap.size := by
  obtain ⟨A, c, h1, _⟩ := h.sl
  exact h1.lt
theorem RS.keepB {W W' : World} {gr : Nat} {ts : List (List UInt8 × Nat)} {B n : Nat} {X : Nat → Prop} (h : RS B W gr ts n) (k : Kept X W W') (hX : ∀ i, X i → i ≠ gr ∧ B ≤ i) : RS B W' gr ts n := by
  obtain ⟨A, c, h1, h2⟩ := h.sl
  exact ⟨A, c, k.blk h1 (fun e => (hX _ e).1 rfl), h2.keep good_prt (k.mono fun i _ hi => .inr (hX i hi).2)⟩
set_option maxRecDepth 20000 in
set_option maxHeartbeats 8000000 in
theorem next_any (B gr n : Nat) (t : List UInt8 × Nat) (r : List (List UInt8 × Nat)) (W : World) (h : RS B W gr (t :: r) n) :
    Calls Tryd.prog 27 #[.pointer (some ⟨gr, 0, none⟩)] W fun e w' => e = .returned (.tuple #[]) ∧ RS B w' gr r n ∧ Kept (fun k => k = gr) W w' := by
  obtain ⟨A, c, h1, h2⟩ := h.sl
  obtain ⟨A', c', hs, h3⟩ := sl_next (P := Tryd.prog) h2 42 48 Tryd.underlying42 (by kernel_rfl)
  simp only [List.length_cons] at h1 hs
  have z0 := h1.cell 0
  have f0 := h1.frozen 0
  simp at z0
  go_enter Tryd.func27, Tryd.ntmps27
  go_wp2_with fail
  have b1 : Blk (W.setCell ⟨gr, 0, none⟩ (.slice A' r.length c')) gr 45 #[.slice A' r.length c', .int .i64 (n : Int)] := h1.set (u := .slice A' r.length c') 0
  have k1 : Kept (fun k => k = gr) W (W.setCell ⟨gr, 0, none⟩ (.slice A' r.length c')) := (Kept.refl _ W).setCell (p := ⟨gr, 0, none⟩) (.slice A' r.length c') fun _ => rfl
  have h4 := h3.keep good_prt (k1.mono fun i _ hi => .inl hi)
  clear z0 f0 hs
  refine bodyPost_end (v := .tuple #[]) ?_ ?_ ?_
  · simp [results, Tryd.results27, go_sem]
  · rfl
  · exact ⟨rfl, ⟨A', c', b1, h4⟩, k1⟩
end Go.Proofs.YtjdcegogkafmoaaDoor

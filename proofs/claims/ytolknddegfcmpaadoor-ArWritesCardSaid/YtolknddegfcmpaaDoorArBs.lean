/- A few lemmas on memory, copied out of the cpio and entry texts. Printed by mk_arbs.py. -/
import Derived.Test.YtolknddegfcmpaaDoorEnEF
import Derived.Test.YtolknddegfcmpaaDoorMapU
import Derived.Test.YtolknddegfcmpaaDoorPlaF
import Derived.Test.YtolknddegfcmpaaDoorRw8
import Derived.Test.YtolknddegfcmpaaDoorFre
import Derived.Test.YtolknddegfcmpaaDoorShelfC
namespace Go.Proofs.YtolknddegfcmpaaDoor
open Go.RowKit
section
variable {w w' : World} {mo : Obj}
theorem Sl.sb8 {X : Nat → Prop} {w : World} {v : Value} {l : List UInt8} (h : Sl 1 Rbyte X w v l) : SB w v l := by
  obtain ⟨A, cap, hv, h1, h2, h3, h4, _⟩ := h
  refine ⟨A, cap, hv, h1, h2, h3, fun hl => ?_⟩
  obtain ⟨b, off, hA, _, hc⟩ := h4 hl
  refine ⟨b, off, hA, fun j hj => ?_⟩
  obtain ⟨cs, hcs, rfl⟩ := hc j hj
  simpa using hcs 0 _ rfl
theorem Blk.apartT {t t' : TypeId} {g g' : Nat} {cs cs' : Array Value} (h : Blk w g t cs) (h' : Blk w g' t' cs') (hne : t ≠ t') : g ≠ g' := fun e => by
  subst e
  rw [Blk, h'] at h
  injection h with h
  injection h with _ h
  exact hne h.symm
theorem own_typed {base : Nat} {e : TypeId} {size : Nat} {v : Value} {n : Nat} {xs : List Value} (h : w.ownsRow base e size v n xs) {g : Nat} (hg : v.ownBlock = some g) : ∃ cs, Blk w g e cs := by
  rcases h.2 with ⟨rfl, _⟩ | ⟨g', cap, cur, rfl, _, hb, _⟩
  · simp [Value.ownBlock] at hg
  · simp [Value.ownBlock] at hg
    subst hg
    exact ⟨cur, hb⟩
/-- What lies below a bound stays. -/
theorem Kept.low {B : Nat} (h : Below B w w') : Kept (fun k => B ≤ k) w w' := ⟨h.os, h.tape, h.output, h.size, fun k _ hx => h.block k (by omega)⟩
theorem own_notblk {base : Nat} {e t : TypeId} {size : Nat} {v : Value} {n : Nat} {xs : List Value} (h : w.ownsRow base e size v n xs) {b : Nat} {cs : Array Value} (hb : Blk w b t cs) (hne : e ≠ t) : v.ownBlock ≠ some b := fun e1 => by
  obtain ⟨c, hc⟩ := own_typed h e1
  exact Blk.apartT hc hb hne rfl
theorem Sl.take {α : Type} {sz : Nat} {R : Rel α} {X : Nat → Prop} {w : World} {b off n cap : Nat} {l : List α} (h : Sl sz R X w (.slice (some ⟨b, off, none⟩) n cap) l) (k : Nat) (hk : k ≤ l.length) : Sl sz R X w (.slice (some ⟨b, off, none⟩) k cap) (l.take k) := by
  obtain ⟨A', cap', hv, h1, h2, h3, h4, h5⟩ := h
  injection hv with e1 e2 e3
  subst e1 e2 e3
  have hl : (l.take k).length = k := by rw [List.length_take]; omega
  refine ⟨_, cap, by rw [hl], by rw [hl]; omega, h2, h3, fun hne => ?_, fun b' off' hA i hi => ?_⟩
  · have hl0 : l ≠ [] := fun e => hne (by rw [e]; simp)
    obtain ⟨b', off', hA, hX, hc⟩ := h4 hl0
    refine ⟨b', off', hA, hX, fun j hj => ?_⟩
    rw [hl] at hj
    have := hc j (by omega)
    rwa [List.getElem_take]
  · refine h5 b' off' hA i ?_
    rw [hl] at hi
    exact Nat.lt_of_lt_of_le hi (Nat.mul_le_mul_right _ hk)
/-- bytes.Clone. -/
theorem bclone_any (l : List UInt8) (v : Value) (X : Nat → Prop) (w : World) (hsl : Sl 1 Rbyte X w v l) (hl : l.length ≤ 140737488355328) :
    Calls Tryd.prog 81 #[v] w fun e w' => (∃ v', e = .returned v' ∧ OwnL 1 Rbyte 5 w.heap.size nowhere w' v' l) ∧ Below w.heap.size w w' := by
  obtain ⟨A, cap, rfl, h1, h2, h3, h4, h5⟩ := id hsl
  cases A with
  | none =>
    have hl0 : l = [] := by
      have := h3 rfl
      exact List.eq_nil_of_length_eq_zero (by omega)
    subst hl0
    refine (Tryd.bytes_Clone_nil _ _ w).mono ?_
    rintro e w' ⟨rfl, rfl⟩
    exact ⟨⟨_, rfl, OwnL.nil _ _ _ _ _ _⟩, Below.refl _ _⟩
  | some a =>
    have hcs : ∀ i, i < l.length → w.cell? (a.add i) = some (.int .u8 ((l.map fun b => (b.toNat : Int)).getD i 0)) := fun i hi => by
      have hne : l ≠ [] := fun e => by rw [e] at hi; simp at hi
      obtain ⟨b, off, hA, _, hc⟩ := h4 hne
      injection hA with hA
      subst hA
      obtain ⟨cs, hcs, hR⟩ := hc i hi
      have hR : cs = [.int .u8 (l[i].toNat : Int)] := hR
      subst hR
      have := hcs 0 _ rfl
      rw [Addr.add_lit]
      simpa [List.getD, hi] using this
    refine (Tryd.bytes_Clone_at a l.length cap (l.map fun b => (b.toNat : Int)) w (by simp) hl hcs).mono ?_
    rintro e w' ⟨v', rfl, ho, _, hb⟩
    refine ⟨⟨v', rfl, l.map fun b => [.int .u8 (b.toNat : Int)], ?_, by simp, fun _ _ h => h, fun j h h' => by simp [Rbyte]⟩, hb⟩
    have : (l.map fun b => [Value.int .u8 (b.toNat : Int)]).flatten = (l.map fun b => (b.toNat : Int)).map (Value.int .u8) := by
      clear ho hcs h1 h4 h5 hsl hl
      induction l with
      | nil => rfl
      | cons c t ih => rw [List.map_cons, List.flatten_cons, ih]; rfl
    rw [this]; exact ho
open Go.RowKit
theorem lit_bytes {w : World} {g : Nat} {X : Nat → Prop} (l : List UInt8) (h : w.heap[g]? = some (.cells (l.map fun c => Value.int .u8 (c.toNat : Int)).toArray 5 (l.length, l.length + 1))) (hl : l.length ≤ 1000000) (hX : ¬ X g) : Sl 1 Rbyte X w (.slice (some ⟨g, 0, none⟩) l.length l.length) l := by
  refine ⟨_, l.length, rfl, Nat.le_refl _, by unfold maxLen; omega, (fun h => by cases h), fun _ => ⟨g, 0, rfl, hX, fun j hj => ?_⟩, fun b off hA i hi => ?_⟩
  · refine ⟨[.int .u8 (l[j].toNat : Int)], fun i u hu => ?_, rfl⟩
    simp only [World.cell?, h]
    match i, hu with
    | 0, hu => simp at hu; subst hu; simp [hj]
    | i + 1, hu => simp at hu
  · injection hA with hA
    injection hA with e1 e2
    subst e1 e2
    simp only [World.frozen?, h]
    simp
    omega
end
end Go.Proofs.YtolknddegfcmpaaDoor

/- A few lemmas on memory, copied out of the cpio and entry texts. Printed by mk_arbs.py. -/
import Derived.Test.YtpheifdpjcppdaaGreatDoorEnEF
import Derived.Test.YtpheifdpjcppdaaGreatDoorMapU
import Derived.Test.YtpheifdpjcppdaaGreatDoorPlaF
import Derived.Test.YtpheifdpjcppdaaGreatDoorRw8
import Derived.Test.YtpheifdpjcppdaaGreatDoorFre
import Derived.Test.YtpheifdpjcppdaaGreatDoorShelfC
import Derived.Test.YtpheifdpjcppdaaGreatDoorEnMN
namespace Go.Proofs.YtpheifdpjcppdaaGreatDoor
open Go.RowKit
section
variable {w w' : World} {mo : Obj}
theorem Sl.sb8 {X : Nat → Prop} {w : World} {v : Value} {l : List UInt8} (h : Sl 1 Rbyte X w v l) : SB w v l := by
  obtain ⟨A, cap, hv, h1, h2, h3, h4, _⟩ := h
  refine ⟨A, cap, hv, h1, h2, h3, fun hl => ?_⟩
  obtain ⟨b, off, hA, _, hc⟩ := h4 hl
  refine ⟨b, off, hA, fun j hj => ?_⟩
  obtain ⟨cs, hcs, rfl⟩ := hc j hj
  simpa using hcs 0 _ rfl
theorem Blk.apartT {t t' : TypeId} {g g' : Nat} {cs cs' : Array Value} (h : Blk w g t cs) (h' : Blk w g' t' cs') (hne : t ≠ t') : g ≠ g' := fun e => by
  subst e
  rw [Blk, h'] at h
  injection h with h
  injection h with _ h
  exact hne h.symm
theorem own_typed {base : Nat} {e : TypeId} {size : Nat} {v : Value} {n : Nat} {xs : List Value} (h : w.ownsRow base e size v n xs) {g : Nat} (hg : v.ownBlock = some g) : ∃ cs, Blk w g e cs := by
  rcases h.2 with ⟨rfl, _⟩ | ⟨g', cap, cur, rfl, _, hb, _⟩
  · simp [Value.ownBlock] at hg
  · simp [Value.ownBlock] at hg
    subst hg
    exact ⟨cur, hb⟩
/-- What lies below a bound stays. -/
theorem Kept.low {B : Nat} (h : Below B w w') : Kept (fun k => B ≤ k) w w' := ⟨h.os, h.tape, h.output, h.size, fun k _ hx => h.block k (by omega)⟩
theorem own_notblk {base : Nat} {e t : TypeId} {size : Nat} {v : Value} {n : Nat} {xs : List Value} (h : w.ownsRow base e size v n xs) {b : Nat} {cs : Array Value} (hb : Blk w b t cs) (hne : e ≠ t) : v.ownBlock ≠ some b := fun e1 => by
  obtain ⟨c, hc⟩ := own_typed h e1
  exact Blk.apartT hc hb hne rfl
end
end Go.Proofs.YtpheifdpjcppdaaGreatDoor

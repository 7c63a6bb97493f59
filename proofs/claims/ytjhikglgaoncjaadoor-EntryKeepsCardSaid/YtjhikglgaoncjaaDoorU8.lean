/- Rows of bytes of this program, and texts of them. -/
import Derived.Test.YtjhikglgaoncjaaDoorProg
import Derived.Test.YtjhikglgaoncjaaDoorTxt
namespace Go.Proofs.YtjhikglgaoncjaaDoor
open Go.RowKit
theorem u8info : (Tryd.prog.info? 5).map (fun i => (i.zero, i.size, i.bytes)) = some (some (.int .u8 0), 1, 1) := by kernel_rfl
/-- string(v) of a slice of bytes. -/
theorem str8 {w : World} {v : Value} {l : List UInt8} (h : SB w v l) : (convert 22 9 v).run Tryd.prog w = .ok (.string ⟨l.toArray⟩) w :=
  h.str 22 5 9 Tryd.underlying22 Tryd.underlying5 Tryd.underlying9
/-- A literal row of bytes, as a row of one's own. -/
theorem own_lit (w : World) (l : List UInt8) (cs : Array Value) (e : TypeId) {base : Nat} (hb : base ≤ w.heap.size) (hcs : cs.toList = bvs l) (hl : l.length ≤ maxLen) :
    (w.alloc (.cells cs e)).ownsRow base e 1 (.slice (some ⟨w.heap.size, 0, none⟩) l.length l.length) l.length (bvs l) := by
  have hs : cs.size = l.length := by rw [← Array.length_toList, hcs, bvs_length]
  exact ⟨by simp [bvs_length], .inr ⟨w.heap.size, l.length, cs, rfl, hb, heap_alloc_new w _, Nat.le_refl _, hl, by omega, by rw [hcs, Nat.mul_one]; exact List.take_of_length_le (by rw [bvs_length]; omega)⟩⟩
theorem SB.alloc {w : World} {v : Value} {l : List UInt8} (h : SB w v l) (o : Obj) : SB (w.alloc o) v l := h.below ((Below.refl _ _).alloc (Nat.le_refl _) o)
end Go.Proofs.YtjhikglgaoncjaaDoor

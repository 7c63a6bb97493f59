/- Entries in memory. -/
import Derived.Test.YtjhikglgaoncjaaDoorEnB
import Derived.Test.YtjhikglgaoncjaaDoorOpn
namespace Go.Proofs.YtjhikglgaoncjaaDoor
open Go.RowKit
def Rbyte : Rel UInt8 := fun _ _ cs b => cs = [.int .u8 (b.toNat : Int)]
theorem good_byte : Good 1 Rbyte := ⟨fun h _ => h, fun h _ => h, (fun h => by subst h; rfl), (fun h u hu => by
  subst h; simp at hu; subst hu; rfl)⟩
theorem free_byte : FreeR Rbyte := fun _ _ _ _ _ _ h => h
/-- An entry as a value; dv is the slice of its data. -/
def entV (e : En) (dv : Value) : Value := .agg #[.string (bs e.path), .int .i64 e.kind, .int .i64 e.mode, .int .i64 e.uid, .int .i64 e.gid, .string (bs e.owner), .string (bs e.group), .int .i64 e.mtime, .string (bs e.link), dv]
def entC (e : En) (dv : Value) : List Value := [.string (bs e.path), .int .i64 e.kind, .int .i64 e.mode, .int .i64 e.uid, .int .i64 e.gid, .string (bs e.owner), .string (bs e.group), .int .i64 e.mtime, .string (bs e.link), dv]
/-- An entry in memory. -/
def Rent : Rel En := fun X w cs e => ∃ v, cs = entC e v ∧ Sl 1 Rbyte X w v e.data
theorem good_ent : Good 10 Rent :=
  ⟨fun ⟨v, h1, h2⟩ k => ⟨v, h1, h2.keep good_byte k⟩, fun ⟨v, h1, h2⟩ k => ⟨v, h1, h2.mono good_byte (by omega) k⟩, (fun ⟨v, h1, _⟩ => by subst h1; rfl), (fun ⟨v, h1, h2⟩ u hu => by
    subst h1
    obtain ⟨A, cap, rfl, _⟩ := h2
    simp only [entC, List.mem_cons, List.not_mem_nil, or_false] at hu
    rcases hu with rfl | rfl | rfl | rfl | rfl | rfl | rfl | rfl | rfl | rfl <;> rfl)⟩
/-- The cells of the j-th entry. -/
structure EntAt (w : World) (b off : Nat) (e : En) (v : Value) : Prop where
  c0 : w.cell? ⟨b, off, none⟩ = some (.string (bs e.path))
  c1 : w.cell? ⟨b, off + 1, none⟩ = some (.int .i64 e.kind)
  c2 : w.cell? ⟨b, off + 2, none⟩ = some (.int .i64 e.mode)
  c3 : w.cell? ⟨b, off + 3, none⟩ = some (.int .i64 e.uid)
  c4 : w.cell? ⟨b, off + 4, none⟩ = some (.int .i64 e.gid)
  c5 : w.cell? ⟨b, off + 5, none⟩ = some (.string (bs e.owner))
  c6 : w.cell? ⟨b, off + 6, none⟩ = some (.string (bs e.group))
  c7 : w.cell? ⟨b, off + 7, none⟩ = some (.int .i64 e.mtime)
  c8 : w.cell? ⟨b, off + 8, none⟩ = some (.string (bs e.link))
  c9 : w.cell? ⟨b, off + 9, none⟩ = some v
theorem EntAt.keep {X : Nat → Prop} {w w' : World} {b off : Nat} {e : En} {v : Value} (h : EntAt w b off e v) (k : Kept X w w') (hb : ¬ X b) : EntAt w' b off e v :=
  ⟨k.cell h.c0 hb, k.cell h.c1 hb, k.cell h.c2 hb, k.cell h.c3 hb, k.cell h.c4 hb, k.cell h.c5 hb, k.cell h.c6 hb, k.cell h.c7 hb, k.cell h.c8 hb, k.cell h.c9 hb⟩
theorem EntAt.below {w w' : World} {b off : Nat} {e : En} {v : Value} (h : EntAt w b off e v) (k : Below w.heap.size w w') : EntAt w' b off e v := h.keep (Kept.of_below k nowhere) (fun h => h)
theorem Sl.ent {X : Nat → Prop} {w : World} {A : Option Addr} {n cap : Nat} {l : List En} (h : Sl 10 Rent X w (.slice A n cap) l) (hn : 0 < n) :
    ∃ b off, A = some ⟨b, off, none⟩ ∧ ¬ X b ∧ ∀ j (h : j < l.length), ∃ v, EntAt w b (off + j * 10) l[j] v ∧ Sl 1 Rbyte X w v l[j].data := by
  obtain ⟨h1, h2, h3, h4⟩ := h.at
  obtain ⟨b, off, hA, hX, hc⟩ := h4 hn
  refine ⟨b, off, hA, hX, fun j hj => ?_⟩
  obtain ⟨cs, hcs, v, rfl, hR⟩ := hc j hj
  exact ⟨v, ⟨by simpa using hcs 0 _ rfl, hcs 1 _ rfl, hcs 2 _ rfl, hcs 3 _ rfl, hcs 4 _ rfl, hcs 5 _ rfl, hcs 6 _ rfl, hcs 7 _ rfl, hcs 8 _ rfl, hcs 9 _ rfl⟩, hR⟩
/-- Entries that are not too many or too long to be looked at. -/
def ES (l : List En) : Prop := l.length ≤ 1000000 ∧ ∀ e ∈ l, e.path.length ≤ 10000000 ∧ e.owner.length ≤ 10000000 ∧ e.group.length ≤ 10000000 ∧ e.link.length ≤ 10000000 ∧ e.data.length ≤ 10000000
end Go.Proofs.YtjhikglgaoncjaaDoor

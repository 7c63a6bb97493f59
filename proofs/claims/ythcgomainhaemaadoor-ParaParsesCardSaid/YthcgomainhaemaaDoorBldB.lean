/- Walks of strings.Builder's WriteByte; MaxLen's cell. -/
import Derived.Test.YthcgomainhaemaaDoorBld
import Derived.Test.YthcgomainhaemaaDoorBas2
namespace Go.Proofs.YthcgomainhaemaaDoor
open Go.RowKit
/-- Blocks that are no builder and no row of bytes stay as they were. -/
def KF (w w' : World) : Prop := ∀ (F : Nat) (t : TypeId) (cs : Array Value), Blk w F t cs → t ≠ 5 → t ≠ 46 → Blk w' F t cs
theorem copyK (B b : Nat) (xs : List Value) (w : World) (h : Lib.IsBuilder 46 5 B b xs w) :
    Calls Tryd.prog 32 #[.pointer (some ⟨b, 0, none⟩)] w fun e w' => e = .returned (.tuple #[]) ∧ (Lib.BuilderAt 46 5 B b (.pointer (some ⟨b, 0, none⟩)) xs w' ∧ Below B w w' ∧ KF w w') := by
  rcases h with h | h
  · refine (copy_fresh b w h.cell0 h.shape h.frozen0).mono ?_
    rintro e w' ⟨rfl, rfl⟩
    refine ⟨rfl, h.used _, (Below.refl B w).setCell (p := ⟨b, 0, none⟩) h.1 _, fun F t cs hF _ ht => Blk.other hF _ ?_⟩
    rintro rfl
    obtain ⟨_, v, hbk, _⟩ := h
    have := hF.symm.trans hbk
    injection this with this
    injection this with _ this
    exact ht this
  · refine (copy_used b w h.cell0).mono ?_
    rintro e w' ⟨rfl, rfl⟩
    exact ⟨rfl, h, Below.refl B _, fun F t cs hF _ _ => hF⟩
set_option maxHeartbeats 2000000 in
theorem writeByteK (B b : Nat) (xs : List Value) (c : Int) (w : World) (h : Lib.IsBuilder 46 5 B b xs w) (hlen : xs.length + 1 ≤ 140737488355328) (hBw : B ≤ w.heap.size) :
    Calls Tryd.prog 18 #[.pointer (some ⟨b, 0, none⟩), .int .u8 c] w fun e w' => e = .returned (.nilIface) ∧ (Lib.BuilderAt 46 5 B b (.pointer (some ⟨b, 0, none⟩)) (xs ++ [.int .u8 c]) w' ∧ Below B w w' ∧ KF w w') := by
  obtain ⟨i0, hi, hz0, hz1, hz2⟩ := info_parts u8info
  go_enter Tryd.func18, Tryd.ntmps18
  go_wp2_with fail
  refine (copyK B b xs _ h).mono ?_
  rintro e w1 ⟨rfl, h1, hb1, hk1⟩
  obtain ⟨hB, v, hbk, hown, hne⟩ := h1
  have c0 : w1.cell? ⟨b, 0, none⟩ = some (.pointer (some ⟨b, 0, none⟩)) := by rw [Lib.cell_of_heap hbk]; rfl
  have c1 : w1.cell? ⟨b, 1, none⟩ = some v := by rw [Lib.cell_of_heap hbk]; rfl
  have hsz := hb1.size
  have hlt : b < w1.heap.size := World.block_lt_of_cell? w1 ⟨b, 0, none⟩ c0
  go_wp2_with (at_builtin; refine wpList_append_own _ rfl _ _ 35 rfl B 5 i0 (.int .u8 0) 1 1 Tryd.underlying35 hi hz0 hz1 hz2 rfl (by decide) _ _ _ rfl (hown.alloc _) ⟨w1.heap.size, 0, none⟩ 1 1 [.int .u8 c] rfl rfl ?p1 ?p2 ?p3 ?p4 ?p5 ?_)
  case p1 =>
    intro k u hk
    cases k with
    | zero => simp at hk; subst hk; simp [Addr.add]
    | succ k => simp at hk
  case p2 =>
    intro u hu
    simp at hu
    subst hu
    rfl
  case p3 => unfold maxLen; omega
  case p4 => omega
  case p5 => simp; omega
  intro v' w2 hown' hgrow _
  have hb2 : w2.heap[b]? = some (.cells #[.pointer (some ⟨b, 0, none⟩), v] 46 (0, 0)) := by
    rw [hgrow.block b (by (try simp); try omega) (fun e => hne e.symm), Lib.alloc_old w1 _ b hlt]
    exact hbk
  have d0 : w2.cell? ⟨b, 0, none⟩ = some (.pointer (some ⟨b, 0, none⟩)) := by rw [Lib.cell_of_heap hb2]; rfl
  have d1 : w2.cell? ⟨b, 1, none⟩ = some v := by rw [Lib.cell_of_heap hb2]; rfl
  have f1 : w2.frozen? ⟨b, 1, none⟩ = false := Lib.frozen_of_heap hb2 1
  obtain ⟨ao, n', cap, rfl⟩ : ∃ ao n' cap, v' = .slice ao n' cap := by
    rcases hown'.2 with ⟨hv, _⟩ | ⟨g, cap, cur, hv, _⟩
    · exact ⟨_, _, _, hv⟩
    · exact ⟨_, _, _, hv⟩
  go_wp2
  go_ret
  refine ⟨rfl, ?_, ?_, ?_⟩
  · exact Lib.BuilderAt.put (T := 46) (e := 5) hB hb2 (bs' := xs ++ [.int .u8 c]) (by simpa [Lib.strCells_length] using hown') (by decide)
  · exact ((hb1.alloc (by omega) _).grown hgrow (by (try simp); try omega) (fun k hk => (hown.lt k hk).1)).setCell (p := ⟨b, 1, none⟩) hB _
  · intro F t cs hF ht1 ht2
    have hF1 := hk1 F t cs hF ht1 ht2
    have hFb : F ≠ b := by
      rintro rfl
      have := hF1.symm.trans hbk
      injection this with this
      injection this with _ this
      exact ht2 this
    refine Blk.other ?_ _ hFb
    refine Blk.grown (hF1.alloc _) hgrow ?_
    intro hv
    rcases hown.2 with ⟨hv2, _⟩ | ⟨g, cap, cur, hv2, _, hg, _⟩
    · rw [hv2] at hv; simp [Value.ownBlock] at hv
    · rw [hv2] at hv
      simp [Value.ownBlock] at hv
      subst hv
      have := hF1.symm.trans hg
      injection this with this
      injection this with _ this
      exact ht1 this
set_option maxHeartbeats 2000000 in
theorem writeStrK (B b : Nat) (xs : List Value) (s : ByteArray) (w : World) (h : Lib.IsBuilder 46 5 B b xs w) (hlen : xs.length + s.size ≤ 140737488355328) (hBw : B ≤ w.heap.size) :
    Calls Tryd.prog 19 #[.pointer (some ⟨b, 0, none⟩), .string s] w fun e w' => e = .returned (.tuple #[.int .i64 s.size, .nilIface]) ∧ (Lib.BuilderAt 46 5 B b (.pointer (some ⟨b, 0, none⟩)) (xs ++ Lib.strCells s) w' ∧ Below B w w' ∧ KF w w') := by
  obtain ⟨i0, hi, hz0, hz1, hz2⟩ := info_parts u8info
  go_enter Tryd.func19, Tryd.ntmps19
  go_wp2_with fail
  refine (copyK B b xs _ h).mono ?_
  rintro e w1 ⟨rfl, h1, hb1, hk1⟩
  obtain ⟨hB, v, hbk, hown, hne⟩ := h1
  have c0 : w1.cell? ⟨b, 0, none⟩ = some (.pointer (some ⟨b, 0, none⟩)) := by rw [Lib.cell_of_heap hbk]; rfl
  have c1 : w1.cell? ⟨b, 1, none⟩ = some v := by rw [Lib.cell_of_heap hbk]; rfl
  have hsz := hb1.size
  have hlt : b < w1.heap.size := World.block_lt_of_cell? w1 ⟨b, 0, none⟩ c0
  go_wp2_with (at_builtin; refine Lib.wpList_append_own_string _ rfl _ _ 35 9 rfl B 5 i0 Tryd.underlying35 Tryd.underlying9 hi hz0 hz1 hz2 _ _ _ rfl hown s rfl ?c3 ?c4 ?c5 ?_)
  case c3 => unfold maxLen; omega
  case c4 => omega
  case c5 => omega
  intro v' w2 hown' hgrow _
  have hb2 : w2.heap[b]? = some (.cells #[.pointer (some ⟨b, 0, none⟩), v] 46 (0, 0)) := by
    rw [hgrow.block b (by (try simp); try omega) (fun e => hne e.symm)]
    exact hbk
  have d0 : w2.cell? ⟨b, 0, none⟩ = some (.pointer (some ⟨b, 0, none⟩)) := by rw [Lib.cell_of_heap hb2]; rfl
  have d1 : w2.cell? ⟨b, 1, none⟩ = some v := by rw [Lib.cell_of_heap hb2]; rfl
  have f1 : w2.frozen? ⟨b, 1, none⟩ = false := Lib.frozen_of_heap hb2 1
  obtain ⟨ao, n', cap, rfl⟩ : ∃ ao n' cap, v' = .slice ao n' cap := by
    rcases hown'.2 with ⟨hv, _⟩ | ⟨g, cap, cur, hv, _⟩
    · exact ⟨_, _, _, hv⟩
    · exact ⟨_, _, _, hv⟩
  go_wp2
  go_ret2
  refine ⟨rfl, ?_, ?_, ?_⟩
  · exact Lib.BuilderAt.put (T := 46) (e := 5) hB hb2 (bs' := xs ++ Lib.strCells s) (by simpa [Lib.strCells_length] using hown') (by decide)
  · exact ((hb1).grown hgrow (by (try simp); try omega) (fun k hk => (hown.lt k hk).1)).setCell (p := ⟨b, 1, none⟩) hB _
  · intro F t cs hF ht1 ht2
    have hF1 := hk1 F t cs hF ht1 ht2
    have hFb : F ≠ b := by
      rintro rfl
      have := hF1.symm.trans hbk
      injection this with this
      injection this with _ this
      exact ht2 this
    refine Blk.other ?_ _ hFb
    refine Blk.grown (hF1) hgrow ?_
    intro hv
    rcases hown.2 with ⟨hv2, _⟩ | ⟨g, cap, cur, hv2, _, hg, _⟩
    · rw [hv2] at hv; simp [Value.ownBlock] at hv
    · rw [hv2] at hv
      simp [Value.ownBlock] at hv
      subst hv
      have := hF1.symm.trans hg
      injection this with this
      injection this with _ this
      exact ht1 this
theorem wbyte (B b : Nat) (l : List UInt8) (c : UInt8) (w : World) (h : Bld B b l w) (hlen : l.length + 1 ≤ 140737488355328) (hBw : B ≤ w.heap.size) :
    Calls Tryd.prog 18 #[.pointer (some ⟨b, 0, none⟩), .int .u8 (c.toNat : Int)] w fun e w' => e = .returned .nilIface ∧ Bld B b (l ++ [c]) w' ∧ Below B w w' ∧ KF w w' :=
  (writeByteK B b (Lib.byteCells l) _ w h (by simpa [Lib.byteCells] using hlen) hBw).mono fun e w' ⟨h1, h2, h3⟩ => ⟨h1, .inr (by
    have : Lib.byteCells (l ++ [c]) = Lib.byteCells l ++ [.int .u8 (c.toNat : Int)] := by simp [Lib.byteCells]
    rw [this]; exact h2), h3⟩
theorem wstrK (B b : Nat) (l s : List UInt8) (w : World) (h : Bld B b l w) (hlen : l.length + s.length ≤ 140737488355328) (hBw : B ≤ w.heap.size) :
    Calls Tryd.prog 19 #[.pointer (some ⟨b, 0, none⟩), .string (bs s)] w fun e w' => e = .returned (.tuple #[.int .i64 s.length, .nilIface]) ∧ Bld B b (l ++ s) w' ∧ Below B w w' ∧ KF w w' :=
  (writeStrK B b (Lib.byteCells l) (bs s) w h (by rw [bs_size]; simpa [Lib.byteCells] using hlen) hBw).mono fun e w' ⟨h1, h2, h3⟩ => ⟨by rw [h1, bs_size], .inr (by rw [← byteCells_app]; exact h2), h3⟩
/-- internal/bytealg.MaxLen holds a number. -/
def MaxC (w : World) : Prop := ∃ m : Int, w.cell? ⟨0, 0, none⟩ = some (.int .i64 m)
theorem MaxC.below {w w' : World} {B : Nat} (h : MaxC w) (hB : 0 < B) (hb : Below B w w') : MaxC w' := by
  obtain ⟨m, h⟩ := h
  exact ⟨m, (hb.cell (p := ⟨0, 0, none⟩) hB).trans h⟩
theorem MaxC.lt {w : World} (h : MaxC w) : 0 < w.heap.size := by
  obtain ⟨m, h⟩ := h
  exact World.block_lt_of_cell? w _ h
end Go.Proofs.YthcgomainhaemaaDoor

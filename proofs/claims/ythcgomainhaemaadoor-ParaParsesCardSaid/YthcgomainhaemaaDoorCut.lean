/- Walks of strings.Cut at one byte. -/
import Derived.Test.YthcgomainhaemaaDoorTxt
import Derived.Test.YthcgomainhaemaaDoorShelfV
import Derived.Test.YthcgomainhaemaaDoorCodS
import Derived.Test.YthcgomainhaemaaDoorPlan
import Derived.Test.YthcgomainhaemaaDoorShelfW
namespace Go.Proofs.YthcgomainhaemaaDoor
open Go.RowKit
theorem beq_byte (a b : UInt8) : ((a.toNat : Int) == (b.toNat : Int)) = decide (a = b) := by
  by_cases h : a = b
  · subst h; simp
  · have : ¬ a.toNat = b.toNat := fun e => h (UInt8.toNat_inj.1 e)
    simp [h]; omega
/-- Is the byte among these? -/
def inB (o : List UInt8) (c : UInt8) : Bool := decide (0 ≤ Lib.indexByte o c)
theorem ib (s : ByteArray) (b : UInt8) (w : World) : Calls Tryd.prog 72 #[.string s, .int .u8 (b.toNat : Int)] w fun e w' => e = .returned (.int .i64 (Lib.indexByte s.data.toList b)) ∧ w = w' :=
  (Tryd.strings_IndexByte s _ w).mono fun e w' ⟨h1, h2⟩ => ⟨by simpa using h1, h2.symm⟩
/-- A text ahead of a byte's first place, behind it, and whether it is there. -/
def cutA (l : List UInt8) (c : UInt8) : List UInt8 := if inB l c = true then l.take (Lib.indexByte l c).toNat else l
def cutB (l : List UInt8) (c : UInt8) : List UInt8 := if inB l c = true then l.drop ((Lib.indexByte l c).toNat + 1) else []
theorem idx1 (s : ByteArray) (c : UInt8) (w : World) : Calls Tryd.prog 50 #[.string s, .string ⟨#[c]⟩] w fun e w' => e = .returned (.int .i64 (Lib.indexByte s.data.toList c)) ∧ w = w' :=
  (Tryd.stringslite_Index_one s c w).mono fun e w' ⟨h1, h2⟩ => ⟨h1, h2.symm⟩
set_option maxRecDepth 20000 in
set_option maxHeartbeats 1000000 in
theorem lcut_any (s : ByteArray) (c : UInt8) (w : World) (hs : s.size ≤ 1000000000000) :
    Calls Tryd.prog 38 #[.string s, .string ⟨#[c]⟩] w fun e w' => e = .returned (.tuple #[.string (bs (cutA s.data.toList c)), .string (bs (cutB s.data.toList c)), .bool (inB s.data.toList c)]) ∧ Below w.heap.size w w' := by
  have hge := Lib.indexByte_ge s.data.toList c
  have hlt := indexByte_lt s.data.toList c
  by_cases h0 : 0 ≤ Lib.indexByte s.data.toList c
  · obtain ⟨k, hk⟩ := Int.eq_ofNat_of_zero_le h0
    have hkl : k < s.size := by simp at hlt; omega
    go_enter Tryd.func38, Tryd.ntmps38
    go_wp2_with fail
    refine (idx1 s c _).mono ?_
    rintro e w1 ⟨rfl, rfl⟩
    have hin : inB s.data.toList c = true := by simp [inB, h0]
    have HA : Hid (s.extract 0 k = bs (cutA s.data.toList c)) := Lib.hid (by rw [cutA, if_pos hin, hk, ext_take s k (by omega)]; simp)
    have HB : Hid (s.extract (k + 1) s.size = bs (cutB s.data.toList c)) := Lib.hid (by rw [cutB, if_pos hin, hk, ext_drop]; simp)
    have HI := Lib.hid hin
    rw [hk]
    clear hk h0 hlt hge hin
    have hi1 : (0 : Int) ≤ (k : Int) := by omega
    have hi2 : (k : Int) ≤ (s.size : Int) := by omega
    have hi3 : (0 : Int) ≤ (k : Int) + 1 := by omega
    have hi4 : (k : Int) + 1 ≤ (s.size : Int) := by omega
    have hi5 : ((k : Int) + 1).toNat = k + 1 := by omega
    have hi6 : IntKind.i64.wrap ((k : Int) + 1) = (k : Int) + 1 := i64_in _ (by omega) (by omega)
    go_wp2_with fail
    refine wp_region_plan (fun _ => True) [(false, 0), (false, 1), (false, 2), (false, 3), (false, 4), (false, 5), (false, 6), (false, 7), (false, 8), (false, 9), (false, 10), (false, 11)] (by kernel_rfl) (by kernel_rfl) (trivial) ?_
    simp only [planOps, List.map, List.getD_cons_zero, List.getD_cons_succ]
    iterate 12 ((first | refine plan_quiet (v := ?_) rfl rfl (fun w' hw' => ?_) ?_ | refine plan_calm (v := ?_) (tt_of) rfl (fun w' hw' => ?_) ?_); rotate_left; (focus (go_simp <;> with_reducible rfl)); simp only [Act.put, List.setIfInBounds_toArray, List.set_cons_zero, List.set_cons_succ])
    refine plan_end ?_
    go_wp2_with fail
    go_ret3
    exact ⟨by rw [← HA.out, ← HB.out, HI.out]; rfl, (Below.refl _ _).drew⟩
  · have hin : inB s.data.toList c = false := by simp [inB]; omega
    have h1 : Lib.indexByte s.data.toList c = -1 := by omega
    have HA : Hid (s = bs (cutA s.data.toList c)) := Lib.hid (by rw [cutA, if_neg (by rw [hin]; simp)]; rfl)
    have HB : Hid (⟨#[]⟩ = bs (cutB s.data.toList c)) := Lib.hid (by rw [cutB, if_neg (by rw [hin]; simp)]; rfl)
    have HI := Lib.hid hin
    go_enter Tryd.func38, Tryd.ntmps38
    go_wp2_with fail
    refine (idx1 s c _).mono ?_
    rintro e w1 ⟨rfl, rfl⟩
    rw [h1]
    clear hlt hge hin h0 h1
    go_wp2_with fail
    go_ret3
    exact ⟨by rw [← HA.out, ← HB.out, HI.out]; rfl, Below.refl _ _⟩
set_option maxHeartbeats 400000 in
theorem cut_any (s : ByteArray) (c : UInt8) (w : World) (hs : s.size ≤ 1000000000000) :
    Calls Tryd.prog 27 #[.string s, .string ⟨#[c]⟩] w fun e w' => e = .returned (.tuple #[.string (bs (cutA s.data.toList c)), .string (bs (cutB s.data.toList c)), .bool (inB s.data.toList c)]) ∧ Below w.heap.size w w' := by
  go_enter Tryd.func27, Tryd.ntmps27
  go_wp2_with fail
  refine (lcut_any s c _ hs).mono ?_
  rintro e w1 ⟨rfl, hb1⟩
  go_wp2_with fail
  go_ret3
  exact ⟨rfl, hb1⟩
end Go.Proofs.YthcgomainhaemaaDoor

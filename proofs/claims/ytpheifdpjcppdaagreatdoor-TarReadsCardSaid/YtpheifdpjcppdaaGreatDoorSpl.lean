/- The walk of strings.Split at one byte. -/
import Derived.Test.YtpheifdpjcppdaaGreatDoorShelfB
import Derived.Test.YtpheifdpjcppdaaGreatDoorTxt
import Derived.Lib.IndexBytes
import Derived.Lib.SplitLaws
namespace Go.Proofs.YtpheifdpjcppdaaGreatDoor
open Go.RowKit
/-- The parts between the bytes b. -/
def splitP (b : UInt8) : List UInt8 → List UInt8 → List (List UInt8)
  | [], a => [a]
  | c :: t, a => if c = b then a :: splitP b t [] else splitP b t (a ++ [c])
def partsB (b : UInt8) (l : List UInt8) : List (List UInt8) := splitP b l []
theorem splitP_cons (b c : UInt8) (t a : List UInt8) : splitP b (c :: t) a = if c = b then a :: splitP b t [] else splitP b t (a ++ [c]) := rfl
theorem splitP_hit (b : UInt8) (l : List UInt8) (i : Nat) (h : Lib.indexByte l b = i) (a : List UInt8) : splitP b l a = (a ++ l.take i) :: splitP b (l.drop (i + 1)) [] := by
  induction l generalizing i a with
  | nil => simp [Lib.indexByte] at h
  | cons c t ih =>
    unfold Lib.indexByte at h
    rw [splitP_cons]
    by_cases hc : c = b
    · subst hc
      simp at h
      obtain rfl : i = 0 := by omega
      simp
    · have hcb : (c == b) = false := by simpa using hc
      rw [if_neg hc]
      rw [hcb] at h
      by_cases hm : Lib.indexByte t b = -1
      · simp [hm] at h
      · have hm' : (Lib.indexByte t b == -1) = false := by simpa using hm
        simp only [hm', Bool.false_eq_true, if_false] at h
        have hge := Lib.indexByte_ge t b
        obtain ⟨j, hj⟩ := Int.eq_ofNat_of_zero_le (show 0 ≤ Lib.indexByte t b by omega)
        obtain rfl : i = j + 1 := by rw [hj] at h; omega
        rw [ih j hj]
        simp
theorem splitP_miss (b : UInt8) (l : List UInt8) (h : Lib.indexByte l b = -1) (a : List UInt8) : splitP b l a = [a ++ l] := by
  induction l generalizing a with
  | nil => simp [splitP]
  | cons c t ih =>
    unfold Lib.indexByte at h
    rw [splitP_cons]
    by_cases hc : c = b
    · subst hc; simp at h
    · have hcb : (c == b) = false := by simpa using hc
      rw [if_neg hc]
      rw [hcb] at h
      by_cases hm : Lib.indexByte t b = -1
      · rw [ih hm]; simp
      · have hm' : (Lib.indexByte t b == -1) = false := by simpa using hm
        have hge := Lib.indexByte_ge t b
        simp only [hm', Bool.false_eq_true, if_false] at h
        omega
theorem one_le (b : UInt8) : 1 ≤ (ByteArray.mk #[b]).size := Nat.le_refl _
theorem parts_eq (b : UInt8) : ∀ (k : Nat) (s : ByteArray), Lib.countB s ⟨#[b]⟩ = k → Lib.splitB ⟨#[b]⟩ 0 k s = (partsB b s.data.toList).map bs := by
  intro k
  induction k with
  | zero =>
    intro s hk
    have hi : Lib.indexB s ⟨#[b]⟩ = Lib.indexByte s.data.toList b := Lib.index_one _ _
    rcases Lib.indexB_cases s ⟨#[b]⟩ with h | ⟨i, h, _⟩
    · rw [Lib.splitB_zero, partsB, splitP_miss b _ (by rw [← hi]; exact h)]
      rfl
    · have := Lib.countB_hit s ⟨#[b]⟩ i (one_le b) h
      omega
  | succ k ih =>
    intro s hk
    have hi : Lib.indexB s ⟨#[b]⟩ = Lib.indexByte s.data.toList b := Lib.index_one _ _
    rcases Lib.indexB_cases s ⟨#[b]⟩ with h | ⟨i, h, hle⟩
    · have := Lib.countB_miss s ⟨#[b]⟩ h
      omega
    · have h1 := Lib.countB_hit s ⟨#[b]⟩ i (one_le b) h
      have hone : (ByteArray.mk #[b]).size = 1 := rfl
      rw [hone] at hle h1
      have e1 : partsB b s.data.toList = s.data.toList.take i :: partsB b (s.data.toList.drop (i + 1)) := by
        have := splitP_hit b s.data.toList i (by rw [← hi]; exact h) []
        rw [List.nil_append] at this
        exact this
      rw [Lib.splitB_hit _ _ _ _ i h, hone, ih _ (by omega), e1, Nat.add_zero, ext_take s i (by omega), ext_drop]
      rfl
theorem parts_len (b : UInt8) (s : ByteArray) : (partsB b s.data.toList).length = Lib.countB s ⟨#[b]⟩ + 1 := by
  have h := parts_eq b _ s rfl
  have h2 := Lib.splitB_all ⟨#[b]⟩ (one_le b) 0 _ s rfl
  rw [h, List.length_map] at h2
  exact h2
set_option maxHeartbeats 1000000 in
theorem split1 (l : List UInt8) (b : UInt8) (w : World) (hl : l.length < 4294967281) :
    Calls Tryz.prog 105 #[.string (bs l), .string ⟨#[b]⟩] w fun e w' => e = .returned (.slice (some ⟨w.heap.size, 0, none⟩) (partsB b l).length (partsB b l).length) ∧ w' = w.alloc (.cells ((partsB b l).map fun x => Value.string (bs x)).toArray 9) := by
  have hle := Lib.countB_le ⟨#[b]⟩ (one_le b) (bs l).size (bs l) (Nat.le_refl _)
  have hlen := Lib.splitB_all ⟨#[b]⟩ (one_le b) 0 _ (bs l) rfl
  have hsz : (bs l).size < 4294967281 := by rw [bs_size]; exact hl
  have c := Any.strings_genSplit_core Tryz.lays221 (by kernel_rfl) (bs l) ⟨#[b]⟩ 0 (-1) (Lib.countB (bs l) ⟨#[b]⟩ + 1) w hsz (one_le b) (Nat.zero_le _)
    (fun x cs _ => (Tryz.strings_Index_one x b _).mono fun e w' ⟨h1, h2⟩ => ⟨by rw [h1]; show _ = Ending.returned (.int .i64 (Lib.index x.data.toList [b])); rw [Lib.index_one], h2⟩)
    ((Tryz.strings_Count_one (bs l) b w).mono fun e w' ⟨h1, h2⟩ => ⟨by rw [h1]; show _ = Ending.returned (Value.int .i64 ((Lib.count (bs l).data.toList [b] : Nat) : Int)); rw [Lib.count_one]; rfl, h2⟩)
    (by decide) (by decide) (by rw [if_pos (by decide)]; omega)
  rw [Nat.add_sub_cancel, hlen] at c
  have e2 : Lib.cellsOf (Lib.splitB ⟨#[b]⟩ 0 (Lib.countB (bs l) ⟨#[b]⟩) (bs l)) (Lib.countB (bs l) ⟨#[b]⟩ + 1) = ((partsB b l).map fun x => Value.string (bs x)).toArray := by
    rw [← hlen, Lib.cellsOf_full, parts_eq b _ (bs l) rfl, bs_list, List.map_map]
    rfl
  rw [e2] at c
  have hpl := parts_len b (bs l)
  rw [bs_list] at hpl
  rw [← hpl] at c
  clear hpl hlen hle e2
  generalize (partsB b l).length = n at c ⊢
  go_enter Tryz.func105, Tryz.ntmps105
  go_wp2_with fail
  refine c.mono ?_
  rintro e w1 ⟨rfl, rfl⟩
  go_wp2_with fail
  go_ret
  exact ⟨rfl, rfl⟩
end Go.Proofs.YtpheifdpjcppdaaGreatDoor

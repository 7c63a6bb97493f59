/- Walks of codec's numbers as bytes. -/
import Derived.Test.YtkhkminhlpjkgaaDoorCodD
namespace Go.Proofs.YtkhkminhlpjkgaaDoor
open Go.RowKit
def beL (n : Nat) : Nat → List UInt8
  | 0 => []
  | i + 1 => UInt8.ofNat (n / 256 ^ i) :: beL n i
theorem beL_length (n i : Nat) : (beL n i).length = i := by
  induction i with
  | zero => rfl
  | succ i ih => simp [beL, ih]
set_option maxHeartbeats 400000 in
theorem be_none (n size : Int) (w : World) (h : size < 1 ∨ 8 < size) :
    Calls Tryd.prog 18 #[.int .u64 n, .int .i64 size] w fun e w' => e = .returned (.slice none 0 0) ∧ w = w' := by
  rcases h with h | h
  · go_enter Tryd.func18, Tryd.ntmps18
    go_wp2
    go_ret
    exact ⟨rfl, rfl⟩
  · have h1 : ¬ size < 1 := by omega
    have h2 : decide (size < 1) = false := by simpa using h1
    go_enter Tryd.func18, Tryd.ntmps18
    go_wp2
    go_ret
    exact ⟨rfl, rfl⟩
set_option maxHeartbeats 400000 in
theorem be_any (n size : Nat) (w : World) (hn : n < 18446744073709551616) (h1 : 1 ≤ size) (h8 : size ≤ 8) :
    Calls Tryd.prog 18 #[.int .u64 (n : Int), .int .i64 (size : Int)] w (GivesB 5 w (fun v => v) (beL n size)) := by
  obtain ⟨i0, hi, hz0, hz1, hz2⟩ := info_parts u8info
  have hd1 : decide ((size : Int) < 1) = false := by simp; omega
  have hd2 : decide ((8 : Int) < (size : Int)) = false := by simp; omega
  go_enter Tryd.func18, Tryd.ntmps18
  go_wp2_with (at_make; refine wpList_make_full _ rfl _ _ _ rfl w.heap.size _ i0 _ 1 Tryd.underlying22 hi hz0 hz1 _ _ _ _ size rfl rfl rfl rfl (by rw [hz2]; omega) (by unfold maxLen; omega) (Nat.le_refl _) ?_)
  intro w1 hown1 hg1
  have hb1 : Below w.heap.size w w1 := (Below.refl _ _).grown hg1 (Nat.le_refl _) (by simp)
  go_wp2
  go_loopw [16] (fun i wr => ∃ k : Nat, k ≤ size ∧ i = .int .i64 k ∧ wr.ownsRow w.heap.size 5 1 (.slice (some ⟨w.heap.size, 0, none⟩) size size) size (bvs (List.replicate (size - k) 0 ++ beL n k)) ∧ Below w.heap.size w wr) (fun i _ => size - (intOf i).toNat)
  case atStart => exact ⟨0, Nat.zero_le _, rfl, by simp only [beL, List.append_nil, Nat.sub_zero]; rw [← bvs_replicate']; simpa using hown1, hb1⟩
  case round =>
    obtain ⟨k, hk, rfl, hown, hbw⟩ := hrel
    by_cases hlt : k < size
    · obtain ⟨b8, Hb8⟩ : ∃ b8 : UInt8, Hid (b8 = UInt8.ofNat (n / 256 ^ k)) := ⟨_, rfl⟩
      have hval : (n : Int) / 2 ^ (8 * k) % 256 = (b8.toNat : Int) := by
        rw [Hb8.out, Int.pow_mul]
        simp
      obtain ⟨⟨u0, hcell⟩, hfro, hst⟩ := own_store hown (size - 1 - k) (by omega)
      have Hst := Lib.hid hst
      clear hst
      go_wp2
      go_roundw
      case rel =>
        refine ⟨k + 1, by omega, by go_num, ?_, hbw.setCell (Nat.le_refl _) _⟩
        have h2 := Hst.out b8
        have e : (List.replicate (size - k) 0 ++ beL n k).set (size - 1 - k) b8 = List.replicate (size - (k + 1)) 0 ++ beL n (k + 1) := by
          obtain ⟨m, hm⟩ : ∃ m, size - k = m + 1 := ⟨size - k - 1, by omega⟩
          rw [hm, show size - 1 - k = m by omega, show size - (k + 1) = m by omega, List.replicate_succ', List.append_assoc]
          show (List.replicate m 0 ++ 0 :: beL n k).set m b8 = _
          rw [set_next _ _ _ _ _ (by simp), Hb8.out]
          rfl
        rw [e] at h2
        exact h2
      case measure => simp [intOf]; omega
    · go_wp2
      go_ret
      obtain rfl : k = size := by omega
      exact ⟨_, rfl, by rw [beL_length]; simpa using hown, hbw⟩
end Go.Proofs.YtkhkminhlpjkgaaDoor

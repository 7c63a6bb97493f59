/- Walks of what reads numbers out of bytes. -/
import Derived.Test.YtkhkminhlpjkgaaDoorCodO
namespace Go.Proofs.YtkhkminhlpjkgaaDoor
open Go.RowKit
/-- b[k:j] of a slice of bytes: one value, whatever the capacity. -/
theorem SB.sub_ {P : Program} {w : World} {A : Option Addr} {n cap : Nat} {l : List UInt8} (h : SB w (.slice A n cap) l) (t e : TypeId) (ht : P.underlying t = some (.slice e)) (he : (P.info? e).map (·.size) = some 1) (k z : Nat) (hk : k + z ≤ n) :
    ∃ A' cap', (∀ W : World, (Instr.slice t (.slice A n cap) (some (.int .i64 (k : Int))) (some (.int .i64 ((k : Int) + (z : Int)))) none).run P W = .ok (.slice A' z cap') W) ∧ SB w (.slice A' z cap') ((l.drop k).take z) := by
  have hc := h.cut k (k + z) (by omega) hk
  obtain ⟨hn, hcap, _⟩ := h.cells
  rw [List.drop_take, Nat.add_sub_cancel_left] at hc
  refine ⟨_, _, fun W => ?_, hc⟩
  cases hi : P.info? e with
  | none => simp [hi] at he
  | some i =>
    have h1 : i.size = 1 := by simpa [hi] using he
    have hb : (0 : Int) ≤ (k : Int) ∧ (k : Int) ≤ (n : Int) := by omega
    have hb2 : ¬ ((k : Int) + (z : Int) < 0) := by omega
    have hb3 : (k : Int) + (z : Int) ≤ (cap : Int) := by omega
    have hb4 : ((k : Int) + (z : Int)).toNat = k + z := by omega
    simp [Instr.slice, Instr.sliceBounds, Instr.sliceBound, run_underlying ht, sizeOf, typeInfo, hi, h1, asIntOf]
    rw [if_pos ⟨by omega, hb3⟩, if_pos (by omega), hb4, Nat.add_sub_cancel_left]
set_option maxHeartbeats 400000 in
theorem getbe_bad (v : Value) (l : List UInt8) (at_ size : Int) (w : World) (h : SB w v l) (hs : -9223372036854775808 ≤ size ∧ size ≤ 9223372036854775807) (hbad : ¬ (1 ≤ size ∧ size ≤ 8 ∧ 0 ≤ at_ ∧ at_ + size ≤ l.length)) :
    Calls Tryd.prog 26 #[v, .int .i64 at_, .int .i64 size] w fun e w' => e = .returned (.tuple #[.int .u64 0, .bool false]) ∧ w = w' := by
  obtain ⟨A, cap, rfl, h1, h2, h3, h4⟩ := h
  clear h3 h4
  unfold maxLen at h2
  by_cases c1 : size < 1
  · have d1 : decide (size < 1) = true := by simpa using c1
    go_enter Tryd.func26, Tryd.ntmps26
    go_wp2
    go_ret2
    exact ⟨rfl, rfl⟩
  · have d1 : decide (size < 1) = false := by simpa using c1
    by_cases c2 : 8 < size
    · have d2 : decide (8 < size) = true := by simpa using c2
      go_enter Tryd.func26, Tryd.ntmps26
      go_wp2
      go_ret2
      exact ⟨rfl, rfl⟩
    · have d2 : decide (8 < size) = false := by simpa using c2
      by_cases c3 : at_ < 0
      · have d3 : decide (at_ < 0) = true := by simpa using c3
        go_enter Tryd.func26, Tryd.ntmps26
        go_wp2
        go_ret2
        exact ⟨rfl, rfl⟩
      · have d3 : decide (at_ < 0) = false := by simpa using c3
        have d4 : decide ((l.length : Int) - size < at_) = true := by simp; omega
        have d5 : IntKind.i64.wrap ((l.length : Int) - size) = (l.length : Int) - size := i64_in _ (by omega) (by omega)
        go_enter Tryd.func26, Tryd.ntmps26
        go_wp2
        go_ret2
        exact ⟨rfl, rfl⟩
set_option maxHeartbeats 400000 in
theorem getbe_any (v : Value) (l : List UInt8) (a z : Nat) (w : World) (h : SB w v l) (h1 : 1 ≤ z) (h8 : z ≤ 8) (hz : a + z ≤ l.length) :
    Calls Tryd.prog 26 #[v, .int .i64 (a : Int), .int .i64 (z : Int)] w fun e w' => e = .returned (.tuple #[.int .u64 (beN ((l.drop a).take z) : Int), .bool true]) ∧ w = w' := by
  obtain ⟨A, cap, rfl, g1, g2, g3, g4⟩ := id h
  clear g3
  unfold maxLen at g2
  have d1 : decide ((z : Int) < 1) = false := by simp; omega
  have d2 : decide (8 < (z : Int)) = false := by simp; omega
  have d3 : decide ((a : Int) < 0) = false := by simp
  have d4 : decide ((l.length : Int) - (z : Int) < (a : Int)) = false := by simp; omega
  have d5 : IntKind.i64.wrap ((l.length : Int) - (z : Int)) = (l.length : Int) - (z : Int) := i64_in _ (by omega) (by omega)
  have d6 : IntKind.i64.wrap ((a : Int) + (z : Int)) = (a : Int) + (z : Int) := i64_in _ (by omega) (by omega)
  obtain ⟨b, off, rfl, hc⟩ := g4 (by intro e; subst e; simp at hz; omega)
  obtain ⟨L, HL⟩ : ∃ L, Hid (L = (l.drop a).take z) := ⟨_, Lib.hid rfl⟩
  have HLn : Hid (L.length = z) := Lib.hid (by rw [HL.out, List.length_take, List.length_drop]; omega)
  have HLk : Hid (∀ k (hk : k < z), w.cell? ⟨b, off + a + k, none⟩ = some (.int .u8 ((L[k]'(by rw [HLn.out]; exact hk)).toNat : Int))) := Lib.hid (fun k hk => by
    have := hc (a + k) (by omega)
    rw [← Nat.add_assoc] at this
    rw [this]
    simp [HL.out])
  rw [← HL.out]
  clear hc
  go_enter Tryd.func26, Tryd.ntmps26
  go_wp2
  go_loop [8, 36] (fun m i => ∃ (k N : Nat), k ≤ z ∧ i = .int .i64 k ∧ m = .int .u64 (N : Int) ∧ Hid (N = beN (L.take k))) (fun _ i => z - (intOf i).toNat)
  case atStart => exact ⟨0, 0, Nat.zero_le _, rfl, rfl, Lib.hid rfl⟩
  case round =>
    obtain ⟨k, N, hk, rfl, rfl, HN⟩ := hrel
    by_cases hlt : k < z
    · have hcell := HLk.out k hlt
      have hN : N < 72057594037927936 := by rw [HN.out]; exact beN_lt8 _ (by rw [List.length_take]; omega)
      obtain ⟨b8, Hb8⟩ : ∃ b8 : UInt8, Hid (b8 = L[k]'(by rw [HLn.out]; exact hlt)) := ⟨_, Lib.hid rfl⟩
      rw [← Hb8.out] at hcell
      have hb8 := b8.toNat_lt
      obtain ⟨M, HM⟩ : ∃ M : Nat, Hid (M = N * 256 + b8.toNat) := ⟨_, Lib.hid rfl⟩
      have hor : bits .or .u64 ((N : Int) * 256) (b8.toNat : Int) = (M : Int) := by
        have := bits_or_u64 (N * 256) b8.toNat (by omega) (by omega)
        rw [or_high 8 N b8.toNat (by omega)] at this
        rw [HM.out]
        rw [show ((N * 256 : Nat) : Int) = (N : Int) * 256 by omega] at this
        exact this
      have Hbe : Hid (M = beN (L.take (k + 1))) := Lib.hid (by rw [HM.out, take_snoc L k (by rw [HLn.out]; exact hlt), beN_snoc, ← HN.out, ← Hb8.out])
      go_wp2
      go_round
      case rel => exact ⟨k + 1, _, by omega, by go_num, rfl, Hbe⟩
      case measure => simp [intOf]; omega
    · obtain rfl : k = z := by omega
      have hN := HN.out
      rw [List.take_of_length_le (by rw [HLn.out]; omega)] at hN
      have HN2 := Lib.hid hN
      clear hN
      go_wp2
      go_ret2
      exact ⟨by rw [← HN2.out]; rfl, rfl⟩
set_option maxHeartbeats 400000 in
theorem rgetbe_bad (v : Value) (l : List UInt8) (at_ size : Int) (w : World) (h : SB w v l) (hs : -9223372036854775808 ≤ size ∧ size ≤ 9223372036854775807) (hbad : ¬ (1 ≤ size ∧ size ≤ 8 ∧ 0 ≤ at_ ∧ at_ + size ≤ l.length)) :
    Calls Tryd.prog 27 #[v, .int .i64 at_, .int .i64 size] w fun e w' => e = .returned (.tuple #[.int .u64 0, .bool false]) ∧ w = w' := by
  obtain ⟨A, cap, rfl, h1, h2, h3, h4⟩ := h
  clear h3 h4
  unfold maxLen at h2
  by_cases c1 : size < 1
  · have d1 : decide (size < 1) = true := by simpa using c1
    go_enter Tryd.func27, Tryd.ntmps27
    go_wp2
    go_ret2
    exact ⟨rfl, rfl⟩
  · have d1 : decide (size < 1) = false := by simpa using c1
    by_cases c2 : 8 < size
    · have d2 : decide (8 < size) = true := by simpa using c2
      go_enter Tryd.func27, Tryd.ntmps27
      go_wp2
      go_ret2
      exact ⟨rfl, rfl⟩
    · have d2 : decide (8 < size) = false := by simpa using c2
      by_cases c3 : at_ < 0
      · have d3 : decide (at_ < 0) = true := by simpa using c3
        go_enter Tryd.func27, Tryd.ntmps27
        go_wp2
        go_ret2
        exact ⟨rfl, rfl⟩
      · have d3 : decide (at_ < 0) = false := by simpa using c3
        by_cases c4 : (l.length : Int) < at_
        · have d4 : decide ((l.length : Int) < at_) = true := by simpa using c4
          go_enter Tryd.func27, Tryd.ntmps27
          go_wp2
          go_ret2
          exact ⟨rfl, rfl⟩
        · have d4 : decide ((l.length : Int) < at_) = false := by simpa using c4
          have d5 : decide ((l.length : Int) - at_ < size) = true := by simp; omega
          have d6 : IntKind.i64.wrap ((l.length : Int) - at_) = (l.length : Int) - at_ := i64_in _ (by omega) (by omega)
          go_enter Tryd.func27, Tryd.ntmps27
          go_wp2
          go_ret2
          exact ⟨rfl, rfl⟩
set_option maxHeartbeats 400000 in
theorem rgetbe_any (v : Value) (l : List UInt8) (a z : Nat) (w : World) (h : SB w v l) (h1 : 1 ≤ z) (h8 : z ≤ 8) (hz : a + z ≤ l.length) :
    Calls Tryd.prog 27 #[v, .int .i64 (a : Int), .int .i64 (z : Int)] w fun e w' => e = .returned (.tuple #[.int .u64 (beN ((l.drop a).take z) : Int), .bool true]) ∧ w = w' := by
  obtain ⟨A, cap, rfl, g1, g2, g3, g4⟩ := id h
  clear g3
  unfold maxLen at g2
  have d1 : decide ((z : Int) < 1) = false := by simp; omega
  have d2 : decide (8 < (z : Int)) = false := by simp; omega
  have d3 : decide ((a : Int) < 0) = false := by simp
  have d4 : decide ((l.length : Int) < (a : Int)) = false := by simp; omega
  have d5 : decide ((l.length : Int) - (a : Int) < (z : Int)) = false := by simp; omega
  have d6 : IntKind.i64.wrap ((l.length : Int) - (a : Int)) = (l.length : Int) - (a : Int) := i64_in _ (by omega) (by omega)
  obtain ⟨b, off, rfl, hc⟩ := g4 (by intro e; subst e; simp at hz; omega)
  obtain ⟨L, HL⟩ : ∃ L, Hid (L = (l.drop a).take z) := ⟨_, Lib.hid rfl⟩
  have HLn : Hid (L.length = z) := Lib.hid (by rw [HL.out, List.length_take, List.length_drop]; omega)
  have HLk : Hid (∀ k (hk : k < z), w.cell? ⟨b, off + (a + k), none⟩ = some (.int .u8 ((L[k]'(by rw [HLn.out]; exact hk)).toNat : Int))) := Lib.hid (fun k hk => by
    have := hc (a + k) (by omega)
    rw [this]
    simp [HL.out])
  rw [← HL.out]
  clear hc
  go_enter Tryd.func27, Tryd.ntmps27
  go_wp2
  go_loop [8, 9] (fun m i => ∃ (k N : Nat), k ≤ z ∧ i = .int .i64 k ∧ m = .int .u64 (N : Int) ∧ Hid (N = beN (L.take k))) (fun _ i => z - (intOf i).toNat)
  case atStart => exact ⟨0, 0, Nat.zero_le _, rfl, rfl, Lib.hid rfl⟩
  case round =>
    obtain ⟨k, N, hk, rfl, rfl, HN⟩ := hrel
    by_cases hlt : k < z
    · have hcell := HLk.out k hlt
      have hN : N < 72057594037927936 := by rw [HN.out]; exact beN_lt8 _ (by rw [List.length_take]; omega)
      obtain ⟨b8, Hb8⟩ : ∃ b8 : UInt8, Hid (b8 = L[k]'(by rw [HLn.out]; exact hlt)) := ⟨_, Lib.hid rfl⟩
      rw [← Hb8.out] at hcell
      have hb8 := b8.toNat_lt
      have hi1 : (0 : Int) ≤ (a : Int) + (k : Int) := by omega
      have hi2 : (a : Int) + (k : Int) < (l.length : Int) := by omega
      have hi3 : ((a : Int) + (k : Int)).toNat = a + k := by omega
      have Hbe : Hid (N * 256 + b8.toNat = beN (L.take (k + 1))) := Lib.hid (by rw [take_snoc L k (by rw [HLn.out]; exact hlt), beN_snoc, ← HN.out, ← Hb8.out])
      go_wp2
      go_round
      case rel => exact ⟨k + 1, N * 256 + b8.toNat, by omega, by go_num, by go_num, Hbe⟩
      case measure => simp [intOf]; omega
    · obtain rfl : k = z := by omega
      have hN := HN.out
      rw [List.take_of_length_le (by rw [HLn.out]; omega)] at hN
      have HN2 := Lib.hid hN
      clear hN
      go_wp2
      go_ret2
      exact ⟨by rw [← HN2.out]; rfl, rfl⟩
set_option maxHeartbeats 400000 in
theorem getle_bad (v : Value) (l : List UInt8) (at_ size : Int) (w : World) (h : SB w v l) (hs : -9223372036854775808 ≤ size ∧ size ≤ 9223372036854775807) (hbad : ¬ (1 ≤ size ∧ size ≤ 8 ∧ 0 ≤ at_ ∧ at_ + size ≤ l.length)) :
    Calls Tryd.prog 28 #[v, .int .i64 at_, .int .i64 size] w fun e w' => e = .returned (.tuple #[.int .u64 0, .bool false]) ∧ w = w' := by
  obtain ⟨A, cap, rfl, h1, h2, h3, h4⟩ := h
  clear h3 h4
  unfold maxLen at h2
  by_cases c1 : size < 1
  · have d1 : decide (size < 1) = true := by simpa using c1
    go_enter Tryd.func28, Tryd.ntmps28
    go_wp2
    go_ret2
    exact ⟨rfl, rfl⟩
  · have d1 : decide (size < 1) = false := by simpa using c1
    by_cases c2 : 8 < size
    · have d2 : decide (8 < size) = true := by simpa using c2
      go_enter Tryd.func28, Tryd.ntmps28
      go_wp2
      go_ret2
      exact ⟨rfl, rfl⟩
    · have d2 : decide (8 < size) = false := by simpa using c2
      by_cases c3 : at_ < 0
      · have d3 : decide (at_ < 0) = true := by simpa using c3
        go_enter Tryd.func28, Tryd.ntmps28
        go_wp2
        go_ret2
        exact ⟨rfl, rfl⟩
      · have d3 : decide (at_ < 0) = false := by simpa using c3
        have d4 : decide ((l.length : Int) - size < at_) = true := by simp; omega
        have d5 : IntKind.i64.wrap ((l.length : Int) - size) = (l.length : Int) - size := i64_in _ (by omega) (by omega)
        go_enter Tryd.func28, Tryd.ntmps28
        go_wp2
        go_ret2
        exact ⟨rfl, rfl⟩
set_option maxHeartbeats 400000 in
theorem getle_any (v : Value) (l : List UInt8) (a z : Nat) (w : World) (h : SB w v l) (h1 : 1 ≤ z) (h8 : z ≤ 8) (hz : a + z ≤ l.length) :
    Calls Tryd.prog 28 #[v, .int .i64 (a : Int), .int .i64 (z : Int)] w fun e w' => e = .returned (.tuple #[.int .u64 (leN ((l.drop a).take z) : Int), .bool true]) ∧ w = w' := by
  obtain ⟨A, cap, rfl, g1, g2, g3, g4⟩ := id h
  clear g3
  unfold maxLen at g2
  have d1 : decide ((z : Int) < 1) = false := by simp; omega
  have d2 : decide (8 < (z : Int)) = false := by simp; omega
  have d3 : decide ((a : Int) < 0) = false := by simp
  have d4 : decide ((l.length : Int) - (z : Int) < (a : Int)) = false := by simp; omega
  have d5 : IntKind.i64.wrap ((l.length : Int) - (z : Int)) = (l.length : Int) - (z : Int) := i64_in _ (by omega) (by omega)
  have d6 : IntKind.i64.wrap ((a : Int) + (z : Int)) = (a : Int) + (z : Int) := i64_in _ (by omega) (by omega)
  obtain ⟨b, off, rfl, hc⟩ := g4 (by intro e; subst e; simp at hz; omega)
  obtain ⟨L, HL⟩ : ∃ L, Hid (L = (l.drop a).take z) := ⟨_, Lib.hid rfl⟩
  have HLn : Hid (L.length = z) := Lib.hid (by rw [HL.out, List.length_take, List.length_drop]; omega)
  have HLk : Hid (∀ k (hk : k < z), w.cell? ⟨b, off + a + k, none⟩ = some (.int .u8 ((L[k]'(by rw [HLn.out]; exact hk)).toNat : Int))) := Lib.hid (fun k hk => by
    have := hc (a + k) (by omega)
    rw [← Nat.add_assoc] at this
    rw [this]
    simp [HL.out])
  rw [← HL.out]
  clear hc
  go_enter Tryd.func28, Tryd.ntmps28
  go_wp2
  go_loop [8, 36] (fun m i => ∃ (k N : Nat), k ≤ z ∧ i = .int .i64 k ∧ m = .int .u64 (N : Int) ∧ Hid (N = leN (L.take k))) (fun _ i => z - (intOf i).toNat)
  case atStart => exact ⟨0, 0, Nat.zero_le _, rfl, rfl, Lib.hid rfl⟩
  case round =>
    obtain ⟨k, N, hk, rfl, rfl, HN⟩ := hrel
    by_cases hlt : k < z
    · have hcell := HLk.out k hlt
      have hN : N < 256 ^ k := by have := leN_lt (L.take k); rw [← HN.out, List.length_take, HLn.out, Nat.min_eq_left (by omega)] at this; exact this
      have hp : 256 ^ k ≤ 72057594037927936 := show 256 ^ k ≤ 256 ^ 7 from Nat.pow_le_pow_right (by omega) (by omega)
      obtain ⟨b8, Hb8⟩ : ∃ b8 : UInt8, Hid (b8 = L[k]'(by rw [HLn.out]; exact hlt)) := ⟨_, Lib.hid rfl⟩
      rw [← Hb8.out] at hcell
      have hb8 := b8.toNat_lt
      have hbp : b8.toNat * 256 ^ k < 18446744073709551616 := by
        have : b8.toNat * 256 ^ k ≤ 255 * 72057594037927936 := Nat.mul_le_mul (by omega) hp
        omega
      have hpw : (2 : Nat) ^ (8 * k) = 256 ^ k := by rw [Nat.pow_mul]
      obtain ⟨M, HM⟩ : ∃ M : Nat, Hid (M = N + b8.toNat * 256 ^ k) := ⟨_, Lib.hid rfl⟩
      have hwr : IntKind.u64.wrap ((b8.toNat : Int) * 2 ^ (8 * k)) = (b8.toNat : Int) * 2 ^ (8 * k) := by
        rw [← hpw] at hbp
        exact u64_in _ (Int.mul_nonneg (by omega) (Int.pow_nonneg (by omega))) (by have h0 := Int.ofNat_lt.2 hbp; rw [Int.natCast_mul, Int.natCast_pow] at h0; exact h0)
      have hor : bits .or .u64 (N : Int) (IntKind.u64.wrap ((b8.toNat : Int) * 2 ^ (8 * k))) = (M : Int) := by
        rw [hwr, HM.out]
        have := bits_or_u64 N (b8.toNat * 256 ^ k) (by omega) hbp
        rw [Nat.or_comm, ← hpw, or_high (8 * k) b8.toNat N (by omega), Nat.add_comm, Int.natCast_mul, Int.natCast_pow] at this
        rw [← hpw]
        exact this
      have Hbe : Hid (M = leN (L.take (k + 1))) := Lib.hid (by rw [HM.out, take_snoc L k (by rw [HLn.out]; exact hlt), leN_snoc, ← HN.out, ← Hb8.out, List.length_take, HLn.out, Nat.min_eq_left (by omega)])
      have HN3 := Lib.hid (And.intro hN (And.intro hp hpw))
      clear hN hp hpw hbp hwr
      go_wp2
      go_round
      case rel => exact ⟨k + 1, _, by omega, by go_num, rfl, Hbe⟩
      case measure => simp [intOf]; omega
    · obtain rfl : k = z := by omega
      have hN := HN.out
      rw [List.take_of_length_le (by rw [HLn.out]; omega)] at hN
      have HN2 := Lib.hid hN
      clear hN
      go_wp2
      go_ret2
      exact ⟨by rw [← HN2.out]; rfl, rfl⟩
end Go.Proofs.YtkhkminhlpjkgaaDoor

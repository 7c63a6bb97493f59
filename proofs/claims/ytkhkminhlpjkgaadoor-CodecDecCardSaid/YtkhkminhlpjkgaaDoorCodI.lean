/- Walks of the reference's functions for signs of six bits. -/
import Derived.Test.YtkhkminhlpjkgaaDoorCodH
import Derived.Test.YtkhkminhlpjkgaaDoorCodS3
namespace Go.Proofs.YtkhkminhlpjkgaaDoor
open Go.RowKit
theorem bitAt_out (l : List UInt8) (i : Nat) (h : l.length ≤ i / 8) : bitAt l i = 0 := if_pos h
theorem bitAt_in (l : List UInt8) (i : Nat) (h : i / 8 < l.length) : bitAt l i = l[i / 8].toNat / 2 ^ (7 - i % 8) % 2 := by
  unfold bitAt
  rw [if_neg (by omega)]
  simp [List.getD, h]
set_option maxHeartbeats 400000 in
theorem bit_any (v : Value) (l : List UInt8) (i : Nat) (w : World) (h : SB w v l) (hi : i ≤ 10000000000000) :
    Calls Tryd.prog 38 #[v, .int .i64 (i : Int)] w fun e w' => e = .returned (.int .i64 (bitAt l i : Int)) ∧ w = w' := by
  obtain ⟨A, cap, rfl, h1, h2, h3, h4⟩ := h
  unfold maxLen at h2
  by_cases hlt : i / 8 < l.length
  · have Hb := Lib.hid (bitAt_in l i hlt)
    obtain ⟨b, off, rfl, hc⟩ := h4 (by intro e; subst e; simp at hlt)
    have hcell := hc (i / 8) hlt
    have hx := l[i / 8].toNat_lt
    have hd : decide ((l.length : Int) ≤ (i : Int) / 8) = false := by simp; omega
    have hi1 : (i : Int) / 8 < (l.length : Int) := by omega
    go_enter Tryd.func38, Tryd.ntmps38
    go_wp2
    go_loop [5, 6] (fun x j => ∃ k : Nat, k ≤ 7 - i % 8 ∧ j = .int .i64 k ∧ x = .int .i64 ((l[i / 8].toNat / 2 ^ k : Nat) : Int)) (fun _ j => 7 - (intOf j).toNat)
    case atStart => exact ⟨0, by omega, rfl, by simp⟩
    case round =>
      obtain ⟨k, hk, rfl, rfl⟩ := hrel
      obtain ⟨x, Hx⟩ : ∃ x, Hid (x = l[i / 8].toNat / 2 ^ k) := ⟨_, Lib.hid rfl⟩
      have hxl : x < 256 := by have := Nat.div_le_self l[i / 8].toNat (2 ^ k); have := Hx.out; omega
      rw [← Hx.out]
      by_cases hk2 : k < 7 - i % 8
      · go_wp2
        go_round
        case rel => exact ⟨k + 1, by omega, by go_num, by rw [Nat.pow_succ, ← Nat.div_div_eq_div_mul, ← Hx.out]; go_num⟩
        case measure => simp [intOf]; omega
      · go_wp2
        go_ret
        obtain rfl : k = 7 - i % 8 := by omega
        exact ⟨by rw [Hb.out, ← Hx.out]; rfl, rfl⟩
  · have hd : decide ((l.length : Int) ≤ (i : Int) / 8) = true := by simp; omega
    go_enter Tryd.func38, Tryd.ntmps38
    go_wp2
    go_ret
    exact ⟨by rw [bitAt_out l i (by omega)]; rfl, rfl⟩
set_option maxHeartbeats 1000000 in
theorem rbase64_any (v : Value) (l : List UInt8) (w : World) (h : SB w v l) (hl : l.length ≤ 1000000000000) :
    Calls Tryd.prog 17 #[v] w fun e w' => e = .returned (.string ⟨(base64L l).toArray⟩) ∧ Below w.heap.size w w' := by
  have h' := h
  obtain ⟨A, cap, rfl, h1, h2, h3, h4⟩ := h'
  clear h3 h4
  unfold maxLen at h2
  go_enter Tryd.func17, Tryd.ntmps17
  go_wp2
  go_loopw [3, 4] (fun v i wr => ∃ j : Nat, j ≤ r64N l.length ∧ i = .int .i64 (6 * (j : Int)) ∧ wr.ownsRow w.heap.size 5 1 v j (bvs (rsigns l j)) ∧ Below w.heap.size w wr) (fun _ i _ => 8 * l.length - (intOf i).toNat)
  case atStart => exact ⟨0, Nat.zero_le _, rfl, World.ownsRow_nil _ _ _ _, Below.refl _ _⟩
  case round =>
    obtain ⟨j, hj, rfl, hown, hbw⟩ := hrel
    obtain ⟨wo, rfl⟩ : ∃ wo : World, wo = wr := ⟨_, rfl⟩
    have hsz := hbw.size
    have HrN : Hid (r64N l.length = (8 * l.length + 5) / 6) := rfl
    have hj2 : 6 * j ≤ 8 * l.length + 5 := by have := HrN.out; omega
    have hsb : SB wo (.slice A l.length cap) l := by
      exact h.below hbw
    by_cases hlt : 6 * j < 8 * l.length
    · have hdec : decide (6 * (j : Int) < 8 * (l.length : Int)) = true := by simp; omega
      go_wp2
      go_loop [5, 6] (fun n i => ∃ k : Nat, k ≤ 6 ∧ i = .int .i64 k ∧ n = .int .i64 (sixN l (6 * j) k : Int)) (fun _ i => 6 - (intOf i).toNat)
      case atStart => exact ⟨0, by omega, rfl, rfl⟩
      case round =>
        obtain ⟨k, hk, rfl, rfl⟩ := hrel
        have hs6 := sixN_lt l (6 * j) k
        have hs7 : sixN l (6 * j) k < 64 := by have := Nat.pow_le_pow_right (n := 2) (by omega) hk; omega
        by_cases hk6 : k < 6
        · have hbit := bitAt_le l (6 * j + k)
          have Hs : Hid (sixN l (6 * j) (k + 1) = 2 * sixN l (6 * j) k + bitAt l (6 * j + k)) := rfl
          go_wp2_with fail
          rw [show (6 * (j : Int) + (k : Int)) = ((6 * j + k : Nat) : Int) by omega]
          refine (bit_any _ l (6 * j + k) _ hsb (by omega)).mono ?_
          rintro e w' ⟨rfl, rfl⟩
          go_wp2
          go_round
          case rel => exact ⟨k + 1, by omega, by go_num, by rw [Hs.out]; go_num⟩
          case measure => simp [intOf]; omega
        · obtain rfl : k = 6 := by omega
          obtain ⟨q, Hq⟩ : ∃ q, Hid (q = sixN l (6 * j) 6) := ⟨_, rfl⟩
          rw [← Hq.out] at hs7 ⊢
          have hget := signD_get
          go_wp2_with (at_builtin; refine wpList_append8 rfl _ _ _ _ rfl Tryd.underlying22 u8info w.heap.size u3 j _ rfl (hown.alloc _) _ 1 1 [signD q] rfl (SB.made wo [signD q] _ _ rfl (by unfold maxLen; simp)) (by omega) (by simp; omega) ?_; intro v4 w4 hown4 hb4 hg4)
          have hb5 : Below w.heap.size w w4 := (hbw.alloc hsz _).trans hb4
          go_roundw
          case rel => exact ⟨j + 1, by have := HrN.out; omega, by go_num, by rw [rsigns_succ, ← Hq.out]; exact hown4, hb5⟩
          case measure => simp [intOf]; omega
    · have hjN : j = r64N l.length := by have := HrN.out; omega
      subst hjN
      obtain ⟨N, HN⟩ : ∃ N, Hid (N = r64N l.length) := ⟨_, rfl⟩
      rw [← HN.out] at hown hj hj2 hlt ⊢
      have hdec : decide (6 * (N : Int) < 8 * (l.length : Int)) = false := by simp; omega
      go_wp2
      go_loopw [3] (fun v w3 => ∃ p : Nat, p ≤ (4 - N % 4) % 4 ∧ w3.ownsRow w.heap.size 5 1 v (N + p) (bvs (rsigns l N ++ List.replicate p 61)) ∧ Below w.heap.size w w3) (fun v _ => N + (4 - N % 4) % 4 - lenV v)
      case atStart => exact ⟨0, by omega, by simpa using hown, hbw⟩
      case round =>
        obtain ⟨p, hp, hown3, hbw3⟩ := hrel
        obtain ⟨A3, cap3, rfl⟩ := own_form hown3
        have hsz3 := hbw3.size
        by_cases hp4 : p < (4 - N % 4) % 4
        · have hb : (((N + p : Nat) : Int) % 4 != 0) = true := by rw [bne_iff_ne]; omega
          have hb' : (((N : Int) + (p : Int)) % 4 != 0) = true := by rw [bne_iff_ne]; omega
          go_wp2_with (at_builtin; refine wpList_append8 rfl _ _ _ _ rfl Tryd.underlying22 u8info w.heap.size _ (N + p) _ rfl (hown3.alloc _) _ 1 1 [61] rfl (SB.made wr [61] _ _ rfl (by unfold maxLen; simp)) (by omega) (by simp; omega) ?_; intro v4 w4 hown4 hb4 hg4)
          have hb5 : Below w.heap.size w w4 := (hbw3.alloc hsz3 _).trans hb4
          obtain ⟨A4, cap4, rfl⟩ := own_form hown4
          go_roundw
          case rel => exact ⟨p + 1, by omega, by rw [List.replicate_succ', ← List.append_assoc]; exact hown4, hb5⟩
          case measure => simp [lenV]; omega
        · have hb : (((N + p : Nat) : Int) % 4 != 0) = false := by simp; omega
          have hb' : (((N : Int) + (p : Int)) % 4 != 0) = false := by simp; omega
          have hstr := (SB.of_own hown3).str 22 5 9 Tryd.underlying22 Tryd.underlying5 Tryd.underlying9
          go_wp2
          go_ret
          obtain rfl : p = (4 - N % 4) % 4 := by omega
          exact ⟨by rw [← r64_eq]; unfold r64; rw [← HN.out]; rfl, hbw3⟩
end Go.Proofs.YtkhkminhlpjkgaaDoor

/- The document's zeros, a head's sum (tar). -/
import Derived.Test.YtpheifdpjcppdaaGreatDoorTaAC
import Derived.Test.YtpheifdpjcppdaaGreatDoorPlaF
import Derived.Test.YtpheifdpjcppdaaGreatDoorEnBD
namespace Go.Proofs.YtpheifdpjcppdaaGreatDoor
open Go.RowKit
set_option maxRecDepth 20000 in
set_option maxHeartbeats 4000000 in
theorem tzeros_any (n : Nat) (w : World) (hn : n ≤ 100000) : Calls Tryz.prog 24 #[.int .i64 (n : Int)] w fun e w' => e = .returned (.string (bs (List.replicate n 0))) ∧ w = w' := by
  have r1 : ∀ q, bs q ++ (⟨#[0]⟩ : ByteArray) = bs (q ++ [0]) := fun q => bs_app q [0]
  have hsz := bs_size
  go_enter Tryz.func24, Tryz.ntmps24
  go_wp2_with fail
  go_loopg [3] n (fun G s3 wr => ∃ (k : Nat) (q : List UInt8), k ≤ n ∧ G = n - k ∧ s3 = .string (bs q) ∧ Hid (List.replicate k 0 = q) ∧ w = wr)
  case atStart => exact ⟨0, [], Nat.zero_le _, rfl, rfl, Lib.hid rfl, rfl⟩
  case round =>
    obtain ⟨k, q, hk, rfl, rfl, HQ, rfl⟩ := hrel
    have hq : q.length = k := by rw [← HQ.out, List.length_replicate]
    by_cases hlt : k < n
    · have t1 : decide ((k : Int) < (n : Int)) = true := decide_eq_true (by omega)
      have t1b : decide (k < n) = true := decide_eq_true (by omega)
      have HQ2 : Hid (List.replicate (k + 1) 0 = q ++ [0]) := Lib.hid (by rw [List.replicate_succ', HQ.out])
      go_wp2_with fail
      go_roundg (n - (k + 1))
      case measure => omega
      case rel => exact ⟨k + 1, q ++ [0], by omega, rfl, rfl, HQ2, rfl⟩
    · have t1 : decide ((k : Int) < (n : Int)) = false := decide_eq_false (by omega)
      have t1b : decide (k < n) = false := decide_eq_false (by omega)
      have hke : k = n := by omega
      subst hke
      go_wp2_with fail
      go_ret
      exact ⟨by rw [HQ.out]; rfl, rfl⟩
set_option maxRecDepth 20000 in
set_option maxHeartbeats 8000000 in
theorem rsum_any (l : List UInt8) (w : World) (hl : l.length = 512) :
    Calls Tryz.prog 50 #[.string (bs l)] w fun r w' => r = .returned (.int .i64 (sumT l : Int)) ∧ w = w' := by
  have HT : Hid (sumT l = 256 + goS l 0) := Lib.hid rfl
  obtain ⟨T, HTT⟩ : ∃ T, Hid (sumT l = T) := ⟨_, Lib.hid rfl⟩
  rw [HTT.out] at HT ⊢
  have zl := bs_size l
  have zl2 : (bs l).size = 512 := by omega
  clear zl
  have hle := goS_le l 0
  go_enter Tryz.func50, Tryz.ntmps50
  go_wp2_with fail
  go_loopg [3, 4] 512 (fun G s3 s4 wr => ∃ k S : Nat, k ≤ 512 ∧ S ≤ 32 * k + 255 * k ∧ G = 512 - k ∧ s3 = .int .i64 (S : Int) ∧ s4 = .int .i64 (k : Int) ∧ w = wr ∧ Hid (S = goS (l.take k) 0 + (if k ≤ 148 then 0 else if 156 ≤ k then 256 else 32 * (k - 148))))
  case atStart => exact ⟨0, 0, Nat.zero_le _, by omega, rfl, rfl, rfl, rfl, Lib.hid (by simp [goS])⟩
  case round =>
    obtain ⟨k, S, hk, hS, rfl, rfl, rfl, rfl, HS⟩ := hrel
    by_cases hlt : k < 512
    · have hkl : k < l.length := by omega
      have hst := goS_snoc l k hkl
      have hc : (bs l)[k]'(by omega) = l[k] := rfl
      have hby := byte_lt l[k]
      have hby0 := byte_nonneg l[k]
      have HST := Lib.hid hst
      clear hst
      generalize l[k] = c at hc hby hby0 HST
      have t1 : decide ((k : Int) < 512) = true := decide_eq_true (by omega)
      have t1b : (k : Int) < 512 := by omega
      have i1 : (0 : Int) ≤ (k : Int) := by omega
      have wk : IntKind.i64.wrap ((k : Int) + 1) = (k : Int) + 1 := i64_in _ (by omega) (by omega)
      have wb : IntKind.i64.wrap (c.toNat : Int) = (c.toNat : Int) := i64_in _ (by omega) (by omega)
      have ws : IntKind.i64.wrap ((S : Int) + 32) = (S : Int) + 32 := i64_in _ (by omega) (by omega)
      have wc : IntKind.i64.wrap ((S : Int) + (c.toNat : Int)) = (S : Int) + (c.toNat : Int) := i64_in _ (by omega) (by omega)
      by_cases h148 : 148 ≤ k
      · have p1 : decide ((k : Int) ≥ 148) = true := decide_eq_true (by omega)
        have p1b : (148 : Int) ≤ (k : Int) := by omega
        by_cases h156 : k < 156
        · have p2 : decide ((k : Int) < 156) = true := decide_eq_true (by omega)
          have p2b : (k : Int) < 156 := by omega
          have HS2 : Hid (S + 32 = goS (l.take (k + 1)) 0 + (if k + 1 ≤ 148 then 0 else if 156 ≤ k + 1 then 256 else 32 * (k + 1 - 148))) := Lib.hid (by
            rw [HST.out, HS.out, if_neg (by omega : ¬ (k < 148 ∨ 156 ≤ k))]
            split <;> split <;> (try split) <;> (try split) <;> omega)
          clear hc
          go_wp2_with fail
          go_roundg (512 - (k + 1))
          case measure => omega
          case rel => exact ⟨k + 1, S + 32, by omega, by omega, rfl, by simp, by simp, rfl, HS2⟩
        · have p2 : decide ((k : Int) < 156) = false := decide_eq_false (by omega)
          have p2b : ¬ (k : Int) < 156 := by omega
          have HS2 : Hid (S + c.toNat = goS (l.take (k + 1)) 0 + (if k + 1 ≤ 148 then 0 else if 156 ≤ k + 1 then 256 else 32 * (k + 1 - 148))) := Lib.hid (by
            rw [HST.out, HS.out, if_pos (by omega : (k < 148 ∨ 156 ≤ k)), if_neg (by omega : ¬ k ≤ 148), if_pos (by omega : 156 ≤ k), if_neg (by omega : ¬ k + 1 ≤ 148), if_pos (by omega : 156 ≤ k + 1)]
            omega)
          go_wp2_with fail
          go_roundg (512 - (k + 1))
          case measure => omega
          case rel => exact ⟨k + 1, S + c.toNat, by omega, by omega, rfl, by simp, by simp, rfl, HS2⟩
      · have p1 : decide ((k : Int) ≥ 148) = false := decide_eq_false (by omega)
        have p1b : ¬ (148 : Int) ≤ (k : Int) := by omega
        have HS2 : Hid (S + c.toNat = goS (l.take (k + 1)) 0 + (if k + 1 ≤ 148 then 0 else if 156 ≤ k + 1 then 256 else 32 * (k + 1 - 148))) := Lib.hid (by
          rw [HST.out, HS.out, if_pos (by omega : (k < 148 ∨ 156 ≤ k)), if_pos (by omega : k ≤ 148), if_pos (by omega : k + 1 ≤ 148)]
          omega)
        go_wp2_with fail
        go_roundg (512 - (k + 1))
        case measure => omega
        case rel => exact ⟨k + 1, S + c.toNat, by omega, by omega, rfl, by simp, by simp, rfl, HS2⟩
    · have hke : k = 512 := by omega
      subst hke
      have HV : Hid (S = T) := Lib.hid (by rw [HS.out, HT.out, List.take_of_length_le (by omega)]; simp; omega)
      go_wp2_with fail
      go_ret
      exact ⟨by rw [HV.out]; rfl, rfl⟩
end Go.Proofs.YtpheifdpjcppdaaGreatDoor

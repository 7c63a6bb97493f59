/- The walks of the document's fill and member (ar). -/
import Derived.Test.YtolknddegfcmpaaDoorArE
namespace Go.Proofs.YtolknddegfcmpaaDoor
open Go.RowKit
set_option maxRecDepth 20000 in
set_option maxHeartbeats 4000000 in
theorem rifill_any (s : List UInt8) (n : Nat) (w : World) (hs : s.length ≤ 1000000000) (hn : n ≤ 1000) : Calls Tryd.prog 66 #[.string (bs s), .int .i64 (n : Int)] w fun e w' => e = .returned (.string (bs (filB s n))) ∧ w = w' := by
  have r1 : ∀ q, bs q ++ (⟨#[32]⟩ : ByteArray) = bs (q ++ [32]) := fun q => bs_app q [32]
  have hsz := bs_size
  obtain ⟨N, HN⟩ : ∃ N, Hid (n - s.length = N) := ⟨_, Lib.hid rfl⟩
  rw [filB, HN.out]
  go_enter Tryd.func66, Tryd.ntmps66
  go_wp2_with fail
  go_loopg [0] N (fun G s0 wr => ∃ (k : Nat) (q : List UInt8), k ≤ N ∧ G = N - k ∧ s0 = .string (bs q) ∧ Hid (s ++ List.replicate k 32 = q) ∧ w = wr)
  case atStart => exact ⟨0, s, Nat.zero_le _, rfl, rfl, Lib.hid (by simp), rfl⟩
  case round =>
    obtain ⟨k, q, hk, rfl, rfl, HQ, rfl⟩ := hrel
    have hq : q.length = s.length + k := by rw [← HQ.out, List.length_append, List.length_replicate]
    obtain ⟨m, hm⟩ : ∃ m, q.length = m := ⟨_, rfl⟩
    rw [hm] at hq
    have hN := HN.out
    have hmb : m ≤ 1000001000 := by omega
    by_cases hlt : k < N
    · have t1 : decide ((m : Int) < (n : Int)) = true := decide_eq_true (by omega)
      have t1b : decide (m < n) = true := decide_eq_true (by omega)
      have HQ2 : Hid (s ++ List.replicate (k + 1) 32 = q ++ [32]) := Lib.hid (by rw [List.replicate_succ', ← List.append_assoc, HQ.out])
      clear hq hN
      go_wp2_with fail
      go_roundg (N - (k + 1))
      case measure => omega
      case rel => exact ⟨k + 1, q ++ [32], by omega, rfl, rfl, HQ2, rfl⟩
    · have t1 : decide ((m : Int) < (n : Int)) = false := decide_eq_false (by omega)
      have t1b : decide (m < n) = false := decide_eq_false (by omega)
      have hke : k = N := by omega
      subst hke
      clear hq hN
      go_wp2_with fail
      go_ret
      exact ⟨by rw [HQ.out]; rfl, rfl⟩
set_option maxRecDepth 20000 in
set_option maxHeartbeats 4000000 in
theorem rimember_any (s1 s2 s3 s4 s5 data : List UInt8) (w : World) (h1 : s1.length ≤ 10000) (h2 : s2.length ≤ 10000) (h3 : s3.length ≤ 10000) (h4 : s4.length ≤ 10000) (h5 : s5.length ≤ 10000) (hd : data.length ≤ 100000000) :
    Calls Tryd.prog 43 #[.string (bs s1), .string (bs s2), .string (bs s3), .string (bs s4), .string (bs s5), .string (bs data)] w fun e w' => e = .returned (.string (bs (memI s1 s2 s3 s4 s5 data))) ∧ Below w.heap.size w w' := by
  have HF : Hid (memI s1 s2 s3 s4 s5 data = filB s1 16 ++ filB s2 12 ++ filB s3 6 ++ filB s4 6 ++ filB s5 8 ++ filB (Lib.decDigits data.length) 10 ++ [96, 10] ++ data ++ (if data.length % 2 = 1 then [10] else [])) := Lib.hid rfl
  have fl : ∀ (s : List UInt8) (n : Nat), s.length ≤ 10000 → n ≤ 16 → (filB s n).length ≤ 20000 := fun s n a b => by rw [filB, List.length_append, List.length_replicate]; omega
  have c1 : ∀ W, Calls Tryd.prog 66 #[.string (bs s1), .int .i64 16] W fun e w' => e = .returned (.string (bs (filB s1 16))) ∧ W = w' := fun W => rifill_any s1 16 W (by omega) (by omega)
  have c2 : ∀ W, Calls Tryd.prog 66 #[.string (bs s2), .int .i64 12] W fun e w' => e = .returned (.string (bs (filB s2 12))) ∧ W = w' := fun W => rifill_any s2 12 W (by omega) (by omega)
  have c3 : ∀ W, Calls Tryd.prog 66 #[.string (bs s3), .int .i64 6] W fun e w' => e = .returned (.string (bs (filB s3 6))) ∧ W = w' := fun W => rifill_any s3 6 W (by omega) (by omega)
  have c4 : ∀ W, Calls Tryd.prog 66 #[.string (bs s4), .int .i64 6] W fun e w' => e = .returned (.string (bs (filB s4 6))) ∧ W = w' := fun W => rifill_any s4 6 W (by omega) (by omega)
  have c5 : ∀ W, Calls Tryd.prog 66 #[.string (bs s5), .int .i64 8] W fun e w' => e = .returned (.string (bs (filB s5 8))) ∧ W = w' := fun W => rifill_any s5 8 W (by omega) (by omega)
  have g1 := fl s1 16 h1 (by omega)
  have g2 := fl s2 12 h2 (by omega)
  have g3 := fl s3 6 h3 (by omega)
  have g4 := fl s4 6 h4 (by omega)
  have g5 := fl s5 8 h5 (by omega)
  obtain ⟨nd, HND⟩ : ∃ n, Hid (data.length = n) := ⟨_, Lib.hid rfl⟩
  have hns : (bs data).size = nd := by rw [bs_size]; exact HND.out
  have hdc := rdec_any data.length w (by omega)
  obtain ⟨dg, HDG⟩ : ∃ x, Hid (Lib.decDigits data.length = x) := ⟨_, Lib.hid rfl⟩
  have hdg : dg.length ≤ 10 := by rw [← HDG.out]; exact dec_ten _ (by omega)
  rw [HDG.out] at hdc HF
  have hdl2 := hd
  rw [HND.out] at hdc HF hd
  have hdc2 : Calls Tryd.prog 41 #[.int .i64 (nd : Int)] w fun e w' => e = .returned (.string (bs dg)) ∧ Below w.heap.size w w' := hdc
  have c6 : ∀ W, Calls Tryd.prog 66 #[.string (bs dg), .int .i64 10] W fun e w' => e = .returned (.string (bs (filB dg 10))) ∧ W = w' := fun W => rifill_any dg 10 W (by omega) (by omega)
  have g6 := fl dg 10 (by omega) (by omega)
  clear hdc fl
  generalize filB s1 16 = y1 at HF c1 g1
  generalize filB s2 12 = y2 at HF c2 g2
  generalize filB s3 6 = y3 at HF c3 g3
  generalize filB s4 6 = y4 at HF c4 g4
  generalize filB s5 8 = y5 at HF c5 g5
  generalize filB dg 10 = y6 at HF c6 g6
  have r1 : ∀ a b, bs a ++ bs b = bs (a ++ b) := fun a b => bs_app a b
  have r2 : ∀ q, bs q ++ (⟨#[96, 10]⟩ : ByteArray) = bs (q ++ [96, 10]) := fun q => bs_app q [96, 10]
  have r3 : ∀ q, bs q ++ (⟨#[10]⟩ : ByteArray) = bs (q ++ [10]) := fun q => bs_app q [10]
  have hsz := bs_size
  have HDL := HND
  clear HDG h1 h2 h3 h4 h5 hdg
  obtain ⟨m2, HM2⟩ : ∃ x, Hid (x = nd % 2) := ⟨_, Lib.hid rfl⟩
  have wm : (nd : Int).tmod 2 = (m2 : Int) := by rw [Int.tmod_eq_emod_of_nonneg (by omega), HM2.out]; omega
  have wmb : (nd : Int) % 2 = (m2 : Int) := by rw [HM2.out]; omega
  rw [← HM2.out] at HF
  go_enter Tryd.func43, Tryd.ntmps43
  by_cases hm : m2 = 1
  · have tm : ((m2 : Int) == 1) = true := by rw [beq_iff_eq]; omega
    have tmb : (m2 == 1) = true := by simpa using hm
    have HV := Lib.hid (HF.out.trans (by rw [if_pos hm]))
    clear hm HF
    go_wp2_with (first
      | (go_at_call 66; with_reducible refine (c1 _).mono ?_; rintro e W5 ⟨rfl, rfl⟩)
      | (go_at_call 66; with_reducible refine (c2 _).mono ?_; rintro e W5 ⟨rfl, rfl⟩)
      | (go_at_call 66; with_reducible refine (c3 _).mono ?_; rintro e W5 ⟨rfl, rfl⟩)
      | (go_at_call 66; with_reducible refine (c4 _).mono ?_; rintro e W5 ⟨rfl, rfl⟩)
      | (go_at_call 66; with_reducible refine (c5 _).mono ?_; rintro e W5 ⟨rfl, rfl⟩)
      | (go_at_call 41; refine hdc2.mono ?_; rintro e W6 ⟨rfl, hb6⟩)
      | (go_at_call 66; with_reducible refine (c6 _).mono ?_; rintro e W5 ⟨rfl, rfl⟩))
    go_ret
    exact ⟨by rw [HV.out]; first | rfl | (simp; done), hb6⟩
  · have tm : ((m2 : Int) == 1) = false := by
      have : ¬ (m2 : Int) = 1 := by omega
      simpa using this
    have tmb : (m2 == 1) = false := by simpa using hm
    have HV := Lib.hid (HF.out.trans (by rw [if_neg hm, List.append_nil]))
    clear hm HF
    go_wp2_with (first
      | (go_at_call 66; with_reducible refine (c1 _).mono ?_; rintro e W5 ⟨rfl, rfl⟩)
      | (go_at_call 66; with_reducible refine (c2 _).mono ?_; rintro e W5 ⟨rfl, rfl⟩)
      | (go_at_call 66; with_reducible refine (c3 _).mono ?_; rintro e W5 ⟨rfl, rfl⟩)
      | (go_at_call 66; with_reducible refine (c4 _).mono ?_; rintro e W5 ⟨rfl, rfl⟩)
      | (go_at_call 66; with_reducible refine (c5 _).mono ?_; rintro e W5 ⟨rfl, rfl⟩)
      | (go_at_call 41; refine hdc2.mono ?_; rintro e W6 ⟨rfl, hb6⟩)
      | (go_at_call 66; with_reducible refine (c6 _).mono ?_; rintro e W5 ⟨rfl, rfl⟩))
    go_ret
    exact ⟨by rw [HV.out]; first | rfl | (simp; done), hb6⟩
end Go.Proofs.YtolknddegfcmpaaDoor

/- Walks of para.nameRight and of the document's Name: which texts are names of fields. -/
import Derived.Test.YthcgomainhaemaaDoorPaA
namespace Go.Proofs.YthcgomainhaemaaDoor
open Go.RowKit
def rN (s : List UInt8) (k : Nat) : Bool := if k = 0 then (match s with
  | [] => true
  | c :: t => isLet c && t.all nmC) else (s.drop k).all nmC
theorem rN_step (s : List UInt8) (k : Nat) (h : k < s.length) : rN s k = ((isLet s[k] || (decide (k ≠ 0) && (decide (s[k] = 45) || isDig s[k]))) && rN s (k + 1)) := by
  have e1 : rN s (k + 1) = (s.drop (k + 1)).all nmC := by rw [rN.eq_def, if_neg (by omega)]
  rw [e1, rN.eq_def]
  by_cases h0 : k = 0
  · subst h0
    rw [if_pos rfl]
    cases s with
    | nil => simp at h
    | cons c t => simp
  · rw [if_neg h0, List.drop_eq_getElem_cons h, List.all_cons, nmC]
    simp [h0, Bool.or_assoc]
theorem rN_end (s : List UInt8) (k : Nat) (h : s.length ≤ k) : rN s k = true := by
  rw [rN.eq_def]
  split
  · have : s = [] := List.eq_nil_of_length_eq_zero (by omega)
    subst this; rfl
  · rw [List.drop_eq_nil_of_le h]; rfl
theorem nmOk_is (s : List UInt8) : nmOk s = (!decide (s.length < 1) && (!decide (32 < s.length) && rN s 0)) := by
  cases s with
  | nil => rfl
  | cons c t =>
    show (decide ((c :: t).length ≤ 32) && isLet c && t.all nmC) = (_ && (_ && (isLet c && t.all nmC)))
    rw [Bool.eq_iff_iff]
    simp
    grind
set_option maxRecDepth 20000 in
set_option maxHeartbeats 8000000 in
theorem pname_any (s : List UInt8) (w : World) (hs : s.length ≤ 1000000000) : Calls Tryd.prog 23 #[.string (bs s)] w fun e w' => e = .returned (.bool (nmOk s)) ∧ w = w' := by
  have HV := Lib.hid (nmOk_is s)
  by_cases h1 : s.length < 1
  · have d1 : decide (((bs s).size : Int) < 1) = true := by rw [bs_size]; simp; omega
    have HR : Hid (nmOk s = false) := Lib.hid (by rw [HV.out, decide_eq_true h1]; rfl)
    clear h1
    go_enter Tryd.func23, Tryd.ntmps23
    go_wp2_with fail
    go_ret
    exact ⟨by rw [HR.out]; rfl, rfl⟩
  · have d1 : decide (((bs s).size : Int) < 1) = false := by rw [bs_size]; simp; omega
    by_cases h2 : 32 < s.length
    · have d2 : decide ((32 : Int) < ((bs s).size : Int)) = true := by rw [bs_size]; simp; omega
      have HR : Hid (nmOk s = false) := Lib.hid (by rw [HV.out, decide_eq_true h2]; simp)
      clear h1 h2
      go_enter Tryd.func23, Tryd.ntmps23
      go_wp2_with fail
      go_ret
      exact ⟨by rw [HR.out]; rfl, rfl⟩
    · have d2 : decide ((32 : Int) < ((bs s).size : Int)) = false := by rw [bs_size]; simp; omega
      have HR : Hid (nmOk s = rN s 0) := Lib.hid (by rw [HV.out, decide_eq_false h1, decide_eq_false h2]; rfl)
      clear h1 h2 HV
      go_enter Tryd.func23, Tryd.ntmps23
      go_wp2_with fail
      clear d1 d2
      have hz : ((bs s).size : Int) = (s.length : Int) := by rw [bs_size]
      go_loopg [16] s.length (fun g s0 wr => ∃ k : Nat, k ≤ s.length ∧ g = s.length - k ∧ s0 = .int .i64 k ∧ w = wr ∧ Hid (nmOk s = rN s k))
      case atStart => exact ⟨0, Nat.zero_le _, rfl, rfl, rfl, HR⟩
      case round =>
        clear HR
        obtain ⟨k, hk, rfl, rfl, rfl, HE⟩ := hrel
        by_cases hlt : k < s.length
        · have hks : (k : Int) < ((bs s).size : Int) := by omega
          have hks2 : k < (bs s).size := by rw [bs_size]; exact hlt
          obtain ⟨b, hb⟩ : ∃ b, b = s[k]'hlt := ⟨_, rfl⟩
          have HST : Hid (nmOk s = ((isLet b || (decide (k ≠ 0) && (decide (b = 45) || isDig b))) && rN s (k + 1))) := Lib.hid (by rw [HE.out, rN_step s k hlt, hb])
          have hbb : (bs s)[k]'hks2 = b := hb.symm
          clear hb HE
          go_upto_region 7 with fail
          clear hbb
          go_cut [5] (fun s5 wx => s5 = .bool (isLet b) ∧ w = wx)
          case first =>
            have HG : Hid (isLet b = ((decide ((97 : Int) ≤ b.toNat) && decide ((b.toNat : Int) ≤ 122)) || (decide ((65 : Int) ≤ b.toNat) && decide ((b.toNat : Int) ≤ 90)))) := Lib.hid (by
              rw [isLet, isSmall, isBig, Bool.eq_iff_iff]; simp; omega)
            cases h1 : decide ((97 : Int) ≤ b.toNat) <;> cases h2 : decide ((b.toNat : Int) ≤ 122) <;> cases h3 : decide ((65 : Int) ≤ b.toNat) <;> cases h4 : decide ((b.toNat : Int) ≤ 90)
            all_goals
              rw [h1, h2, h3, h4] at HG
              go_wp2_with fail
              go_meet
              exact ⟨by rw [HG.out]; rfl, rfl⟩
          case rest =>
            obtain ⟨rfl, rfl⟩ := hcut
            cases hl : isLet b with
            | true =>
              have HX : Hid (nmOk s = rN s (k + 1)) := Lib.hid (by rw [HST.out, hl]; rfl)
              go_wp2_with fail
              go_roundg (s.length - (k + 1))
              case measure => omega
              case rel => exact ⟨k + 1, by omega, rfl, by go_num, rfl, HX⟩
            | false =>
              by_cases h0 : k = 0
              · have h0b : ((k : Int) == 0) = true := by simpa using h0
                have HX : Hid (nmOk s = false) := Lib.hid (by rw [HST.out, hl]; simp [h0])
                clear h0
                go_wp2_with fail
                go_ret
                exact ⟨by rw [HX.out]; rfl, rfl⟩
              · have h0b : ((k : Int) == 0) = false := by simpa using h0
                have HN : Hid (nmOk s = ((decide (b = 45) || isDig b) && rN s (k + 1))) := Lib.hid (by rw [HST.out, hl]; simp [h0])
                clear h0 HST
                by_cases e1 : b = 45
                · have HX : Hid (nmOk s = rN s (k + 1)) := Lib.hid (by rw [HN.out, e1]; rfl)
                  clear HN
                  subst e1
                  go_wp2_with fail
                  go_roundg (s.length - (k + 1))
                  case measure => omega
                  case rel => exact ⟨k + 1, by omega, rfl, by go_num, rfl, HX⟩
                · have q1 : ((b.toNat : Int) != 45) = true := by rw [bne, show (45 : Int) = ((45 : UInt8).toNat : Int) from rfl, beq_byte]; simpa using e1
                  by_cases hd : isDig b = true
                  · have HX : Hid (nmOk s = rN s (k + 1)) := Lib.hid (by rw [HN.out, hd]; simp)
                    have k1 : decide ((b.toNat : Int) < 48) = false := by simp only [isDig, Bool.and_eq_true, decide_eq_true_eq] at hd; simp; omega
                    have k2 : decide ((57 : Int) < (b.toNat : Int)) = false := by simp only [isDig, Bool.and_eq_true, decide_eq_true_eq] at hd; simp; omega
                    clear hd HN e1
                    go_wp2_with fail
                    go_roundg (s.length - (k + 1))
                    case measure => omega
                    case rel => exact ⟨k + 1, by omega, rfl, by go_num, rfl, HX⟩
                  · have hdf : isDig b = false := by simpa using hd
                    have HX : Hid (nmOk s = false) := Lib.hid (by rw [HN.out, hdf]; simp [e1])
                    by_cases k1 : (b.toNat : Int) < 48
                    · have k1' : decide ((b.toNat : Int) < 48) = true := by simpa using k1
                      clear hd hdf HN e1 k1
                      go_wp2_with fail
                      go_ret
                      exact ⟨by rw [HX.out]; rfl, rfl⟩
                    · have k1' : decide ((b.toNat : Int) < 48) = false := by simpa using k1
                      have k2' : decide ((57 : Int) < (b.toNat : Int)) = true := by
                        simp only [isDig, Bool.and_eq_false_iff, decide_eq_false_iff_not] at hdf
                        simp; omega
                      clear hd hdf HN e1 k1
                      go_wp2_with fail
                      go_ret
                      exact ⟨by rw [HX.out]; rfl, rfl⟩
        · obtain rfl : k = s.length := by omega
          have HX : Hid (nmOk s = true) := Lib.hid (by rw [HE.out, rN_end s _ (Nat.le_refl _)])
          go_wp2_with fail
          go_ret
          exact ⟨by rw [HX.out]; rfl, rfl⟩
set_option maxRecDepth 20000 in
set_option maxHeartbeats 8000000 in
theorem qname_any (s : List UInt8) (w : World) (hs : s.length ≤ 1000000000) : Calls Tryd.prog 25 #[.string (bs s)] w fun e w' => e = .returned (.bool (nmOk s)) ∧ w = w' := by
  have HV := Lib.hid (nmOk_is s)
  by_cases h1 : s.length < 1
  · have d1 : decide (((bs s).size : Int) < 1) = true := by rw [bs_size]; simp; omega
    have HR : Hid (nmOk s = false) := Lib.hid (by rw [HV.out, decide_eq_true h1]; rfl)
    clear h1
    go_enter Tryd.func25, Tryd.ntmps25
    go_wp2_with fail
    go_ret
    exact ⟨by rw [HR.out]; rfl, rfl⟩
  · have d1 : decide (((bs s).size : Int) < 1) = false := by rw [bs_size]; simp; omega
    by_cases h2 : 32 < s.length
    · have d2 : decide ((32 : Int) < ((bs s).size : Int)) = true := by rw [bs_size]; simp; omega
      have HR : Hid (nmOk s = false) := Lib.hid (by rw [HV.out, decide_eq_true h2]; simp)
      clear h1 h2
      go_enter Tryd.func25, Tryd.ntmps25
      go_wp2_with fail
      go_ret
      exact ⟨by rw [HR.out]; rfl, rfl⟩
    · have d2 : decide ((32 : Int) < ((bs s).size : Int)) = false := by rw [bs_size]; simp; omega
      have HR : Hid (nmOk s = rN s 0) := Lib.hid (by rw [HV.out, decide_eq_false h1, decide_eq_false h2]; rfl)
      clear h1 h2 HV
      go_enter Tryd.func25, Tryd.ntmps25
      go_wp2_with fail
      clear d1 d2
      have hz : ((bs s).size : Int) = (s.length : Int) := by rw [bs_size]
      go_loopg [3] s.length (fun g s0 wr => ∃ k : Nat, k ≤ s.length ∧ g = s.length - k ∧ s0 = .int .i64 k ∧ w = wr ∧ Hid (nmOk s = rN s k))
      case atStart => exact ⟨0, Nat.zero_le _, rfl, rfl, rfl, HR⟩
      case round =>
        clear HR
        obtain ⟨k, hk, rfl, rfl, rfl, HE⟩ := hrel
        by_cases hlt : k < s.length
        · have hks : (k : Int) < ((bs s).size : Int) := by omega
          have hks2 : k < (bs s).size := by rw [bs_size]; exact hlt
          obtain ⟨b, hb⟩ : ∃ b, b = s[k]'hlt := ⟨_, rfl⟩
          have HST : Hid (nmOk s = ((isLet b || (decide (k ≠ 0) && (decide (b = 45) || isDig b))) && rN s (k + 1))) := Lib.hid (by rw [HE.out, rN_step s k hlt, hb])
          have hbb : (bs s)[k]'hks2 = b := hb.symm
          clear hb HE
          go_upto_region 7 with fail
          clear hbb
          go_cut [5] (fun s5 wx => s5 = .bool (isLet b) ∧ w = wx)
          case first =>
            have HG : Hid (isLet b = ((decide ((97 : Int) ≤ b.toNat) && decide ((b.toNat : Int) ≤ 122)) || (decide ((65 : Int) ≤ b.toNat) && decide ((b.toNat : Int) ≤ 90)))) := Lib.hid (by
              rw [isLet, isSmall, isBig, Bool.eq_iff_iff]; simp; omega)
            cases h1 : decide ((97 : Int) ≤ b.toNat) <;> cases h2 : decide ((b.toNat : Int) ≤ 122) <;> cases h3 : decide ((65 : Int) ≤ b.toNat) <;> cases h4 : decide ((b.toNat : Int) ≤ 90)
            all_goals
              rw [h1, h2, h3, h4] at HG
              go_wp2_with fail
              go_meet
              exact ⟨by rw [HG.out]; rfl, rfl⟩
          case rest =>
            obtain ⟨rfl, rfl⟩ := hcut
            cases hl : isLet b with
            | true =>
              have HX : Hid (nmOk s = rN s (k + 1)) := Lib.hid (by rw [HST.out, hl]; rfl)
              go_wp2_with fail
              go_roundg (s.length - (k + 1))
              case measure => omega
              case rel => exact ⟨k + 1, by omega, rfl, by go_num, rfl, HX⟩
            | false =>
              by_cases h0 : k = 0
              · have h0b : ((k : Int) == 0) = true := by simpa using h0
                have HX : Hid (nmOk s = false) := Lib.hid (by rw [HST.out, hl]; simp [h0])
                clear h0
                go_wp2_with fail
                go_ret
                exact ⟨by rw [HX.out]; rfl, rfl⟩
              · have h0b : ((k : Int) == 0) = false := by simpa using h0
                have HN : Hid (nmOk s = ((decide (b = 45) || isDig b) && rN s (k + 1))) := Lib.hid (by rw [HST.out, hl]; simp [h0])
                clear h0 HST
                by_cases e1 : b = 45
                · have HX : Hid (nmOk s = rN s (k + 1)) := Lib.hid (by rw [HN.out, e1]; rfl)
                  clear HN
                  subst e1
                  go_wp2_with fail
                  go_roundg (s.length - (k + 1))
                  case measure => omega
                  case rel => exact ⟨k + 1, by omega, rfl, by go_num, rfl, HX⟩
                · have q1 : ((b.toNat : Int) != 45) = true := by rw [bne, show (45 : Int) = ((45 : UInt8).toNat : Int) from rfl, beq_byte]; simpa using e1
                  by_cases hd : isDig b = true
                  · have HX : Hid (nmOk s = rN s (k + 1)) := Lib.hid (by rw [HN.out, hd]; simp)
                    have k1 : decide ((b.toNat : Int) < 48) = false := by simp only [isDig, Bool.and_eq_true, decide_eq_true_eq] at hd; simp; omega
                    have k2 : decide ((57 : Int) < (b.toNat : Int)) = false := by simp only [isDig, Bool.and_eq_true, decide_eq_true_eq] at hd; simp; omega
                    clear hd HN e1
                    go_wp2_with fail
                    go_roundg (s.length - (k + 1))
                    case measure => omega
                    case rel => exact ⟨k + 1, by omega, rfl, by go_num, rfl, HX⟩
                  · have hdf : isDig b = false := by simpa using hd
                    have HX : Hid (nmOk s = false) := Lib.hid (by rw [HN.out, hdf]; simp [e1])
                    by_cases k1 : (b.toNat : Int) < 48
                    · have k1' : decide ((b.toNat : Int) < 48) = true := by simpa using k1
                      clear hd hdf HN e1 k1
                      go_wp2_with fail
                      go_ret
                      exact ⟨by rw [HX.out]; rfl, rfl⟩
                    · have k1' : decide ((b.toNat : Int) < 48) = false := by simpa using k1
                      have k2' : decide ((57 : Int) < (b.toNat : Int)) = true := by
                        simp only [isDig, Bool.and_eq_false_iff, decide_eq_false_iff_not] at hdf
                        simp; omega
                      clear hd hdf HN e1 k1
                      go_wp2_with fail
                      go_ret
                      exact ⟨by rw [HX.out]; rfl, rfl⟩
        · obtain rfl : k = s.length := by omega
          have HX : Hid (nmOk s = true) := Lib.hid (by rw [HE.out, rN_end s _ (Nat.le_refl _)])
          go_wp2_with fail
          go_ret
          exact ⟨by rw [HX.out]; rfl, rfl⟩
end Go.Proofs.YthcgomainhaemaaDoor

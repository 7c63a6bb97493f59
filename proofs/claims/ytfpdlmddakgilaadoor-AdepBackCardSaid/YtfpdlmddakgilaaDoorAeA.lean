/- The document's answer for adep (drayageref16): the walk of Name. -/
import Derived.Test.YtfpdlmddakgilaaDoorAdA
import Derived.Lib.IndexAny
namespace Go.Proofs.YtfpdlmddakgilaaDoor
open Go.RowKit
def nmF (c : UInt8) : Bool := isLet c || (isDig c || (decide (c = 46) || (decide (c = 95) || decide (c = 47))))
def nmG (c : UInt8) : Bool := decide (c = 43) || (decide (c = 45) || (decide (c = 58) || decide (c = 64)))
theorem inB_memA (o : List UInt8) (c : UInt8) : inB o c = o.contains c := (Lib.contains_iff_indexByte o c).symm
theorem nmM_is (c : UInt8) : nmM c = (nmF c || nmG c) := by
  rw [nmM, inB_memA, nmF, nmG, oA, Bool.eq_iff_iff]
  simp
  grind
theorem nmF_is (c : UInt8) : nmF c = (!inB noA c && nmM c) := by
  rw [nmM_is, inB_memA, noA, nmF, nmG, Bool.eq_iff_iff]
  have hx : c = 45 ∨ c = 43 ∨ c = 58 ∨ c = 64 → isLet c = false ∧ isDig c = false := by
    rintro (rfl | rfl | rfl | rfl) <;> exact ⟨by decide, by decide⟩
  simp
  grind
/-- Are the bytes from the k-th on as they should be? -/
def rF (s : List UInt8) (k : Nat) : Bool := if k = 0 then (match s with
  | [] => true
  | c :: t => nmF c && t.all nmM) else (s.drop k).all nmM
theorem rF_step (s : List UInt8) (k : Nat) (h : k < s.length) : rF s k = ((nmF s[k] || (decide (k ≠ 0) && nmG s[k])) && rF s (k + 1)) := by
  have e1 : rF s (k + 1) = (s.drop (k + 1)).all nmM := by rw [rF.eq_def, if_neg (by omega)]
  rw [e1, rF.eq_def]
  by_cases h0 : k = 0
  · subst h0
    rw [if_pos rfl]
    cases s with
    | nil => simp at h
    | cons c t => simp
  · rw [if_neg h0, List.drop_eq_getElem_cons h, List.all_cons, nmM_is]
    simp [h0]
theorem rF_end (s : List UInt8) (k : Nat) (h : s.length ≤ k) : rF s k = true := by
  rw [rF.eq_def]
  split
  · have : s = [] := List.eq_nil_of_length_eq_zero (by omega)
    subst this; rfl
  · rw [List.drop_eq_nil_of_le h]; rfl
theorem anmB_is (s : List UInt8) : anmB s = (rF s 0 && (decide (1 ≤ s.length) && decide (s.length ≤ 64))) := by
  cases s with
  | nil => rfl
  | cons c t =>
    show (!decide (64 < (c :: t).length) && (!inB noA c && (nmM c && t.all nmM))) = ((nmF c && t.all nmM) && _)
    rw [nmF_is, Bool.eq_iff_iff]
    simp
    grind
set_option maxRecDepth 20000 in
set_option maxHeartbeats 8000000 in
theorem rname_any (s : List UInt8) (w : World) (hs : s.length ≤ 1000000000) : Calls Tryd.prog 14 #[.string (bs s)] w fun e w' => e = .returned (.bool (anmB s)) ∧ w = w' := by
  have HV := Lib.hid (anmB_is s)
  have hz : ((bs s).size : Int) = (s.length : Int) := by rw [bs_size]
  go_enter Tryd.func14, Tryd.ntmps14
  go_wp2_with fail
  go_loopg [3] s.length (fun g s3 wr => ∃ k : Nat, k ≤ s.length ∧ g = s.length - k ∧ s3 = .int .i64 k ∧ w = wr ∧ Hid (rF s 0 = rF s k))
  case atStart => exact ⟨0, Nat.zero_le _, rfl, rfl, rfl, Lib.hid rfl⟩
  case round =>
    obtain ⟨k, hk, rfl, rfl, rfl, HE⟩ := hrel
    by_cases hlt : k < s.length
    · have hks : (k : Int) < ((bs s).size : Int) := by omega
      have hks2 : k < (bs s).size := by rw [bs_size]; exact hlt
      obtain ⟨b, hb⟩ : ∃ b, b = s[k]'hlt := ⟨_, rfl⟩
      have HST : Hid (rF s 0 = ((nmF b || (decide (k ≠ 0) && nmG b)) && rF s (k + 1))) := Lib.hid (by rw [HE.out, rF_step s k hlt, hb])
      have hbb : (bs s)[k]'hks2 = b := hb.symm
      clear hb HE
      go_upto_region 5 with fail
      clear hbb
      go_cut [5] (fun s5 wx => s5 = .bool (nmF b) ∧ w = wx)
      case first =>
        by_cases e1 : b = 46
        · subst e1
          go_wp2_with fail
          go_meet
          exact ⟨rfl, rfl⟩
        by_cases e2 : b = 95
        · subst e2
          go_wp2_with fail
          go_meet
          exact ⟨rfl, rfl⟩
        by_cases e3 : b = 47
        · subst e3
          go_wp2_with fail
          go_meet
          exact ⟨rfl, rfl⟩
        have q1 : ((b.toNat : Int) == 46) = false := by rw [show (46 : Int) = ((46 : UInt8).toNat : Int) from rfl, beq_byte]; simpa using e1
        have q2 : ((b.toNat : Int) == 95) = false := by rw [show (95 : Int) = ((95 : UInt8).toNat : Int) from rfl, beq_byte]; simpa using e2
        have q3 : ((b.toNat : Int) == 47) = false := by rw [show (47 : Int) = ((47 : UInt8).toNat : Int) from rfl, beq_byte]; simpa using e3
        have HF : Hid (nmF b = (isLet b || isDig b)) := Lib.hid (by rw [nmF]; simp [e1, e2, e3])
        clear e1 e2 e3
        have HG : Hid (isLet b = ((decide ((97 : Int) ≤ b.toNat) && decide ((b.toNat : Int) ≤ 122)) || (decide ((65 : Int) ≤ b.toNat) && decide ((b.toNat : Int) ≤ 90)))) := Lib.hid (by
          rw [isLet, isSmall, isBig, Bool.eq_iff_iff]; simp; omega)
        have HD : Hid (isDig b = (decide ((48 : Int) ≤ b.toNat) && decide ((b.toNat : Int) ≤ 57))) := Lib.hid (by
          rw [isDig, Bool.eq_iff_iff]; simp; omega)
        cases h1 : decide ((97 : Int) ≤ b.toNat) <;> cases h2 : decide ((b.toNat : Int) ≤ 122) <;> cases h3 : decide ((65 : Int) ≤ b.toNat) <;> cases h4 : decide ((b.toNat : Int) ≤ 90) <;> cases h5 : decide ((48 : Int) ≤ b.toNat) <;> cases h6 : decide ((b.toNat : Int) ≤ 57)
        all_goals first
          | (exfalso; simp at h1 h2 h3 h4 h5 h6; omega)
          | (rw [h1, h2, h3, h4] at HG
             rw [h5, h6] at HD
             go_wp2_with fail
             go_meet
             exact ⟨by rw [HF.out, HG.out, HD.out]; rfl, rfl⟩)
      case rest =>
        obtain ⟨rfl, rfl⟩ := hcut
        cases hf : nmF b with
        | true =>
          go_wp2_with fail
          go_roundg (s.length - (k + 1))
          case measure => omega
          case rel => exact ⟨k + 1, by omega, rfl, by go_num, rfl, Lib.hid (by rw [HST.out, hf]; rfl)⟩
        | false =>
          by_cases h0 : k = 0
          · have h0b : ((k : Int) == 0) = true := by simpa using h0
            have HX : Hid (anmB s = false) := Lib.hid (by rw [HV.out, HST.out, hf]; simp [h0])
            clear h0
            go_wp2_with fail
            go_ret
            exact ⟨by rw [HX.out]; rfl, rfl⟩
          · have h0b : ((k : Int) == 0) = false := by simpa using h0
            have H0 : Hid (decide (k ≠ 0) = true) := Lib.hid (by simpa using h0)
            clear h0
            have HR : Hid (rF s 0 = (nmG b && rF s (k + 1))) := Lib.hid (by rw [HST.out, hf, H0.out]; rfl)
            have HN : Hid (nmG b = (decide (b = 43) || (decide (b = 45) || (decide (b = 58) || decide (b = 64))))) := Lib.hid rfl
            clear HST hf
            have next : ∀ x : UInt8, b = x → nmG x = true → Hid (rF s 0 = rF s (k + 1)) := fun x e h => Lib.hid (by rw [HR.out, e, h]; rfl)
            by_cases e1 : b = 43
            · have HX := next _ e1 rfl
              clear next HR HN
              subst e1
              go_wp2_with fail
              go_roundg (s.length - (k + 1))
              case measure => omega
              case rel => exact ⟨k + 1, by omega, rfl, by go_num, rfl, HX⟩
            by_cases e2 : b = 45
            · have HX := next _ e2 rfl
              clear next HR HN e1
              subst e2
              go_wp2_with fail
              go_roundg (s.length - (k + 1))
              case measure => omega
              case rel => exact ⟨k + 1, by omega, rfl, by go_num, rfl, HX⟩
            by_cases e3 : b = 58
            · have HX := next _ e3 rfl
              clear next HR HN e1 e2
              subst e3
              go_wp2_with fail
              go_roundg (s.length - (k + 1))
              case measure => omega
              case rel => exact ⟨k + 1, by omega, rfl, by go_num, rfl, HX⟩
            by_cases e4 : b = 64
            · have HX := next _ e4 rfl
              clear next HR HN e1 e2 e3
              subst e4
              go_wp2_with fail
              go_roundg (s.length - (k + 1))
              case measure => omega
              case rel => exact ⟨k + 1, by omega, rfl, by go_num, rfl, HX⟩
            have HX : Hid (rF s 0 = false) := Lib.hid (by rw [HR.out, HN.out]; simp [e1, e2, e3, e4])
            have q1 : ((b.toNat : Int) == 43) = false := by rw [show (43 : Int) = ((43 : UInt8).toNat : Int) from rfl, beq_byte]; simpa using e1
            have q2 : ((b.toNat : Int) == 45) = false := by rw [show (45 : Int) = ((45 : UInt8).toNat : Int) from rfl, beq_byte]; simpa using e2
            have q3 : ((b.toNat : Int) == 58) = false := by rw [show (58 : Int) = ((58 : UInt8).toNat : Int) from rfl, beq_byte]; simpa using e3
            have q4 : ((b.toNat : Int) == 64) = false := by rw [show (64 : Int) = ((64 : UInt8).toNat : Int) from rfl, beq_byte]; simpa using e4
            have p1 : ((b.toNat : Int) != 43) = true := by rw [bne, q1]; rfl
            have p2 : ((b.toNat : Int) != 45) = true := by rw [bne, q2]; rfl
            have p3 : ((b.toNat : Int) != 58) = true := by rw [bne, q3]; rfl
            have p4 : ((b.toNat : Int) != 64) = true := by rw [bne, q4]; rfl
            clear next HR HN e1 e2 e3 e4 q1 q2 q3 q4
            go_wp2_with fail
            go_ret
            exact ⟨by rw [HV.out, HX.out]; rfl, rfl⟩
    · obtain rfl : k = s.length := by omega
      have HX : Hid (rF s 0 = true) := Lib.hid (by rw [HE.out, rF_end s _ (Nat.le_refl _)])
      have HY : Hid (anmB s = (decide (1 ≤ s.length) && decide (s.length ≤ 64))) := Lib.hid (by rw [HV.out, HX.out]; rfl)
      by_cases h1 : 1 ≤ s.length
      · by_cases h2 : s.length ≤ 64
        · have HZ : Hid (anmB s = true) := Lib.hid (by rw [HY.out]; simp [h2]; exact h1)
          have d1 : decide ((1 : Int) ≤ ((bs s).size : Int)) = true := by simp; omega
          have d2 : decide (((bs s).size : Int) ≤ 64) = true := by simp; omega
          clear hz h1 h2
          go_wp2_with fail
          go_ret
          exact ⟨by rw [HZ.out]; rfl, rfl⟩
        · have HZ : Hid (anmB s = false) := Lib.hid (by rw [HY.out]; simp [h2])
          have d1 : decide ((1 : Int) ≤ ((bs s).size : Int)) = true := by simp; omega
          have d2 : decide (((bs s).size : Int) ≤ 64) = false := by simp; omega
          clear hz h1 h2
          go_wp2_with fail
          go_ret
          exact ⟨by rw [HZ.out]; rfl, rfl⟩
      · have HZ : Hid (anmB s = false) := Lib.hid (by rw [HY.out]; simp [h1])
        have d1 : decide ((1 : Int) ≤ ((bs s).size : Int)) = false := by simp; omega
        clear hz h1
        go_wp2_with fail
        go_ret
        exact ⟨by rw [HZ.out]; rfl, rfl⟩
end Go.Proofs.YtfpdlmddakgilaaDoor

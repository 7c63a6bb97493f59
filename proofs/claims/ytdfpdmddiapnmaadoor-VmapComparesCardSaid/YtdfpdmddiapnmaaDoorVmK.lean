/- Walks of the reference's Check and Print of cores. -/
import Derived.Test.YtdfpdmddiapnmaaDoorVmJ
import Derived.Test.YtdfpdmddiapnmaaDoorVmU
namespace Go.Proofs.YtdfpdmddiapnmaaDoor
open Go.RowKit
theorem numsT_ge (l : List Int) (h : l.all numOk = true) : l.length ≤ (numsT l).length := by
  induction l with
  | nil => simp
  | cons a l ih =>
    simp only [List.all_cons, Bool.and_eq_true] at h
    have h1 := List.length_pos_iff.2 (dec_num a h.1).ne
    have h2 := ih h.2
    cases l with
    | nil => rw [numsT_one]; simp only [List.length_cons, List.length_nil]; omega
    | cons b l =>
      rw [numsT_cons]
      simp only [List.length_append, List.length_cons] at h2 ⊢
      omega
theorem coOk_64 (c : Co) (h : coOk c = true) : c.nums.length ≤ 64 := by
  have h1 := coOk_eq c
  rw [h] at h1
  simp only [nBs, List.cons_append, List.nil_append, List.all_cons] at h1
  have h2 := h1.symm
  simp only [Bool.and_eq_true, decide_eq_true_eq] at h2
  have h3 := numsT_ge c.nums h2.2.1.2.2.2
  have h4 := h2.2.2.2.2
  unfold textC propT at h4
  simp only [List.length_append] at h4
  omega
set_option maxRecDepth 100000 in
set_option maxHeartbeats 16000000 in
theorem rvcheck_any (c : Co) (nv : Value) (X : Nat → Prop) (w : World) (hsl0 : Sl 1 Rint X w nv c.nums) (hZ : CoZ c) :
    Calls Tryd.prog 25 #[coV c nv] w fun e w' => e = .returned (.int .i64 (chkC c)) ∧ Below w.heap.size w w' := by
  have hsl := hsl0.any good_int (by omega)
  obtain ⟨A, cap, rfl, hc1, hc2⟩ := hsl.form
  unfold maxLen at hc2
  clear hsl0
  have HC : Hid (chkC c = if coOk c = true then 0 else 11) := Lib.hid rfl
  have HB : Hid (∀ h : coOk c = false, chkC c = 11) := Lib.hid (fun h => by rw [HC.out, h]; rfl)
  have HO := Lib.hid (coOk_eq c)
  have HNB : Hid (nBs c = (numOk c.epoch && (numOk c.preNum && (numOk c.rev && c.nums.all numOk)))) := Lib.hid (by simp [nBs])
  have HZ := Lib.hid hZ
  obtain ⟨z1, z2, z3⟩ := hZ
  obtain ⟨t0, hb0, hz0⟩ := chk0_cb w c (.slice A c.nums.length cap)
  have hlt0 : w.heap.size < (chk0 w c (.slice A c.nums.length cap)).heap.size := by omega
  clear hz0
  show Calls Tryd.prog 25 #[.agg #[.int .i64 c.epoch, .slice A c.nums.length cap, .string (bs c.letter), .string (bs c.pre), .int .i64 c.preNum, .int .i64 c.rev]] w _
  go_enter Tryd.func25, Tryd.ntmps25
  go_upto_region 1 with fail
  have hW : chk0 w c (.slice A c.nums.length cap) = w.alloc (.cells #[.int .i64 c.epoch, .slice A c.nums.length cap, .string (bs c.letter), .string (bs c.pre), .int .i64 c.preNum, .int .i64 c.rev] 30) := rfl
  rw [← hW]
  clear hW
  generalize chk0 w c (.slice A c.nums.length cap) = w0 at t0 hb0 hlt0 ⊢
  obtain ⟨d0, d1, d2, d3, d4, d5⟩ := t0.cells
  have hsl1 := Below.sl good_int hb0 hsl
  clear hsl
  by_cases hn0 : c.nums.length < 1
  · have hnil : c.nums = [] := List.eq_nil_of_length_eq_zero (by omega)
    have HV : Hid (chkC c = 11) := Lib.hid (HB.out (by rw [HO.out, hnil]; rfl))
    clear hnil
    go_wp2_with fail
    go_ret
    exact ⟨by rw [HV.out]; rfl, hb0⟩
  have HNE : Hid (c.nums.isEmpty = false) := Lib.hid (by cases h : c.nums with | nil => rw [h] at hn0; simp at hn0 | cons => rfl)
  by_cases h64 : 64 < c.nums.length
  · have HV : Hid (chkC c = 11) := Lib.hid (HB.out (by
      cases h : coOk c with
      | false => rfl
      | true => have := coOk_64 c h; omega))
    go_wp2_with fail
    go_ret
    exact ⟨by rw [HV.out]; rfl, hb0⟩
  go_wp2_with fail
  refine (rnumb_any c.epoch _).mono ?_
  rintro e wq ⟨rfl, rfl⟩
  cases hk1 : numOk c.epoch with
  | false =>
    have HV : Hid (chkC c = 11) := Lib.hid (HB.out (by rw [HO.out, HNB.out, hk1]; simp))
    go_wp2_with fail
    go_ret
    exact ⟨by rw [HV.out]; rfl, hb0⟩
  | true =>
  have HK1 := Lib.hid hk1
  clear hk1
  go_wp2_with fail
  refine (rnumb_any c.preNum _).mono ?_
  rintro e wq ⟨rfl, rfl⟩
  cases hk2 : numOk c.preNum with
  | false =>
    have HV : Hid (chkC c = 11) := Lib.hid (HB.out (by rw [HO.out, HNB.out, hk2]; simp))
    go_wp2_with fail
    go_ret
    exact ⟨by rw [HV.out]; rfl, hb0⟩
  | true =>
  have HK2 := Lib.hid hk2
  clear hk2
  go_wp2_with fail
  refine (rnumb_any c.rev _).mono ?_
  rintro e wq ⟨rfl, rfl⟩
  cases hk3 : numOk c.rev with
  | false =>
    have HV : Hid (chkC c = 11) := Lib.hid (HB.out (by rw [HO.out, HNB.out, hk3]; simp))
    go_wp2_with fail
    go_ret
    exact ⟨by rw [HV.out]; rfl, hb0⟩
  | true =>
  have HK3 := Lib.hid hk3
  clear hk3
  go_wp2_with fail
  refine (rrank_any c.pre _).mono ?_
  rintro e w1 ⟨rfl, hb1⟩
  have t1 := t0.below hb1 hlt0
  have hb01 := hb0.trans (hb1.mono (by omega))
  have hsl2 := Below.sl good_int hb1 hsl1
  clear d0 d1 d2 d3 d4 d5 hsl1
  have hlt1 : w.heap.size < w1.heap.size := t1.lt
  clear t0 hb0 hlt0 hb1
  obtain ⟨d0, d1, d2, d3, d4, d5⟩ := t1.cells
  have HRN := Lib.hid (rank_neg c.pre)
  have HQ : Hid (preOk c = if c.pre = [] then decide (c.preNum = 0) else presL.contains c.pre) := Lib.hid rfl
  have bad : ∀ h : preOk c = false, Hid (chkC c = 11) := fun h => Lib.hid (HB.out (by rw [HO.out, h]; cases c.nums.isEmpty <;> cases nBs c <;> cases letOk c.letter <;> rfl))
  by_cases hr : rankV c.pre < 0
  · have b1 : decide (rankV c.pre < 0) = true := by simpa using hr
    have HV := bad (by
      rw [HRN.out] at b1
      simp only [Bool.not_eq_true', Bool.or_eq_false_iff, decide_eq_false_iff_not] at b1
      rw [HQ.out, if_neg b1.1, b1.2])
    clear hr bad
    go_wp2_with fail
    go_ret
    exact ⟨by rw [HV.out]; rfl, hb01⟩
  have b1 : decide (rankV c.pre < 0) = false := by simpa using hr
  clear hr
  by_cases hbad : c.pre = [] ∧ c.preNum ≠ 0
  · have n1 : (bs c.pre).toList = [] := by rw [toList_bs]; exact hbad.1
    have n2 : (bs c.pre).toList.isEmpty = true := by rw [n1]; rfl
    have b2 : (c.preNum != 0) = true := by simpa using hbad.2
    have HV := bad (by rw [HQ.out, if_pos hbad.1]; simpa using hbad.2)
    clear hbad bad
    go_wp2_with fail
    go_ret
    exact ⟨by rw [HV.out]; rfl, hb01⟩
  have HPO : Hid (preOk c = true) := Lib.hid (by
    rw [HQ.out]
    by_cases hp : c.pre = []
    · rw [if_pos hp]
      simp only [decide_eq_true_eq]
      exact Classical.byContradiction fun h => hbad ⟨hp, h⟩
    · rw [if_neg hp]
      have h2 := b1
      rw [HRN.out] at h2
      simpa [hp] using h2)
  have hor : ((bs c.pre).toList.isEmpty = false ∧ ¬ (bs c.pre).toList = []) ∨ ((bs c.pre).toList.isEmpty = true ∧ (bs c.pre).toList = [] ∧ (c.preNum != 0) = false) := by
    by_cases hp : c.pre = []
    · have n1 : (bs c.pre).toList = [] := by rw [toList_bs]; exact hp
      exact .inr ⟨by rw [n1]; rfl, n1, by
        have : c.preNum = 0 := Classical.byContradiction fun h => hbad ⟨hp, h⟩
        rw [this]; rfl⟩
    · have n1 : ¬ (bs c.pre).toList = [] := by rw [toList_bs]; exact hp
      exact .inl ⟨by simpa using n1, n1⟩
  have HO2 : Hid (coOk c = (c.nums.all numOk && (letOk c.letter && decide ((textC 1 c).length ≤ 64)))) := Lib.hid (by rw [HO.out, HNB.out, HK1.out, HK2.out, HK3.out, HPO.out, HNE.out]; simp)
  have HSo : Hid (∀ h : c.nums.all numOk = true, CoS c) := Lib.hid (fun h => coS_of c HZ.out (by rw [HNB.out, HK1.out, HK2.out, HK3.out, h]; rfl))
  clear hbad bad HQ HRN
  rcases hor with ⟨n1, n2⟩ | ⟨n1, n2, b2⟩
  all_goals
    go_wp2_with fail
    go_loopg [3] c.nums.length (fun G s3 wx => ∃ k : Nat, k ≤ c.nums.length ∧ G = c.nums.length - k ∧ s3 = .int .i64 k ∧ w1 = wx ∧ Hid (c.nums.all numOk = (c.nums.drop k).all numOk))
    case atStart => exact ⟨0, Nat.zero_le _, rfl, rfl, rfl, Lib.hid rfl⟩
    case round =>
      obtain ⟨k, hk, rfl, rfl, rfl, HE⟩ := hrel
      by_cases hlt : k < c.nums.length
      · obtain ⟨_, _, _, b, off, rfl, hc⟩ := hsl2.ints (by omega)
        have ck := hc k hlt
        have HST : Hid (c.nums.all numOk = (numOk c.nums[k] && (c.nums.drop (k + 1)).all numOk)) := Lib.hid (by rw [HE.out, List.drop_eq_getElem_cons hlt, List.all_cons])
        clear hc HE
        generalize c.nums[k] = n at ck HST
        go_wp2_with fail
        refine (rnumb_any n _).mono ?_
        rintro e wq ⟨rfl, rfl⟩
        cases hkn : numOk n with
        | false =>
          have HV : Hid (chkC c = 11) := Lib.hid (HB.out (by rw [HO2.out, HST.out, hkn]; rfl))
          go_wp2_with fail
          go_ret
          exact ⟨by rw [HV.out]; rfl, hb01⟩
        | true =>
          have HV : Hid (c.nums.all numOk = (c.nums.drop (k + 1)).all numOk) := Lib.hid (by rw [HST.out, hkn]; rfl)
          clear HST hkn
          go_wp2_with fail
          go_roundg (c.nums.length - (k + 1))
          case measure => omega
          case rel => exact ⟨k + 1, by omega, rfl, by go_num, rfl, HV⟩
      · obtain rfl : k = c.nums.length := by omega
        have HA : Hid (c.nums.all numOk = true) := Lib.hid (by rw [HE.out, List.drop_length]; rfl)
        have HO3 : Hid (coOk c = (letOk c.letter && decide ((textC 1 c).length ≤ 64))) := Lib.hid (by rw [HO2.out, HA.out]; rfl)
        have HS := Lib.hid (HSo.out HA.out)
        have hz := bs_size
        clear HE hk hlt n1 n2 b1
        have fin : ∀ (o : Bool), letOk c.letter = true → Hid (chkC c = if 64 < (textC 1 c).length then 11 else 0) := fun _ h => Lib.hid (by
          rw [HC.out, HO3.out, h]
          by_cases h4 : 64 < (textC 1 c).length
          · rw [if_pos h4, if_neg (by simp; omega)]
          · rw [if_neg h4, if_pos (by simp; omega)])
        by_cases hl1 : 1 < c.letter.length
        · have HV : Hid (chkC c = 11) := Lib.hid (HB.out (by
            rw [HO3.out]
            match hl : c.letter with
            | [] => rw [hl] at hl1; simp at hl1
            | [x] => rw [hl] at hl1; simp at hl1
            | x :: y :: u => rfl))
          clear fin
          go_wp2_with fail
          go_ret
          exact ⟨by rw [HV.out]; rfl, hb01⟩
        by_cases hl2 : c.letter.length = 1
        · obtain ⟨x, hx⟩ := List.length_eq_one_iff.1 hl2
          have hs0 : 0 < (bs c.letter).size := by rw [bs_size]; omega
          have hg : (bs c.letter)[0]'hs0 = x := by
            have : ∀ (l : List UInt8) (h : 0 < (bs l).size), l = [x] → (bs l)[0]'h = x := by intro l h e; subst e; rfl
            exact this _ hs0 hx
          have HLO : Hid (letOk c.letter = (decide (97 ≤ x.toNat) && decide (x.toNat ≤ 122))) := Lib.hid (by rw [hx]; rfl)
          clear hx
          by_cases hq1 : x.toNat < 97
          · have q1 : decide ((((bs c.letter)[0]'hs0).toNat : Int) < 97) = true := by rw [hg]; simp; omega
            have HV : Hid (chkC c = 11) := Lib.hid (HB.out (by rw [HO3.out, HLO.out]; simp; omega))
            clear fin hg hq1
            go_wp2_with fail
            go_ret
            exact ⟨by rw [HV.out]; rfl, hb01⟩
          have q1 : decide ((((bs c.letter)[0]'hs0).toNat : Int) < 97) = false := by rw [hg]; simp; omega
          by_cases hq2 : 122 < x.toNat
          · have q2 : decide ((122 : Int) < (((bs c.letter)[0]'hs0).toNat : Int)) = true := by rw [hg]; simp; omega
            have HV : Hid (chkC c = 11) := Lib.hid (HB.out (by rw [HO3.out, HLO.out]; simp; omega))
            clear fin hg hq1 hq2
            go_wp2_with fail
            go_ret
            exact ⟨by rw [HV.out]; rfl, hb01⟩
          have q2 : decide ((122 : Int) < (((bs c.letter)[0]'hs0).toNat : Int)) = false := by rw [hg]; simp; omega
          have HF := fin true (by rw [HLO.out]; simp; omega)
          clear fin hg hq1 hq2
          go_wp2_with fail
          refine (rtext_any 1 c _ nowhere _ hsl2 HS.out (by omega) (fun h => absurd h (by decide))).mono ?_
          rintro e w2 ⟨rfl, hb2⟩
          have hb02 := hb01.trans (hb2.mono (by omega))
          by_cases h4 : 64 < (textC 1 c).length
          · have HV : Hid (chkC c = 11) := Lib.hid (by rw [HF.out, if_pos h4])
            go_wp2_with fail
            go_ret
            exact ⟨by rw [HV.out]; rfl, hb02⟩
          · have HV : Hid (chkC c = 0) := Lib.hid (by rw [HF.out, if_neg h4])
            go_wp2_with fail
            go_ret
            exact ⟨by rw [HV.out]; rfl, hb02⟩
        · have hl0 : c.letter.length = 0 := by omega
          have HF := fin true (by rw [List.eq_nil_of_length_eq_zero hl0]; rfl)
          clear fin hl1 hl2
          go_wp2_with fail
          refine (rtext_any 1 c _ nowhere _ hsl2 HS.out (by omega) (fun h => absurd h (by decide))).mono ?_
          rintro e w2 ⟨rfl, hb2⟩
          have hb02 := hb01.trans (hb2.mono (by omega))
          by_cases h4 : 64 < (textC 1 c).length
          · have HV : Hid (chkC c = 11) := Lib.hid (by rw [HF.out, if_pos h4])
            go_wp2_with fail
            go_ret
            exact ⟨by rw [HV.out]; rfl, hb02⟩
          · have HV : Hid (chkC c = 0) := Lib.hid (by rw [HF.out, if_neg h4])
            go_wp2_with fail
            go_ret
            exact ⟨by rw [HV.out]; rfl, hb02⟩
end Go.Proofs.YtdfpdmddiapnmaaDoor

/- The walk of the reference's Compare of cores. -/
import Derived.Test.YtdfpdmddiapnmaaDoorVmP
import Derived.Test.YtdfpdmddiapnmaaDoorVmK
import Derived.Test.YtdfpdmddiapnmaaDoorVmI
namespace Go.Proofs.YtdfpdmddiapnmaaDoor
open Go.RowKit
theorem sign_any (x y : Int) (w : World) : Calls Tryd.prog 26 #[.int .i64 x, .int .i64 y] w fun e w' => e = .returned (.int .i64 (cmpI x y)) ∧ w = w' := by
  have HC : Hid (cmpI x y = if x < y then -1 else if y < x then 1 else 0) := Lib.hid rfl
  by_cases h1 : x < y
  · have HV : Hid (cmpI x y = -1) := Lib.hid (by rw [HC.out, if_pos h1])
    go_enter Tryd.func26, Tryd.ntmps26
    go_wp2_with fail
    go_ret
    exact ⟨by rw [HV.out]; rfl, rfl⟩
  · by_cases h2 : y < x
    · have HV : Hid (cmpI x y = 1) := Lib.hid (by rw [HC.out, if_neg h1, if_pos h2])
      go_enter Tryd.func26, Tryd.ntmps26
      go_wp2_with fail
      go_ret
      exact ⟨by rw [HV.out]; rfl, rfl⟩
    · have HV : Hid (cmpI x y = 0) := Lib.hid (by rw [HC.out, if_neg h1, if_neg h2])
      go_enter Tryd.func26, Tryd.ntmps26
      go_wp2_with fail
      go_ret
      exact ⟨by rw [HV.out]; rfl, rfl⟩
theorem rank_right (c : Co) (h : preOk c = true) : rankV c.pre = preRank c.pre := by
  have hn := rank_neg c.pre
  have hok : (decide (c.pre = []) || presL.contains c.pre) = true := by
    unfold preOk at h
    by_cases e : c.pre = []
    · simp [e]
    · rw [if_neg e] at h; rw [h]; simp
  rw [hok] at hn
  have hge : ¬ rankV c.pre < 0 := by simpa using hn
  unfold preRank rankC
  unfold rankV at hge ⊢
  by_cases e : wordFrom c.pre presL 0 < 0
  · rw [if_pos e] at hge ⊢
    rw [if_pos e]
    by_cases e2 : c.pre = []
    · rw [if_pos e2]
    · rw [if_neg e2] at hge; omega
  · rw [if_neg e, if_neg e]
theorem cmpB_self (a : List UInt8) : cmpB a a = 0 := by
  induction a with
  | nil => rfl
  | cons x a ih => simp [cmpB, ih]
theorem cmpB_less (a b : List UInt8) (h : a ≠ b) : cmpB a b = if Op.bytesLess a b = true then -1 else 1 := by
  induction a generalizing b with
  | nil =>
    cases b with
    | nil => exact absurd rfl h
    | cons y v => simp [cmpB, Op.bytesLess]
  | cons x u ih =>
    cases b with
    | nil => simp [cmpB, Op.bytesLess]
    | cons y v =>
      by_cases e : x = y
      · subst e
        have : u ≠ v := fun e2 => h (by rw [e2])
        simp [cmpB, Op.bytesLess, ih v this]
      · by_cases hl : x.toNat < y.toNat
        · have : x < y := UInt8.lt_iff_toNat_lt.2 hl
          simp [cmpB, Op.bytesLess, e, hl, this]
        · have : ¬ x < y := fun h' => hl (UInt8.lt_iff_toNat_lt.1 h')
          simp [cmpB, Op.bytesLess, e, hl, this]
theorem or_first (x : Int) (l : List Int) (h : x ≠ 0) : orL (x :: l) = x := by rw [orL, if_neg h]
theorem or_skip (x : Int) (l : List Int) (h : x = 0) : orL (x :: l) = orL l := by rw [orL, if_pos h]
theorem or_one (x : Int) : orL [x] = x := by
  by_cases h : x = 0
  · rw [or_skip _ _ h, h]; rfl
  · rw [or_first _ _ h]
set_option maxRecDepth 100000 in
set_option maxHeartbeats 8000000 in
theorem rvcmp_any (a b : Co) (na nb : Value) (w : World) (ha : Sl 1 Rint nowhere w na a.nums) (hb : Sl 1 Rint nowhere w nb b.nums) (hZa : CoZ a) (hZb : CoZ b) :
    Calls Tryd.prog 12 #[coV a na, coV b nb] w fun e w' => e = .returned (.int .i64 (cmpC a b)) ∧ Below w.heap.size w w' := by
  obtain ⟨A, ca, rfl, hc1, hc2⟩ := ha.form
  obtain ⟨B, cb, rfl, hd1, hd2⟩ := hb.form
  unfold maxLen at hc2 hd2
  have HP : Hid (cmpC a b = if coOk a = true ∧ coOk b = true then cmpO a b else 0) := Lib.hid rfl
  have t0 := cmp0_w w a b _ _ ha hb
  show Calls Tryd.prog 12 #[.agg #[.int .i64 a.epoch, .slice A a.nums.length ca, .string (bs a.letter), .string (bs a.pre), .int .i64 a.preNum, .int .i64 a.rev], .agg #[.int .i64 b.epoch, .slice B b.nums.length cb, .string (bs b.letter), .string (bs b.pre), .int .i64 b.preNum, .int .i64 b.rev]] w _
  go_enter Tryd.func12, Tryd.ntmps12
  go_upto_region 1 with fail
  have hW : cmp0 w a b (.slice A a.nums.length ca) (.slice B b.nums.length cb) = (w.alloc (.cells #[.int .i64 a.epoch, .slice A a.nums.length ca, .string (bs a.letter), .string (bs a.pre), .int .i64 a.preNum, .int .i64 a.rev] 30)).alloc (.cells #[.int .i64 b.epoch, .slice B b.nums.length cb, .string (bs b.letter), .string (bs b.pre), .int .i64 b.preNum, .int .i64 b.rev] 30) := rfl
  rw [← hW]
  clear hW
  generalize cmp0 w a b (.slice A a.nums.length ca) (.slice B b.nums.length cb) = w0 at t0 ⊢
  clear ha hb
  obtain ⟨d0, d1, d2, d3, d4, d5⟩ := t0.ba.cells
  have HCA : Hid (chkC a = if coOk a = true then 0 else 11) := Lib.hid rfl
  have HCB : Hid (chkC b = if coOk b = true then 0 else 11) := Lib.hid rfl
  go_wp2_with fail
  refine (rvcheck_any a _ nowhere _ t0.sa hZa).mono ?_
  rintro e w1 ⟨rfl, hb1⟩
  have t1 := t0.keep hb1
  clear d0 d1 d2 d3 d4 d5 t0 hb1
  cases hoa : coOk a with
  | false =>
    have HK : Hid (chkC a = 11) := Lib.hid (by rw [HCA.out, if_neg (by rw [hoa]; simp)])
    have HV : Hid (cmpC a b = 0) := Lib.hid (by rw [HP.out, if_neg (by rw [hoa]; simp)])
    rw [HK.out]
    go_wp2_with fail
    go_ret
    exact ⟨by rw [HV.out]; rfl, t1.below⟩
  | true =>
  have HK : Hid (chkC a = 0) := Lib.hid (by rw [HCA.out, if_pos hoa])
  have HP2 : Hid (cmpC a b = if coOk b = true then cmpO a b else 0) := Lib.hid (by rw [HP.out, hoa]; simp)
  have HRA : Hid (rankV a.pre = preRank a.pre) := Lib.hid (rank_right a (by have := coOk_eq a; rw [hoa] at this; simp at this; exact this.2.2.2.1))
  rw [HK.out]
  clear HP hoa
  obtain ⟨f0, f1, f2, f3, f4, f5⟩ := t1.bb.cells
  go_wp2_with fail
  refine (rvcheck_any b _ nowhere _ t1.sb hZb).mono ?_
  rintro e w2 ⟨rfl, hb2⟩
  have t2 := t1.keep hb2
  clear f0 f1 f2 f3 f4 f5 t1 hb2
  cases hob : coOk b with
  | false =>
    have HK2 : Hid (chkC b = 11) := Lib.hid (by rw [HCB.out, if_neg (by rw [hob]; simp)])
    have HV : Hid (cmpC a b = 0) := Lib.hid (by rw [HP2.out, if_neg (by rw [hob]; simp)])
    rw [HK2.out]
    go_wp2_with fail
    go_ret
    exact ⟨by rw [HV.out]; rfl, t2.below⟩
  | true =>
  have HK2 : Hid (chkC b = 0) := Lib.hid (by rw [HCB.out, if_pos hob])
  have HE : Hid (cmpC a b = if cmpI a.epoch b.epoch = 0 then (if cmpNums a.nums b.nums = 0 then orL [cmpB a.letter b.letter, cmpI (preRank a.pre) (preRank b.pre), cmpI a.preNum b.preNum, cmpI a.rev b.rev] else cmpNums a.nums b.nums) else cmpI a.epoch b.epoch) := Lib.hid (by rw [HP2.out, hob]; simp [cmpO])
  have HRB : Hid (rankV b.pre = preRank b.pre) := Lib.hid (rank_right b (by have := coOk_eq b; rw [hob] at this; simp at this; exact this.2.2.2.1))
  rw [HK2.out]
  clear HP2 hob
  obtain ⟨d0, d1, d2, d3, d4, d5⟩ := t2.ba.cells
  obtain ⟨f0, f1, f2, f3, f4, f5⟩ := t2.bb.cells
  go_wp2_with fail
  refine (sign_any a.epoch b.epoch _).mono ?_
  rintro e wq ⟨rfl, rfl⟩
  by_cases h0 : cmpI a.epoch b.epoch = 0
  · have HE2 : Hid (cmpC a b = if cmpNums a.nums b.nums = 0 then orL [cmpB a.letter b.letter, cmpI (preRank a.pre) (preRank b.pre), cmpI a.preNum b.preNum, cmpI a.rev b.rev] else cmpNums a.nums b.nums) := Lib.hid (by rw [HE.out, if_pos h0])
    clear HE
    rw [h0]
    have HN : Hid (cmpNums a.nums b.nums = cmpNums (a.nums.drop 0) (b.nums.drop 0)) := Lib.hid (by simp)
    clear h0
    go_wp2_with fail
    go_loopg [6] a.nums.length (fun G s6 wx => ∃ k : Nat, k ≤ a.nums.length ∧ k ≤ b.nums.length ∧ G = a.nums.length - k ∧ s6 = .int .i64 k ∧ CmW w a b (.slice A a.nums.length ca) (.slice B b.nums.length cb) wx ∧ Hid (cmpNums a.nums b.nums = cmpNums (a.nums.drop k) (b.nums.drop k)))
    case atStart => exact ⟨0, Nat.zero_le _, Nat.zero_le _, rfl, rfl, t2, HN⟩
    case round =>
      clear d0 d1 d2 d3 d4 d5 f0 f1 f2 f3 f4 f5 t2 HN
      obtain ⟨k, hka, hkb, rfl, rfl, t2, HN⟩ := hrel
      obtain ⟨d0, d1, d2, d3, d4, d5⟩ := t2.ba.cells
      obtain ⟨f0, f1, f2, f3, f4, f5⟩ := t2.bb.cells
      by_cases hlt : k < a.nums.length ∧ k < b.nums.length
      · obtain ⟨ka, kb⟩ := hlt
        obtain ⟨_, _, _, p, off, rfl, hc⟩ := t2.sa.ints (by omega)
        obtain ⟨_, _, _, p', off', rfl, hc'⟩ := t2.sb.ints (by omega)
        have ck := hc k (by omega)
        have ck' := hc' k (by omega)
        have HS : Hid (cmpNums a.nums b.nums = if cmpI (a.nums[k]'(by omega)) (b.nums[k]'(by omega)) = 0 then cmpNums (a.nums.drop (k + 1)) (b.nums.drop (k + 1)) else cmpI (a.nums[k]'(by omega)) (b.nums[k]'(by omega))) := Lib.hid (by rw [HN.out]; exact numsC_step _ _ k _ _)
        clear hc hc' HN
        generalize a.nums[k]'(by omega) = x at ck HS
        generalize b.nums[k]'(by omega) = y at ck' HS
        go_upto_region 8 with fail
        refine wp_region_plan (fun W => W.cell? ⟨w.heap.size, 1, none⟩ = some (.slice (some ⟨p, off, none⟩) a.nums.length ca) ∧ W.cell? ⟨w.heap.size + 1, 1, none⟩ = some (.slice (some ⟨p', off', none⟩) b.nums.length cb) ∧ W.cell? ⟨p, off + k, none⟩ = some (.int .i64 x) ∧ W.cell? ⟨p', off' + k, none⟩ = some (.int .i64 y)) [(false, 0), (false, 1), (false, 2), (false, 3), (false, 4), (false, 5), (false, 6), (false, 7), (false, 8), (false, 9), (false, 10), (false, 11)] (by kernel_rfl) (by kernel_rfl) (⟨by simpa using d1, by simpa using f1, by simpa using ck, by simpa using ck'⟩) ?_
        simp only [planOps, List.map, List.getD_cons_zero, List.getD_cons_succ]
        iterate 12 ((first | refine plan_quiet (v := ?_) rfl rfl (fun w' hw' => ?_) ?_ | refine plan_calm (v := ?_) (tt_of) rfl (fun w' hw' => ?_) ?_); rotate_left; (focus (go_simp <;> (first | with_reducible rfl | (refine (sign_any x y _).mono ?_; rintro e w2 ⟨rfl, rfl⟩; constructor <;> with_reducible rfl)))); simp only [Act.put, List.setIfInBounds_toArray, List.set_cons_zero, List.set_cons_succ])
        refine plan_end ?_
        by_cases h0 : cmpI x y = 0
        · have HV : Hid (cmpNums a.nums b.nums = cmpNums (a.nums.drop (k + 1)) (b.nums.drop (k + 1))) := Lib.hid (by rw [HS.out, if_pos h0])
          rw [h0]
          clear h0 HS
          go_wp2_with fail
          go_roundg (a.nums.length - (k + 1))
          case measure => omega
          case rel => exact ⟨k + 1, by omega, by omega, rfl, by go_num, t2.drew, HV⟩
        · have HV : Hid (cmpC a b = cmpI x y) := Lib.hid (by rw [HE2.out, if_neg (by rw [HS.out, if_neg h0]; exact h0), HS.out, if_neg h0])
          have b1 : (cmpI x y != 0) = true := by simpa using h0
          clear h0 HS
          go_wp2_with fail
          go_ret
          exact ⟨by rw [HV.out]; rfl, t2.drew.below⟩
      · have HL : Hid (cmpNums a.nums b.nums = cmpI a.nums.length b.nums.length) := Lib.hid (by rw [HN.out]; exact numsC_end _ _ _ (by omega))
        clear HN
        have hor : ¬ k < a.nums.length ∨ (k < a.nums.length ∧ ¬ k < b.nums.length) := by omega
        clear hlt
        by_cases hll : a.nums.length = b.nums.length
        · have HL2 : Hid (cmpNums a.nums b.nums = 0) := Lib.hid (by rw [HL.out, hll]; exact cmpI_same _)
          have HE3 : Hid (cmpC a b = orL [cmpB a.letter b.letter, cmpI (preRank a.pre) (preRank b.pre), cmpI a.preNum b.preNum, cmpI a.rev b.rev]) := Lib.hid (by rw [HE2.out, if_pos HL2.out])
          clear HE2 HL HL2
          have b1 : ((a.nums.length : Int) != (b.nums.length : Int)) = false := by rw [hll]; simp
          have ka : ¬ k < a.nums.length := by omega
          clear hor
          by_cases hlt : a.letter = b.letter
          · have HE4 : Hid (cmpC a b = orL [cmpI (preRank a.pre) (preRank b.pre), cmpI a.preNum b.preNum, cmpI a.rev b.rev]) := Lib.hid (by rw [HE3.out, hlt]; exact or_skip _ _ (cmpB_self _))
            have b2 : ((bs a.letter).toList == (bs b.letter).toList) = true := by rw [hlt]; simp
            have RA : Hid (∀ W, Calls Tryd.prog 27 #[.string (bs a.pre)] W fun e w' => e = .returned (.int .i64 (preRank a.pre)) ∧ Below W.heap.size W w') := Lib.hid (fun W => by have := rrank_any a.pre W; rw [HRA.out] at this; exact this)
            have RB : Hid (∀ W, Calls Tryd.prog 27 #[.string (bs b.pre)] W fun e w' => e = .returned (.int .i64 (preRank b.pre)) ∧ Below W.heap.size W w') := Lib.hid (fun W => by have := rrank_any b.pre W; rw [HRB.out] at this; exact this)
            clear hlt HE3
            generalize preRank a.pre = ra at RA HE4
            generalize preRank b.pre = rb at RB HE4
            go_upto_region 18 with fail
            refine wp_region_plan (fun W => W.cell? ⟨w.heap.size, 3, none⟩ = some (.string (bs a.pre)) ∧ W.cell? ⟨w.heap.size + 1, 3, none⟩ = some (.string (bs b.pre))) [(false, 0), (false, 1), (false, 3), (false, 4), (true, 2), (true, 5), (false, 6), (false, 7)] (by kernel_rfl) (by kernel_rfl) (⟨by simpa using d3, by simpa using f3⟩) ?_
            simp only [planOps, List.map, List.getD_cons_zero, List.getD_cons_succ]
            iterate 4 ((first | refine plan_quiet (v := ?_) rfl rfl (fun w' hw' => ?_) ?_ | refine plan_calm (v := ?_) (tt_of) rfl (fun w' hw' => ?_) ?_); rotate_left; (focus (go_simp <;> (first | with_reducible rfl | (refine (sign_any ra rb _).mono ?_; rintro e w2 ⟨rfl, rfl⟩; constructor <;> with_reducible rfl)))); simp only [Act.put, List.setIfInBounds_toArray, List.set_cons_zero, List.set_cons_succ])
            refine plan_loud rfl (fun K hK => ?_)
            go_simp
            refine (RA.out _).mono ?_
            rintro e w3 ⟨rfl, hb3⟩
            have t3 := t2.drew.keep hb3
            clear d0 d1 d2 d3 d4 d5 f0 f1 f2 f3 f4 f5 t2 hb3
            obtain ⟨d0, d1, d2, d3, d4, d5⟩ := t3.ba.cells
            obtain ⟨f0, f1, f2, f3, f4, f5⟩ := t3.bb.cells
            refine hK _ _ (⟨d3, f3⟩) ?_
            clear hK K
            (try simp only [Act.put, List.setIfInBounds_toArray, List.set_cons_zero, List.set_cons_succ])
            refine plan_loud rfl (fun K hK => ?_)
            go_simp
            refine (RB.out _).mono ?_
            rintro e w4 ⟨rfl, hb4⟩
            have t4 := t3.keep hb4
            clear d0 d1 d2 d3 d4 d5 f0 f1 f2 f3 f4 f5 t3 hb4
            obtain ⟨d0, d1, d2, d3, d4, d5⟩ := t4.ba.cells
            obtain ⟨f0, f1, f2, f3, f4, f5⟩ := t4.bb.cells
            refine hK _ _ (⟨d3, f3⟩) ?_
            clear hK K
            (try simp only [Act.put, List.setIfInBounds_toArray, List.set_cons_zero, List.set_cons_succ])
            iterate 2 ((first | refine plan_quiet (v := ?_) rfl rfl (fun w' hw' => ?_) ?_ | refine plan_calm (v := ?_) (tt_of) rfl (fun w' hw' => ?_) ?_); rotate_left; (focus (go_simp <;> (first | with_reducible rfl | (refine (sign_any ra rb _).mono ?_; rintro e w2 ⟨rfl, rfl⟩; constructor <;> with_reducible rfl)))); simp only [Act.put, List.setIfInBounds_toArray, List.set_cons_zero, List.set_cons_succ])
            refine plan_end ?_
            clear RA RB HRA HRB
            by_cases hr : cmpI ra rb = 0
            · have HE5 : Hid (cmpC a b = orL [cmpI a.preNum b.preNum, cmpI a.rev b.rev]) := Lib.hid (by rw [HE4.out]; exact or_skip _ _ hr)
              rw [hr]
              clear hr HE4
              go_wp2_with fail
              refine (sign_any a.preNum b.preNum _).mono ?_
              rintro e wq ⟨rfl, rfl⟩
              by_cases hp : cmpI a.preNum b.preNum = 0
              · have HE6 : Hid (cmpC a b = cmpI a.rev b.rev) := Lib.hid (by rw [HE5.out, or_skip _ _ hp]; exact or_one _)
                rw [hp]
                clear hp HE5
                go_wp2_with fail
                refine (sign_any a.rev b.rev _).mono ?_
                rintro e wq ⟨rfl, rfl⟩
                go_wp2_with fail
                go_ret
                exact ⟨by rw [HE6.out]; rfl, t4.below⟩
              · have HV : Hid (cmpC a b = cmpI a.preNum b.preNum) := Lib.hid (by rw [HE5.out]; exact or_first _ _ hp)
                have b3 : (cmpI a.preNum b.preNum != 0) = true := by simpa using hp
                clear hp HE5
                go_wp2_with fail
                go_ret
                exact ⟨by rw [HV.out]; rfl, t4.below⟩
            · have HV : Hid (cmpC a b = cmpI ra rb) := Lib.hid (by rw [HE4.out]; exact or_first _ _ hr)
              have b3 : (cmpI ra rb != 0) = true := by simpa using hr
              clear hr HE4
              go_wp2_with fail
              go_ret
              exact ⟨by rw [HV.out]; rfl, t4.below⟩
          · have b2 : ((bs a.letter).toList == (bs b.letter).toList) = false := by rw [toList_bs, toList_bs]; simpa using hlt
            have HV : Hid (cmpC a b = if Op.bytesLess a.letter b.letter = true then -1 else 1) := Lib.hid (by
              have hc := cmpB_less _ _ hlt
              rw [HE3.out, or_first _ _ (by rw [hc]; split <;> omega), hc])
            clear hlt HE3
            cases hbl : Op.bytesLess a.letter b.letter with
            | true =>
              have b4 : Op.bytesLess (bs a.letter).toList (bs b.letter).toList = true := by rw [toList_bs, toList_bs]; exact hbl
              have HV2 : Hid (cmpC a b = -1) := Lib.hid (by rw [HV.out, if_pos hbl])
              clear hbl HV
              go_wp2_with fail
              go_ret
              exact ⟨by rw [HV2.out]; rfl, t2.below⟩
            | false =>
              have b4 : Op.bytesLess (bs a.letter).toList (bs b.letter).toList = false := by rw [toList_bs, toList_bs]; exact hbl
              have HV2 : Hid (cmpC a b = 1) := Lib.hid (by rw [HV.out, if_neg (by rw [hbl]; simp)])
              clear hbl HV
              go_wp2_with fail
              go_ret
              exact ⟨by rw [HV2.out]; rfl, t2.below⟩
        · have HV : Hid (cmpC a b = cmpI a.nums.length b.nums.length) := Lib.hid (by
            have hne : cmpI (a.nums.length : Int) (b.nums.length : Int) ≠ 0 := fun e => hll (by have := cmpI_zero e; omega)
            rw [HE2.out, if_neg (by rw [HL.out]; exact hne), HL.out])
          have b1 : ((a.nums.length : Int) != (b.nums.length : Int)) = true := by simp; omega
          clear hll HE2 HL
          rcases hor with b2 | ⟨b2, b3⟩
          all_goals
            go_wp2_with fail
            refine (sign_any _ _ _).mono ?_
            rintro e wq ⟨rfl, rfl⟩
            go_wp2_with fail
            go_ret
            exact ⟨by rw [HV.out]; rfl, t2.below⟩
  · have HV : Hid (cmpC a b = cmpI a.epoch b.epoch) := Lib.hid (by rw [HE.out, if_neg h0])
    have b1 : (cmpI a.epoch b.epoch != 0) = true := by simpa using h0
    clear h0
    go_wp2_with fail
    go_ret
    exact ⟨by rw [HV.out]; rfl, t2.below⟩
end Go.Proofs.YtdfpdmddiapnmaaDoor

/- Which of two cores is newer: plain, and vmap's walk. -/
import Derived.Test.YtdfpdmddiapnmaaDoorVmE
import Derived.Test.YtdfpdmddiapnmaaDoorVerM
namespace Go.Proofs.YtdfpdmddiapnmaaDoor
open Go.RowKit
/-- Which of two right cores is newer. -/
def cmpO (a b : Co) : Int := if cmpI a.epoch b.epoch = 0 then (if cmpNums a.nums b.nums = 0 then orL [cmpB a.letter b.letter, cmpI (preRank a.pre) (preRank b.pre), cmpI a.preNum b.preNum, cmpI a.rev b.rev] else cmpNums a.nums b.nums) else cmpI a.epoch b.epoch
def cmpC (a b : Co) : Int := if coOk a = true ∧ coOk b = true then cmpO a b else 0
theorem numsC_step (a b : List Int) (k : Nat) (ha : k < a.length) (hb : k < b.length) : cmpNums (a.drop k) (b.drop k) = if cmpI a[k] b[k] = 0 then cmpNums (a.drop (k + 1)) (b.drop (k + 1)) else cmpI a[k] b[k] := by
  rw [List.drop_eq_getElem_cons ha, List.drop_eq_getElem_cons hb, cmpNums]
theorem numsC_end (a b : List Int) (k : Nat) (hk : k = min a.length b.length) : cmpNums (a.drop k) (b.drop k) = cmpI a.length b.length := by
  by_cases h : a.length ≤ b.length
  · obtain rfl : k = a.length := by omega
    rw [List.drop_length]
    by_cases h2 : a.length = b.length
    · rw [h2, List.drop_length, cmpI_same]; rfl
    · have hlt : a.length < b.length := by omega
      rw [List.drop_eq_getElem_cons hlt]
      unfold cmpI
      rw [if_pos (by omega)]
      rfl
  · obtain rfl : k = b.length := by omega
    rw [List.drop_length]
    have hlt : b.length < a.length := by omega
    rw [List.drop_eq_getElem_cons hlt]
    unfold cmpI
    rw [if_neg (by omega), if_pos (by omega)]
    rfl
theorem five (w : World) (t : TypeId) (x0 x1 x2 x3 x4 : Int) : ∀ j (h : j < [x0, x1, x2, x3, x4].length), (w.alloc (.cells #[.int .i64 x0, .int .i64 x1, .int .i64 x2, .int .i64 x3, .int .i64 x4] t)).drew.cell? ⟨w.heap.size, j, none⟩ = some (.int .i64 [x0, x1, x2, x3, x4][j]) := by
  intro j h
  have hB := Blk.new w t #[.int .i64 x0, .int .i64 x1, .int .i64 x2, .int .i64 x3, .int .i64 x4]
  simp only [List.length_cons, List.length_nil] at h
  obtain rfl | rfl | rfl | rfl | rfl : j = 0 ∨ j = 1 ∨ j = 2 ∨ j = 3 ∨ j = 4 := by omega
  · exact hB.cell 0
  · exact hB.cell 1
  · exact hB.cell 2
  · exact hB.cell 3
  · exact hB.cell 4
structure CmW (w : World) (a b : Co) (na nb : Value) (wx : World) : Prop where
  ba : CB wx w.heap.size a na
  bb : CB wx (w.heap.size + 1) b nb
  sa : Sl 1 Rint nowhere wx na a.nums
  sb : Sl 1 Rint nowhere wx nb b.nums
  below : Below w.heap.size w wx
namespace CmW
variable {w wx wy : World} {a b : Co} {na nb : Value}
theorem lt' (h : CmW w a b na nb wx) : w.heap.size + 1 < wx.heap.size := Blk.lt h.bb
theorem keep (h : CmW w a b na nb wx) (hb : Below wx.heap.size wx wy) : CmW w a b na nb wy :=
  have := h.lt'
  ⟨h.ba.below hb (by omega), h.bb.below hb (by omega), Below.sl good_int hb h.sa, Below.sl good_int hb h.sb, h.below.trans (hb.mono (by omega))⟩
theorem drew (h : CmW w a b na nb wx) : CmW w a b na nb wx.drew := h.keep (Below.refl _ _).drew
end CmW
def cmp0 (w : World) (a b : Co) (na nb : Value) : World := (w.alloc (.cells #[.int .i64 a.epoch, na, .string (bs a.letter), .string (bs a.pre), .int .i64 a.preNum, .int .i64 a.rev] 30)).alloc (.cells #[.int .i64 b.epoch, nb, .string (bs b.letter), .string (bs b.pre), .int .i64 b.preNum, .int .i64 b.rev] 30)
theorem cmp0_w (w : World) (a b : Co) (na nb : Value) (ha : Sl 1 Rint nowhere w na a.nums) (hb : Sl 1 Rint nowhere w nb b.nums) : CmW w a b na nb (cmp0 w a b na nb) := by
  have h0 : Below w.heap.size w (cmp0 w a b na nb) := ((Below.refl _ _).alloc (Nat.le_refl _) _).alloc (by simp) _
  refine ⟨(Blk.new w 30 _).alloc _, ?_, Below.sl good_int h0 ha, Below.sl good_int h0 hb, h0⟩
  have := Blk.new (chk0 w a na) 30 #[.int .i64 b.epoch, nb, .string (bs b.letter), .string (bs b.pre), .int .i64 b.preNum, .int .i64 b.rev]
  rw [show (chk0 w a na).heap.size = w.heap.size + 1 by simp [chk0]] at this
  exact this
set_option maxRecDepth 100000 in
set_option maxHeartbeats 8000000 in
theorem vcmp_any (a b : Co) (na nb : Value) (w : World) (ha : Sl 1 Rint nowhere w na a.nums) (hb : Sl 1 Rint nowhere w nb b.nums) (hZa : CoZ a) (hZb : CoZ b) (ht : Tab w) (hp : Pres w) :
    Calls Tryd.prog 11 #[coV a na, coV b nb] w fun e w' => e = .returned (.int .i64 (cmpC a b)) ∧ Below w.heap.size w w' := by
  obtain ⟨A, ca, rfl, hc1, hc2⟩ := ha.form
  obtain ⟨B, cb, rfl, hd1, hd2⟩ := hb.form
  unfold maxLen at hc2 hd2
  have HP : Hid (cmpC a b = if coOk a = true ∧ coOk b = true then cmpO a b else 0) := Lib.hid rfl
  have t0 := cmp0_w w a b _ _ ha hb
  show Calls Tryd.prog 11 #[.agg #[.int .i64 a.epoch, .slice A a.nums.length ca, .string (bs a.letter), .string (bs a.pre), .int .i64 a.preNum, .int .i64 a.rev], .agg #[.int .i64 b.epoch, .slice B b.nums.length cb, .string (bs b.letter), .string (bs b.pre), .int .i64 b.preNum, .int .i64 b.rev]] w _
  go_enter Tryd.func11, Tryd.ntmps11
  go_upto_region 1 with fail
  have hW : cmp0 w a b (.slice A a.nums.length ca) (.slice B b.nums.length cb) = (w.alloc (.cells #[.int .i64 a.epoch, .slice A a.nums.length ca, .string (bs a.letter), .string (bs a.pre), .int .i64 a.preNum, .int .i64 a.rev] 30)).alloc (.cells #[.int .i64 b.epoch, .slice B b.nums.length cb, .string (bs b.letter), .string (bs b.pre), .int .i64 b.preNum, .int .i64 b.rev] 30) := rfl
  rw [← hW]
  clear hW
  have HT := ht.below (w' := cmp0 w a b (.slice A a.nums.length ca) (.slice B b.nums.length cb)) (((Below.refl _ _).alloc (Nat.le_refl _) _).alloc (by simp) _)
  have HQ := hp.below (w' := cmp0 w a b (.slice A a.nums.length ca) (.slice B b.nums.length cb)) (((Below.refl _ _).alloc (Nat.le_refl _) _).alloc (by simp) _)
  generalize cmp0 w a b (.slice A a.nums.length ca) (.slice B b.nums.length cb) = w0 at t0 HT HQ ⊢
  clear ha hb ht hp
  obtain ⟨d0, d1, d2, d3, d4, d5⟩ := t0.ba.cells
  have HCA : Hid (chkC a = if coOk a = true then 0 else 11) := Lib.hid rfl
  have HCB : Hid (chkC b = if coOk b = true then 0 else 11) := Lib.hid rfl
  go_wp2_with fail
  refine (vcheck_any a _ nowhere _ t0.sa hZa HT HQ).mono ?_
  rintro e w1 ⟨rfl, hb1⟩
  have t1 := t0.keep hb1
  have HT1 := HT.below hb1
  have HQ1 := HQ.below hb1
  clear d0 d1 d2 d3 d4 d5 t0 HT HQ hb1
  cases hoa : coOk a with
  | false =>
    have HK : Hid (chkC a = 11) := Lib.hid (by rw [HCA.out, if_neg (by rw [hoa]; simp)])
    have HV : Hid (cmpC a b = 0) := Lib.hid (by rw [HP.out, if_neg (by rw [hoa]; simp)])
    rw [HK.out]
    go_wp2_with fail
    go_ret
    exact ⟨by rw [HV.out]; rfl, t1.below⟩
  | true =>
  have HK : Hid (chkC a = 0) := Lib.hid (by rw [HCA.out, if_pos hoa])
  have HP2 : Hid (cmpC a b = if coOk b = true then cmpO a b else 0) := Lib.hid (by rw [HP.out, hoa]; simp)
  rw [HK.out]
  clear HP hoa
  obtain ⟨f0, f1, f2, f3, f4, f5⟩ := t1.bb.cells
  go_wp2_with fail
  refine (vcheck_any b _ nowhere _ t1.sb hZb HT1 HQ1).mono ?_
  rintro e w2 ⟨rfl, hb2⟩
  have t2 := t1.keep hb2
  have HQ2 := HQ1.below hb2
  clear f0 f1 f2 f3 f4 f5 t1 HT1 HQ1 hb2
  cases hob : coOk b with
  | false =>
    have HK2 : Hid (chkC b = 11) := Lib.hid (by rw [HCB.out, if_neg (by rw [hob]; simp)])
    have HV : Hid (cmpC a b = 0) := Lib.hid (by rw [HP2.out, if_neg (by rw [hob]; simp)])
    rw [HK2.out]
    go_wp2_with fail
    go_ret
    exact ⟨by rw [HV.out]; rfl, t2.below⟩
  | true =>
  have HK2 : Hid (chkC b = 0) := Lib.hid (by rw [HCB.out, if_pos hob])
  have HE : Hid (cmpC a b = if cmpI a.epoch b.epoch = 0 then (if cmpNums a.nums b.nums = 0 then orL [cmpB a.letter b.letter, cmpI (preRank a.pre) (preRank b.pre), cmpI a.preNum b.preNum, cmpI a.rev b.rev] else cmpNums a.nums b.nums) else cmpI a.epoch b.epoch) := Lib.hid (by rw [HP2.out, hob]; simp [cmpO])
  rw [HK2.out]
  clear HP2 hob
  obtain ⟨d0, d1, d2, d3, d4, d5⟩ := t2.ba.cells
  obtain ⟨f0, f1, f2, f3, f4, f5⟩ := t2.bb.cells
  go_wp2_with fail
  refine (ccmp a.epoch b.epoch _).mono ?_
  rintro e wq ⟨rfl, rfl⟩
  by_cases h0 : cmpI a.epoch b.epoch = 0
  · have HE2 : Hid (cmpC a b = if cmpNums a.nums b.nums = 0 then orL [cmpB a.letter b.letter, cmpI (preRank a.pre) (preRank b.pre), cmpI a.preNum b.preNum, cmpI a.rev b.rev] else cmpNums a.nums b.nums) := Lib.hid (by rw [HE.out, if_pos h0])
    clear HE
    rw [h0]
    obtain ⟨m, HM⟩ : ∃ m, Hid (min a.nums.length b.nums.length = m) := ⟨_, Lib.hid rfl⟩
    have hmin : (min (a.nums.length : Int) (b.nums.length : Int)) = (m : Int) := by rw [← HM.out]; omega
    have hma : m ≤ a.nums.length := by rw [← HM.out]; omega
    have hmb : m ≤ b.nums.length := by rw [← HM.out]; omega
    have HN : Hid (cmpNums a.nums b.nums = cmpNums (a.nums.drop 0) (b.nums.drop 0)) := Lib.hid (by simp)
    clear h0
    go_wp2_with fail
    go_loopg [31] m (fun G s31 wx => ∃ k : Nat, k ≤ m ∧ G = m - k ∧ s31 = .int .i64 k ∧ CmW w a b (.slice A a.nums.length ca) (.slice B b.nums.length cb) wx ∧ Pres wx ∧ Hid (cmpNums a.nums b.nums = cmpNums (a.nums.drop k) (b.nums.drop k)))
    case atStart => exact ⟨0, Nat.zero_le _, rfl, rfl, t2, HQ2, HN⟩
    case round =>
      clear d0 d1 d2 d3 d4 d5 f0 f1 f2 f3 f4 f5 t2 HN HQ2
      obtain ⟨k, hk, rfl, rfl, t2, HQ2, HN⟩ := hrel
      obtain ⟨d0, d1, d2, d3, d4, d5⟩ := t2.ba.cells
      obtain ⟨f0, f1, f2, f3, f4, f5⟩ := t2.bb.cells
      by_cases hlt : k < m
      · have ka : k < a.nums.length := by omega
        have kb : k < b.nums.length := by omega
        obtain ⟨_, _, _, p, off, rfl, hc⟩ := t2.sa.ints (by omega)
        obtain ⟨_, _, _, p', off', rfl, hc'⟩ := t2.sb.ints (by omega)
        have ck := hc k (by omega)
        have ck' := hc' k (by omega)
        have HS : Hid (cmpNums a.nums b.nums = if cmpI (a.nums[k]'(by omega)) (b.nums[k]'(by omega)) = 0 then cmpNums (a.nums.drop (k + 1)) (b.nums.drop (k + 1)) else cmpI (a.nums[k]'(by omega)) (b.nums[k]'(by omega))) := Lib.hid (by rw [HN.out]; exact numsC_step _ _ k _ _)
        clear hc hc' HN
        generalize a.nums[k]'(by omega) = x at ck HS
        generalize b.nums[k]'(by omega) = y at ck' HS
        go_upto_region 9 with fail
        refine wp_region_plan (fun W => W.cell? ⟨w.heap.size, 1, none⟩ = some (.slice (some ⟨p, off, none⟩) a.nums.length ca) ∧ W.cell? ⟨w.heap.size + 1, 1, none⟩ = some (.slice (some ⟨p', off', none⟩) b.nums.length cb) ∧ W.cell? ⟨p, off + k, none⟩ = some (.int .i64 x) ∧ W.cell? ⟨p', off' + k, none⟩ = some (.int .i64 y)) [(false, 0), (false, 1), (false, 2), (false, 3), (false, 4), (false, 5), (false, 6), (false, 7), (false, 8), (false, 9), (false, 10), (false, 11)] (by kernel_rfl) (by kernel_rfl) (⟨by simpa using d1, by simpa using f1, by simpa using ck, by simpa using ck'⟩) ?_
        simp only [planOps, List.map, List.getD_cons_zero, List.getD_cons_succ]
        iterate 12 ((first | refine plan_quiet (v := ?_) rfl rfl (fun w' hw' => ?_) ?_ | refine plan_calm (v := ?_) (tt_of) rfl (fun w' hw' => ?_) ?_); rotate_left; (focus (go_simp <;> (first | with_reducible rfl | (refine (ccmp x y _).mono ?_; rintro e w2 ⟨rfl, rfl⟩; constructor <;> with_reducible rfl)))); simp only [Act.put, List.setIfInBounds_toArray, List.set_cons_zero, List.set_cons_succ])
        refine plan_end ?_
        by_cases h0 : cmpI x y = 0
        · have HV : Hid (cmpNums a.nums b.nums = cmpNums (a.nums.drop (k + 1)) (b.nums.drop (k + 1))) := Lib.hid (by rw [HS.out, if_pos h0])
          rw [h0]
          clear h0 HS
          go_wp2_with fail
          go_roundg (m - (k + 1))
          case measure => omega
          case rel => exact ⟨k + 1, by omega, rfl, by go_num, t2.drew, HQ2, HV⟩
        · have HV : Hid (cmpC a b = cmpI x y) := Lib.hid (by rw [HE2.out, if_neg (by rw [HS.out, if_neg h0]; exact h0), HS.out, if_neg h0])
          have b1 : (cmpI x y != 0) = true := by simpa using h0
          clear h0 HS
          go_wp2_with fail
          go_ret
          exact ⟨by rw [HV.out]; rfl, t2.drew.below⟩
      · obtain rfl : k = m := by omega
        have HL : Hid (cmpNums a.nums b.nums = cmpI a.nums.length b.nums.length) := Lib.hid (by rw [HN.out]; exact numsC_end _ _ _ HM.out.symm)
        have HE3 : Hid (cmpC a b = orL [cmpI a.nums.length b.nums.length, cmpB a.letter b.letter, cmpI (preRank a.pre) (preRank b.pre), cmpI a.preNum b.preNum, cmpI a.rev b.rev]) := Lib.hid (by rw [HE2.out, HL.out]; rfl)
        clear HE2 HL HN
        go_upto_region 13 with fail
        have hbl := t2.below
        have hszz := t2.lt'
        have CA : ∀ W, Pres W → Calls Tryd.prog 24 #[.string (bs a.pre)] W (fun e w' => e = .returned (.int .i64 (preRank a.pre)) ∧ W = w') := fun W h => preRank_any _ _ h
        have CC : ∀ W, Pres W → Calls Tryd.prog 24 #[.string (bs b.pre)] W (fun e w' => e = .returned (.int .i64 (preRank b.pre)) ∧ W = w') := fun W h => preRank_any _ _ h
        have HCA2 := Lib.hid CA
        have HCC2 := Lib.hid CC
        have la1 : a.nums.length ≤ 9223372036854775807 := by omega
        have lb1 : b.nums.length ≤ 9223372036854775807 := by omega
        clear CA CC t2 HCA HCB HM hmin hma hmb hZa hZb HK HK2 hc1 hc2 hd1 hd2 d0 f0 hk hlt
        generalize preRank a.pre = ra at HE3 HCA2
        generalize preRank b.pre = rb at HE3 HCC2
        generalize a.nums.length = la at d1 HE3 la1 ⊢
        generalize b.nums.length = lb at f1 HE3 lb1 ⊢
        generalize a.letter = lta at d2 HE3 ⊢
        generalize b.letter = ltb at f2 HE3 ⊢
        generalize a.pre = pra at d3 HCA2 ⊢
        generalize b.pre = prb at f3 HCC2 ⊢
        generalize a.preNum = pna at d4 HE3 ⊢
        generalize b.preNum = pnb at f4 HE3 ⊢
        generalize a.rev = rva at d5 HE3 ⊢
        generalize b.rev = rvb at f5 HE3 ⊢
        have HS2 : Hid (∀ W2, Below wr.heap.size wr W2 → (W2.cell? ⟨w.heap.size, 1, none⟩ = some (.slice A la ca) ∧ W2.cell? ⟨w.heap.size, 2, none⟩ = some (.string (bs lta)) ∧ W2.cell? ⟨w.heap.size, 3, none⟩ = some (.string (bs pra)) ∧ W2.cell? ⟨w.heap.size, 4, none⟩ = some (.int .i64 pna) ∧ W2.cell? ⟨w.heap.size, 5, none⟩ = some (.int .i64 rva) ∧ W2.cell? ⟨w.heap.size + 1, 1, none⟩ = some (.slice B lb cb) ∧ W2.cell? ⟨w.heap.size + 1, 2, none⟩ = some (.string (bs ltb)) ∧ W2.cell? ⟨w.heap.size + 1, 3, none⟩ = some (.string (bs prb)) ∧ W2.cell? ⟨w.heap.size + 1, 4, none⟩ = some (.int .i64 pnb) ∧ W2.cell? ⟨w.heap.size + 1, 5, none⟩ = some (.int .i64 rvb)) ∧ Pres W2) := Lib.hid (fun W2 hb2 => ⟨⟨(hb2.cell (lt_of_cell d1)).trans d1, (hb2.cell (lt_of_cell d2)).trans d2, (hb2.cell (lt_of_cell d3)).trans d3, (hb2.cell (lt_of_cell d4)).trans d4, (hb2.cell (lt_of_cell d5)).trans d5, (hb2.cell (lt_of_cell f1)).trans f1, (hb2.cell (lt_of_cell f2)).trans f2, (hb2.cell (lt_of_cell f3)).trans f3, (hb2.cell (lt_of_cell f4)).trans f4, (hb2.cell (lt_of_cell f5)).trans f5⟩, HQ2.below hb2⟩)
        refine wp_region_plan (fun W => (W.cell? ⟨w.heap.size, 1, none⟩ = some (.slice A la ca) ∧ W.cell? ⟨w.heap.size, 2, none⟩ = some (.string (bs lta)) ∧ W.cell? ⟨w.heap.size, 3, none⟩ = some (.string (bs pra)) ∧ W.cell? ⟨w.heap.size, 4, none⟩ = some (.int .i64 pna) ∧ W.cell? ⟨w.heap.size, 5, none⟩ = some (.int .i64 rva) ∧ W.cell? ⟨w.heap.size + 1, 1, none⟩ = some (.slice B lb cb) ∧ W.cell? ⟨w.heap.size + 1, 2, none⟩ = some (.string (bs ltb)) ∧ W.cell? ⟨w.heap.size + 1, 3, none⟩ = some (.string (bs prb)) ∧ W.cell? ⟨w.heap.size + 1, 4, none⟩ = some (.int .i64 pnb) ∧ W.cell? ⟨w.heap.size + 1, 5, none⟩ = some (.int .i64 rvb)) ∧ Pres W) [(false, 0), (false, 1), (false, 2), (false, 3), (false, 4), (false, 5), (false, 6), (false, 7), (false, 8), (false, 9), (false, 10), (false, 11), (false, 12), (false, 13), (false, 14), (false, 15), (false, 16), (false, 17), (false, 18), (false, 19), (false, 20), (false, 21), (false, 22), (false, 23), (false, 24), (false, 25), (false, 26), (false, 27), (false, 28), (true, 29), (true, 30), (false, 31)] (by kernel_rfl) (by kernel_rfl) (⟨⟨by simpa using d1, by simpa using d2, by simpa using d3, by simpa using d4, by simpa using d5, by simpa using f1, by simpa using f2, by simpa using f3, by simpa using f4, by simpa using f5⟩, HQ2⟩) ?_
        simp only [planOps, List.map, List.getD_cons_zero, List.getD_cons_succ]
        iterate 29 ((first | refine plan_quiet (v := ?_) rfl rfl (fun w' hw' => ?_) ?_ | refine plan_calm (v := ?_) (tt_of) rfl (fun w' hw' => ?_) ?_); rotate_left; (focus (go_simp <;> (first | with_reducible rfl | (with_reducible refine (ccmp la lb _).mono ?_; rintro e w2 ⟨rfl, rfl⟩; constructor <;> with_reducible rfl) | (with_reducible refine (scmp lta ltb _).mono ?_; rintro e w2 ⟨rfl, rfl⟩; constructor <;> with_reducible rfl) | (with_reducible refine (HCA2.out _ hw'.2).mono ?_; rintro e w2 ⟨rfl, rfl⟩; constructor <;> with_reducible rfl) | (with_reducible refine (HCC2.out _ hw'.2).mono ?_; rintro e w2 ⟨rfl, rfl⟩; constructor <;> with_reducible rfl) | (with_reducible refine (ccmp ra rb _).mono ?_; rintro e w2 ⟨rfl, rfl⟩; constructor <;> with_reducible rfl) | (with_reducible refine (ccmp pna pnb _).mono ?_; rintro e w2 ⟨rfl, rfl⟩; constructor <;> with_reducible rfl) | (with_reducible refine (ccmp rva rvb _).mono ?_; rintro e w2 ⟨rfl, rfl⟩; constructor <;> with_reducible rfl)))); simp only [Act.put, List.setIfInBounds_toArray, List.set_cons_zero, List.set_cons_succ])
        refine plan_loud rfl (fun K hK => ?_)
        go_simp
        refine hK _ _ (HS2.out _ ((Below.refl _ _).alloc (Nat.le_refl _) _).drew) ?_
        clear hK K
        (try simp only [Act.put, List.setIfInBounds_toArray, List.set_cons_zero, List.set_cons_succ])
        refine plan_loud rfl (fun K hK => ?_)
        go_simp
        refine (or_any wr.heap.size 5 _ _ (by simp) (five wr 3 (cmpI la lb) (cmpB lta ltb) (cmpI ra rb) (cmpI pna pnb) (cmpI rva rvb))).mono ?_
        rintro e wq ⟨rfl, rfl⟩
        refine hK _ _ (HS2.out _ ((Below.refl _ _).alloc (Nat.le_refl _) _).drew) ?_
        clear hK K
        (try simp only [Act.put, List.setIfInBounds_toArray, List.set_cons_zero, List.set_cons_succ])
        iterate 1 ((first | refine plan_quiet (v := ?_) rfl rfl (fun w' hw' => ?_) ?_ | refine plan_calm (v := ?_) (tt_of) rfl (fun w' hw' => ?_) ?_); rotate_left; (focus (go_simp <;> (first | with_reducible rfl | (with_reducible refine (ccmp la lb _).mono ?_; rintro e w2 ⟨rfl, rfl⟩; constructor <;> with_reducible rfl) | (with_reducible refine (scmp lta ltb _).mono ?_; rintro e w2 ⟨rfl, rfl⟩; constructor <;> with_reducible rfl) | (with_reducible refine (HCA2.out _ hw'.2).mono ?_; rintro e w2 ⟨rfl, rfl⟩; constructor <;> with_reducible rfl) | (with_reducible refine (HCC2.out _ hw'.2).mono ?_; rintro e w2 ⟨rfl, rfl⟩; constructor <;> with_reducible rfl) | (with_reducible refine (ccmp ra rb _).mono ?_; rintro e w2 ⟨rfl, rfl⟩; constructor <;> with_reducible rfl) | (with_reducible refine (ccmp pna pnb _).mono ?_; rintro e w2 ⟨rfl, rfl⟩; constructor <;> with_reducible rfl) | (with_reducible refine (ccmp rva rvb _).mono ?_; rintro e w2 ⟨rfl, rfl⟩; constructor <;> with_reducible rfl)))); simp only [Act.put, List.setIfInBounds_toArray, List.set_cons_zero, List.set_cons_succ])
        refine plan_end ?_
        have hfin : Below w.heap.size w (wr.alloc (.cells #[.int .i64 (cmpI la lb), .int .i64 (cmpB lta ltb), .int .i64 (cmpI ra rb), .int .i64 (cmpI pna pnb), .int .i64 (cmpI rva rvb)] 3)).drew := (hbl.alloc (by omega) _).drew
        go_wp2_with fail
        go_ret
        exact ⟨by rw [HE3.out]; rfl, hfin⟩
  · have HV : Hid (cmpC a b = cmpI a.epoch b.epoch) := Lib.hid (by rw [HE.out, if_neg h0])
    have b1 : (cmpI a.epoch b.epoch != 0) = true := by simpa using h0
    clear h0
    go_wp2_with fail
    go_ret
    exact ⟨by rw [HV.out]; rfl, t2.below⟩
end Go.Proofs.YtdfpdmddiapnmaaDoor

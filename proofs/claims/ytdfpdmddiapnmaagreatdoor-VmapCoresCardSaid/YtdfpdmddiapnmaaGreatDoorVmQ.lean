/- Walks of the law's light and of the reference's Same. -/
import Derived.Test.YtdfpdmddiapnmaaGreatDoorVmE
namespace Go.Proofs.YtdfpdmddiapnmaaGreatDoor
open Go.RowKit
def lightC (c : Co) : Bool := decide (c.nums.length ≤ 300) && (decide (c.letter.length ≤ 100) && decide (c.pre.length ≤ 100))
theorem light_z (c : Co) (h : lightC c = true) : CoZ c := by
  simp only [lightC, Bool.and_eq_true, decide_eq_true_eq] at h
  exact ⟨h.1, h.2.1, h.2.2⟩
set_option maxHeartbeats 4000000 in
theorem vlight_any (c : Co) (nv : Value) (X : Nat → Prop) (w : World) (hsl0 : Sl 1 Rint X w nv c.nums) :
    Calls Tryz.prog 5 #[coV c nv] w fun e w' => e = .returned (.bool (lightC c)) ∧ Below w.heap.size w w' := by
  obtain ⟨A, cap, rfl, hc1, hc2⟩ := hsl0.form
  unfold maxLen at hc2
  have HL : Hid (lightC c = (decide (c.nums.length ≤ 300) && (decide (c.letter.length ≤ 100) && decide (c.pre.length ≤ 100)))) := Lib.hid rfl
  obtain ⟨t0, hb0, hz0⟩ := chk0_cb w c (.slice A c.nums.length cap)
  show Calls Tryz.prog 5 #[.agg #[.int .i64 c.epoch, .slice A c.nums.length cap, .string (bs c.letter), .string (bs c.pre), .int .i64 c.preNum, .int .i64 c.rev]] w _
  go_enter Tryz.func5, Tryz.ntmps5
  go_upto_region 1 with fail
  have hW : chk0 w c (.slice A c.nums.length cap) = w.alloc (.cells #[.int .i64 c.epoch, .slice A c.nums.length cap, .string (bs c.letter), .string (bs c.pre), .int .i64 c.preNum, .int .i64 c.rev] 24) := rfl
  rw [← hW]
  clear hW
  generalize chk0 w c (.slice A c.nums.length cap) = w0 at t0 hb0 hz0 ⊢
  clear hz0 hsl0
  obtain ⟨d0, d1, d2, d3, d4, d5⟩ := t0.cells
  have z1 : ((bs c.letter).size : Int) = (c.letter.length : Int) := by rw [bs_size]
  have z2 : ((bs c.pre).size : Int) = (c.pre.length : Int) := by rw [bs_size]
  by_cases h1 : c.nums.length ≤ 300
  · have b1 : decide ((c.nums.length : Int) ≤ 300) = true := by simp; omega
    by_cases h2 : c.letter.length ≤ 100
    · have b2 : decide (((bs c.letter).size : Int) ≤ 100) = true := by rw [z1]; simp; omega
      by_cases h3 : c.pre.length ≤ 100
      · have b3 : decide (((bs c.pre).size : Int) ≤ 100) = true := by rw [z2]; simp; omega
        have HV : Hid (lightC c = true) := Lib.hid (by rw [HL.out]; simp [h1, h2, h3])
        clear h1 h2 h3 z1 z2
        go_wp2_with fail
        go_ret
        exact ⟨by rw [HV.out]; rfl, hb0⟩
      · have b3 : decide (((bs c.pre).size : Int) ≤ 100) = false := by rw [z2]; simp; omega
        have HV : Hid (lightC c = false) := Lib.hid (by rw [HL.out]; simp [h3])
        clear h1 h2 h3 z1 z2
        go_wp2_with fail
        go_ret
        exact ⟨by rw [HV.out]; rfl, hb0⟩
    · have b2 : decide (((bs c.letter).size : Int) ≤ 100) = false := by rw [z1]; simp; omega
      have HV : Hid (lightC c = false) := Lib.hid (by rw [HL.out]; simp [h2])
      clear h1 h2 z1 z2
      go_wp2_with fail
      go_ret
      exact ⟨by rw [HV.out]; rfl, hb0⟩
  · have b1 : decide ((c.nums.length : Int) ≤ 300) = false := by simp; omega
    have HV : Hid (lightC c = false) := Lib.hid (by rw [HL.out]; simp [h1])
    clear h1 z1 z2
    go_wp2_with fail
    go_ret
    exact ⟨by rw [HV.out]; rfl, hb0⟩
/-- Two boxed cores that are the same one. -/
structure SmW (w : World) (c : Co) (na nb : Value) (wx : World) : Prop where
  ba : CB wx w.heap.size c na
  bb : CB wx (w.heap.size + 1) c nb
  sa : Sl 1 Rint nowhere wx na c.nums
  sb : Sl 1 Rint nowhere wx nb c.nums
  below : Below w.heap.size w wx
namespace SmW
variable {w wx wy : World} {c : Co} {na nb : Value}
theorem lt' (h : SmW w c na nb wx) : w.heap.size + 1 < wx.heap.size := Blk.lt h.bb
theorem keep (h : SmW w c na nb wx) (hb : Below wx.heap.size wx wy) : SmW w c na nb wy :=
  have := h.lt'
  ⟨h.ba.below hb (by omega), h.bb.below hb (by omega), Below.sl good_int hb h.sa, Below.sl good_int hb h.sb, h.below.trans (hb.mono (by omega))⟩
theorem drew (h : SmW w c na nb wx) : SmW w c na nb wx.drew := h.keep (Below.refl _ _).drew
end SmW
def sam0 (w : World) (c : Co) (na nb : Value) : World := (chk0 w c na).alloc (.cells #[.int .i64 c.epoch, nb, .string (bs c.letter), .string (bs c.pre), .int .i64 c.preNum, .int .i64 c.rev] 24)
theorem sam0_w (w : World) (c : Co) (na nb : Value) (ha : Sl 1 Rint nowhere w na c.nums) (hb : Sl 1 Rint nowhere w nb c.nums) : SmW w c na nb (sam0 w c na nb) := by
  have h0 : Below w.heap.size w (sam0 w c na nb) := ((Below.refl _ _).alloc (Nat.le_refl _) _).alloc (by simp [chk0]) _
  refine ⟨(Blk.new w 24 _).alloc _, ?_, Below.sl good_int h0 ha, Below.sl good_int h0 hb, h0⟩
  have := Blk.new (chk0 w c na) 24 #[.int .i64 c.epoch, nb, .string (bs c.letter), .string (bs c.pre), .int .i64 c.preNum, .int .i64 c.rev]
  rw [show (chk0 w c na).heap.size = w.heap.size + 1 by simp [chk0]] at this
  exact this
theorem int_neq (x : Int) : (x != x) = false := by simp
set_option maxRecDepth 100000 in
set_option maxHeartbeats 8000000 in
theorem rsame_any (c : Co) (na nb : Value) (w : World) (ha : Sl 1 Rint nowhere w na c.nums) (hb : Sl 1 Rint nowhere w nb c.nums) :
    Calls Tryz.prog 10 #[coV c na, coV c nb] w fun e w' => e = .returned (.bool true) ∧ Below w.heap.size w w' := by
  obtain ⟨A, ca, rfl, hc1, hc2⟩ := ha.form
  obtain ⟨B, cb, rfl, hd1, hd2⟩ := hb.form
  unfold maxLen at hc2 hd2
  have t0 := sam0_w w c _ _ ha hb
  have e1 : ((c.nums.length : Int) != (c.nums.length : Int)) = false := by simp
  have e2 := beq_bs c.letter
  have e3 := beq_bs c.pre
  have e4 : (c.epoch == c.epoch) = true := by simp
  have e6 : (c.preNum == c.preNum) = true := by simp
  have e7 : (c.rev == c.rev) = true := by simp
  show Calls Tryz.prog 10 #[.agg #[.int .i64 c.epoch, .slice A c.nums.length ca, .string (bs c.letter), .string (bs c.pre), .int .i64 c.preNum, .int .i64 c.rev], .agg #[.int .i64 c.epoch, .slice B c.nums.length cb, .string (bs c.letter), .string (bs c.pre), .int .i64 c.preNum, .int .i64 c.rev]] w _
  go_enter Tryz.func10, Tryz.ntmps10
  go_upto_region 1 with fail
  have hW : sam0 w c (.slice A c.nums.length ca) (.slice B c.nums.length cb) = (w.alloc (.cells #[.int .i64 c.epoch, .slice A c.nums.length ca, .string (bs c.letter), .string (bs c.pre), .int .i64 c.preNum, .int .i64 c.rev] 24)).alloc (.cells #[.int .i64 c.epoch, .slice B c.nums.length cb, .string (bs c.letter), .string (bs c.pre), .int .i64 c.preNum, .int .i64 c.rev] 24) := rfl
  rw [← hW]
  clear hW
  generalize sam0 w c (.slice A c.nums.length ca) (.slice B c.nums.length cb) = w0 at t0 ⊢
  clear ha hb
  have hAint : 0 < c.nums.length → ∃ b off, A = some ⟨b, off, none⟩ := fun h => by
    obtain ⟨_, _, _, b, off, rfl, _⟩ := t0.sa.ints h
    exact ⟨b, off, rfl⟩
  obtain ⟨d0, d1, d2, d3, d4, d5⟩ := t0.ba.cells
  obtain ⟨f0, f1, f2, f3, f4, f5⟩ := t0.bb.cells
  go_wp2_with fail
  go_loopg [5] c.nums.length (fun G s5 wx => ∃ k : Nat, k ≤ c.nums.length ∧ G = c.nums.length - k ∧ s5 = .int .i64 k ∧ SmW w c (.slice A c.nums.length ca) (.slice B c.nums.length cb) wx)
  case atStart => exact ⟨0, Nat.zero_le _, rfl, rfl, t0⟩
  case round =>
    clear d0 d1 d2 d3 d4 d5 f0 f1 f2 f3 f4 f5 t0
    obtain ⟨k, hk, rfl, rfl, t0⟩ := hrel
    obtain ⟨d0, d1, d2, d3, d4, d5⟩ := t0.ba.cells
    obtain ⟨f0, f1, f2, f3, f4, f5⟩ := t0.bb.cells
    by_cases hlt : k < c.nums.length
    · obtain ⟨_, _, _, b, off, rfl, hc⟩ := t0.sa.ints (by omega)
      obtain ⟨_, _, _, b', off', rfl, hc'⟩ := t0.sb.ints (by omega)
      have ck := hc k hlt
      have ck' := hc' k hlt
      clear hc hc'
      generalize c.nums[k] = x at ck ck'
      have e8 : (x != x) = false := by simp
      go_upto_region 6 with fail
      refine wp_region_plan (fun W => W.cell? ⟨w.heap.size, 1, none⟩ = some (.slice (some ⟨b, off, none⟩) c.nums.length ca) ∧ W.cell? ⟨w.heap.size + 1, 1, none⟩ = some (.slice (some ⟨b', off', none⟩) c.nums.length cb) ∧ W.cell? ⟨b, off + k, none⟩ = some (.int .i64 x) ∧ W.cell? ⟨b', off' + k, none⟩ = some (.int .i64 x)) [(false, 0), (false, 1), (false, 2), (false, 3), (false, 4), (false, 5), (false, 6), (false, 7), (false, 8), (false, 9), (false, 10)] (by kernel_rfl) (by kernel_rfl) (⟨by simpa using d1, by simpa using f1, by simpa using ck, by simpa using ck'⟩) ?_
      simp only [planOps, List.map, List.getD_cons_zero, List.getD_cons_succ]
      iterate 11 ((first | refine plan_quiet (v := ?_) rfl rfl (fun w' hw' => ?_) ?_ | refine plan_calm (v := ?_) (tt_of) rfl (fun w' hw' => ?_) ?_); rotate_left; (focus (go_simp <;> with_reducible rfl)); simp only [Act.put, List.setIfInBounds_toArray, List.set_cons_zero, List.set_cons_succ])
      refine plan_end ?_
      go_wp2_with fail
      go_roundg (c.nums.length - (k + 1))
      case measure => omega
      case rel => exact ⟨k + 1, by omega, rfl, by go_num, t0.drew⟩
    · obtain rfl : k = c.nums.length := by omega
      go_wp2_with fail
      go_ret
      exact ⟨rfl, t0.below⟩
end Go.Proofs.YtdfpdmddiapnmaaGreatDoor

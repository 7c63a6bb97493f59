/- Walks of the law's light and of the reference's Same. -/
import Derived.Test.YtdfpdmddiapnmaaDoorVmE
namespace Go.Proofs.YtdfpdmddiapnmaaDoor
open Go.RowKit
def lightC (c : Co) : Bool := decide (c.nums.length ≤ 300) && (decide (c.letter.length ≤ 100) && decide (c.pre.length ≤ 100))
theorem light_z (c : Co) (h : lightC c = true) : CoZ c := by
  simp only [lightC, Bool.and_eq_true, decide_eq_true_eq] at h
  exact ⟨h.1, h.2.1, h.2.2⟩
set_option maxHeartbeats 4000000 in
theorem vlight_any (c : Co) (nv : Value) (X : Nat → Prop) (w : World) (hsl0 : Sl 1 Rint X w nv c.nums) :
    Calls Tryd.prog 10 #[coV c nv] w fun e w' => e = .returned (.bool (lightC c)) ∧ Below w.heap.size w w' := by
  obtain ⟨A, cap, rfl, hc1, hc2⟩ := hsl0.form
  unfold maxLen at hc2
  have HL : Hid (lightC c = (decide (c.nums.length ≤ 300) && (decide (c.letter.length ≤ 100) && decide (c.pre.length ≤ 100)))) := Lib.hid rfl
  obtain ⟨t0, hb0, hz0⟩ := chk0_cb w c (.slice A c.nums.length cap)
  show Calls Tryd.prog 10 #[.agg #[.int .i64 c.epoch, .slice A c.nums.length cap, .string (bs c.letter), .string (bs c.pre), .int .i64 c.preNum, .int .i64 c.rev]] w _
  go_enter Tryd.func10, Tryd.ntmps10
  go_upto_region 1 with fail
  have hW : chk0 w c (.slice A c.nums.length cap) = w.alloc (.cells #[.int .i64 c.epoch, .slice A c.nums.length cap, .string (bs c.letter), .string (bs c.pre), .int .i64 c.preNum, .int .i64 c.rev] 30) := rfl
  rw [← hW]
  clear hW
  generalize chk0 w c (.slice A c.nums.length cap) = w0 at t0 hb0 hz0 ⊢
  clear hz0 hsl0
  obtain ⟨d0, d1, d2, d3, d4, d5⟩ := t0.cells
  have z1 : ((bs c.letter).size : Int) = (c.letter.length : Int) := by rw [bs_size]
  have z2 : ((bs c.pre).size : Int) = (c.pre.length : Int) := by rw [bs_size]
  by_cases h1 : c.nums.length ≤ 300
  · have b1 : decide ((c.nums.length : Int) ≤ 300) = true := by simp; omega
    by_cases h2 : c.letter.length ≤ 100
    · have b2 : decide (((bs c.letter).size : Int) ≤ 100) = true := by rw [z1]; simp; omega
      by_cases h3 : c.pre.length ≤ 100
      · have b3 : decide (((bs c.pre).size : Int) ≤ 100) = true := by rw [z2]; simp; omega
        have HV : Hid (lightC c = true) := Lib.hid (by rw [HL.out]; simp [h1, h2, h3])
        clear h1 h2 h3 z1 z2
        go_wp2_with fail
        go_ret
        exact ⟨by rw [HV.out]; rfl, hb0⟩
      · have b3 : decide (((bs c.pre).size : Int) ≤ 100) = false := by rw [z2]; simp; omega
        have HV : Hid (lightC c = false) := Lib.hid (by rw [HL.out]; simp [h3])
        clear h1 h2 h3 z1 z2
        go_wp2_with fail
        go_ret
        exact ⟨by rw [HV.out]; rfl, hb0⟩
    · have b2 : decide (((bs c.letter).size : Int) ≤ 100) = false := by rw [z1]; simp; omega
      have HV : Hid (lightC c = false) := Lib.hid (by rw [HL.out]; simp [h2])
      clear h1 h2 z1 z2
      go_wp2_with fail
      go_ret
      exact ⟨by rw [HV.out]; rfl, hb0⟩
  · have b1 : decide ((c.nums.length : Int) ≤ 300) = false := by simp; omega
    have HV : Hid (lightC c = false) := Lib.hid (by rw [HL.out]; simp [h1])
    clear h1 z1 z2
    go_wp2_with fail
    go_ret
    exact ⟨by rw [HV.out]; rfl, hb0⟩
end Go.Proofs.YtdfpdmddiapnmaaDoor

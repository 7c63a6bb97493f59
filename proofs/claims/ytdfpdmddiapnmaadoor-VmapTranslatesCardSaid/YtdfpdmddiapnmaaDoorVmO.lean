/- The walk of the reference's Translate, and of the law on translations. -/
import Derived.Test.YtdfpdmddiapnmaaDoorVmN
import Derived.Test.YtdfpdmddiapnmaaDoorVmH
namespace Go.Proofs.YtdfpdmddiapnmaaDoor
open Go.RowKit
theorem fmt_in (a : Int) : fmtOk a = true ↔ 1 ≤ a ∧ a ≤ 3 := by
  simp only [fmtOk, Bool.or_eq_true, decide_eq_true_eq]
  omega
set_option maxRecDepth 100000 in
set_option maxHeartbeats 8000000 in
theorem rvtrans_any (a b : Int) (s : List UInt8) (w : World) (hl : s.length ≤ 2000) :
    Calls Tryd.prog 9 #[.int .i64 a, .int .i64 b, .string (bs s)] w fun e w' => e = .returned (.tuple #[.string (bs (trC a b s).1), .int .i64 (trC a b s).2]) ∧ Below w.heap.size w w' := by
  have HP : Hid (trC a b s = if fmtOk a = true ∧ fmtOk b = true then (if (paC a s).2 = 0 then prC b (paC a s).1 else ([], (paC a s).2)) else ([], 9)) := Lib.hid rfl
  have bad : ∀ h : ¬ (fmtOk a = true ∧ fmtOk b = true), Hid (trC a b s = ([], 9)) := fun h => Lib.hid (by rw [HP.out, if_neg h])
  have HA := Lib.hid (fmt_in a)
  have HB := Lib.hid (fmt_in b)
  by_cases h1 : a < 1
  · have b1 : decide (a < 1) = true := by simpa using h1
    have HV := bad (fun h => by have := HA.out.1 h.1; omega)
    clear h1 bad
    go_enter Tryd.func9, Tryd.ntmps9
    go_wp2_with fail
    go_ret2
    exact ⟨by rw [HV.out]; rfl, Below.refl _ _⟩
  have b1 : decide (a < 1) = false := by simpa using h1
  by_cases h2 : 3 < a
  · have b2 : decide (3 < a) = true := by simpa using h2
    have HV := bad (fun h => by have := HA.out.1 h.1; omega)
    clear h1 h2 bad
    go_enter Tryd.func9, Tryd.ntmps9
    go_wp2_with fail
    go_ret2
    exact ⟨by rw [HV.out]; rfl, Below.refl _ _⟩
  have b2 : decide (3 < a) = false := by simpa using h2
  by_cases h3 : b < 1
  · have b3 : decide (b < 1) = true := by simpa using h3
    have HV := bad (fun h => by have := HB.out.1 h.2; omega)
    clear h1 h2 h3 bad
    go_enter Tryd.func9, Tryd.ntmps9
    go_wp2_with fail
    go_ret2
    exact ⟨by rw [HV.out]; rfl, Below.refl _ _⟩
  have b3 : decide (b < 1) = false := by simpa using h3
  by_cases h4 : 3 < b
  · have b4 : decide (3 < b) = true := by simpa using h4
    have HV := bad (fun h => by have := HB.out.1 h.2; omega)
    clear h1 h2 h3 h4 bad
    go_enter Tryd.func9, Tryd.ntmps9
    go_wp2_with fail
    go_ret2
    exact ⟨by rw [HV.out]; rfl, Below.refl _ _⟩
  have b4 : decide (3 < b) = false := by simpa using h4
  have HP2 : Hid (trC a b s = if (paC a s).2 = 0 then prC b (paC a s).1 else ([], (paC a s).2)) := Lib.hid (by rw [HP.out, if_pos ⟨HA.out.2 ⟨by omega, by omega⟩, HB.out.2 ⟨by omega, by omega⟩⟩])
  have HZ : Hid (CoZ (paC a s).1) := Lib.hid (paC_z a s)
  clear HP h1 h2 h3 h4 bad
  obtain ⟨⟨c, y⟩, Hp⟩ : ∃ p, Hid (paC a s = p) := ⟨_, Lib.hid rfl⟩
  have hpa := rvparse_any a s w hl
  rw [Hp.out] at hpa HP2 HZ
  go_enter Tryd.func9, Tryd.ntmps9
  go_wp2_with fail
  refine hpa.mono ?_
  rintro e w1 ⟨nv, rfl, hsl, hb1⟩
  obtain ⟨A, cap, rfl, hc1, hc2⟩ := hsl.form
  unfold maxLen at hc2
  unfold coV
  obtain ⟨t0, hb0, hz0⟩ := chk0_cb w1 c (.slice A c.nums.length cap)
  have hlt0 : w1.heap.size < (chk0 w1 c (.slice A c.nums.length cap)).heap.size := by omega
  clear hz0
  by_cases hy : y = 0
  · subst hy
    have HP3 : Hid (trC a b s = prC b c) := Lib.hid (by rw [HP2.out, if_pos rfl])
    clear HP2
    go_upto_region 4 with fail
    have hW : chk0 w1 c (.slice A c.nums.length cap) = w1.alloc (.cells #[.int .i64 c.epoch, .slice A c.nums.length cap, .string (bs c.letter), .string (bs c.pre), .int .i64 c.preNum, .int .i64 c.rev] 30) := rfl
    rw [← hW]
    clear hW
    generalize chk0 w1 c (.slice A c.nums.length cap) = w2 at t0 hb0 hlt0 ⊢
    obtain ⟨d0, d1, d2, d3, d4, d5⟩ := t0.cells
    have hb02 := hb1.trans (hb0.mono (by have := hb1.size; omega))
    go_wp2_with fail
    refine (rvprint_any b c _ _ _ (Below.sl good_int hb0 hsl) HZ.out).mono ?_
    rintro e w3 ⟨rfl, hb3⟩
    go_wp2_with fail
    go_ret2
    exact ⟨by rw [HP3.out]; rfl, hb02.trans (hb3.mono (by have := hb02.size; omega))⟩
  · have HV : Hid (trC a b s = ([], y)) := Lib.hid (by rw [HP2.out, if_neg hy])
    have b1 : (y != 0) = true := by simpa using hy
    clear hy
    go_wp2_with fail
    go_ret2
    exact ⟨by rw [HV.out]; rfl, hb1.trans (hb0.mono (by have := hb1.size; omega))⟩
theorem law_trans (a b : Int) (s : ByteArray) (w : World) (_ : I64 a) (_ : I64 b) (hs : s.size ≤ maxLen) (h2 : Tab w) (h1 : Words w) (h3 : Pres w) :
    Calls Tryd.prog 3 #[.int .i64 a, .int .i64 b, .string s] w fun e w' => e = .returned (.bool true) ∧ Below w.heap.size w w' := by
  obtain ⟨l, rfl⟩ : ∃ l, s = bs l := ⟨_, bs_self s⟩
  have h : VarV w := ⟨h1, h2, h3⟩
  clear hs h1 h2 h3
  have hz : ((bs l).size : Int) = (l.length : Int) := by rw [bs_size]
  go_enter Tryd.func3, Tryd.ntmps3
  go_wp2_with fail
  refine (awakeM _ h).mono ?_
  rintro e w1 ⟨rfl, hb1⟩
  have h1 := h.below hb1
  by_cases h2 : 2000 < l.length
  · have hd : decide ((2000 : Int) < ((bs l).size : Int)) = true := by rw [hz]; simp; omega
    go_wp2_with fail
    go_ret
    exact ⟨rfl, hb1⟩
  · have hd : decide ((2000 : Int) < ((bs l).size : Int)) = false := by rw [hz]; simp; omega
    have hl : l.length ≤ 2000 := by omega
    clear hz h2
    have c1 := vtrans_any a b l w1 hl h1.ww h1.tt h1.pp
    obtain ⟨⟨x, y⟩, H1⟩ : ∃ p, Hid (trC a b l = p) := ⟨_, Lib.hid rfl⟩
    rw [H1.out] at c1
    have e2 := beq_bs x
    have e3 : (y == y) = true := by simp
    go_wp2_with fail
    refine c1.mono ?_
    rintro e w2 ⟨rfl, hb2⟩
    have q2 := below_trans hb1 hb2
    have c2 := rvtrans_any a b l w2 hl
    rw [H1.out] at c2
    clear c1
    go_wp2_with fail
    refine c2.mono ?_
    rintro e w3 ⟨rfl, hb3⟩
    go_wp2_with fail
    go_ret
    exact ⟨rfl, below_trans q2 hb3⟩
end Go.Proofs.YtdfpdmddiapnmaaDoor

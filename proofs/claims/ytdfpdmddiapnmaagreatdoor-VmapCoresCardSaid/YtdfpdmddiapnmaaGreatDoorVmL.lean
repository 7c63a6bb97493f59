/- Walks of the reference's Print, begins and take of cores. -/
import Derived.Test.YtdfpdmddiapnmaaGreatDoorVmK
import Derived.Test.YtdfpdmddiapnmaaGreatDoorVmV
import Derived.Test.YtdfpdmddiapnmaaGreatDoorCodU
namespace Go.Proofs.YtdfpdmddiapnmaaGreatDoor
open Go.RowKit
set_option maxRecDepth 100000 in
set_option maxHeartbeats 8000000 in
theorem rvprint_any (f : Int) (c : Co) (nv : Value) (X : Nat → Prop) (w : World) (hsl0 : Sl 1 Rint X w nv c.nums) (hZ : CoZ c) :
    Calls Tryz.prog 7 #[.int .i64 f, coV c nv] w fun e w' => e = .returned (.tuple #[.string (bs (prC f c).1), .int .i64 (prC f c).2]) ∧ Below w.heap.size w w' := by
  have hsl := hsl0.any good_int (by omega)
  obtain ⟨A, cap, rfl, hc1, hc2⟩ := hsl.form
  unfold maxLen at hc2
  clear hsl0
  have HP : Hid (prC f c = if fmtOk f = true then (if fits f c = true then (textC f c, 0) else ([], 11)) else ([], 9)) := Lib.hid rfl
  have HFM : Hid (fmtOk f = (decide (f = 1) || decide (f = 2) || decide (f = 3))) := Lib.hid rfl
  obtain ⟨t0, hb0, hz0⟩ := chk0_cb w c (.slice A c.nums.length cap)
  have hlt0 : w.heap.size < (chk0 w c (.slice A c.nums.length cap)).heap.size := by omega
  clear hz0
  show Calls Tryz.prog 7 #[.int .i64 f, .agg #[.int .i64 c.epoch, .slice A c.nums.length cap, .string (bs c.letter), .string (bs c.pre), .int .i64 c.preNum, .int .i64 c.rev]] w _
  go_enter Tryz.func7, Tryz.ntmps7
  go_upto_region 1 with fail
  have hW : chk0 w c (.slice A c.nums.length cap) = w.alloc (.cells #[.int .i64 c.epoch, .slice A c.nums.length cap, .string (bs c.letter), .string (bs c.pre), .int .i64 c.preNum, .int .i64 c.rev] 24) := rfl
  rw [← hW]
  clear hW
  generalize chk0 w c (.slice A c.nums.length cap) = w0 at t0 hb0 hlt0 ⊢
  obtain ⟨d0, d1, d2, d3, d4, d5⟩ := t0.cells
  have hsl1 := Below.sl good_int hb0 hsl
  clear hsl
  by_cases h1 : f < 1
  · have b1 : decide (f < 1) = true := by simpa using h1
    have HV : Hid (prC f c = ([], 9)) := Lib.hid (by rw [HP.out, if_neg (by rw [HFM.out]; simp; omega)])
    clear h1
    go_wp2_with fail
    go_ret2
    exact ⟨by rw [HV.out]; rfl, hb0⟩
  have b1 : decide (f < 1) = false := by simpa using h1
  by_cases h2 : 3 < f
  · have b2 : decide (3 < f) = true := by simpa using h2
    have HV : Hid (prC f c = ([], 9)) := Lib.hid (by rw [HP.out, if_neg (by rw [HFM.out]; simp; omega)])
    clear h1 h2
    go_wp2_with fail
    go_ret2
    exact ⟨by rw [HV.out]; rfl, hb0⟩
  have b2 : decide (3 < f) = false := by simpa using h2
  have HP2 : Hid (prC f c = if fits f c = true then (textC f c, 0) else ([], 11)) := Lib.hid (by rw [HP.out, if_pos (by rw [HFM.out]; simp; omega)])
  have HF : Hid (fits f c = (coOk c && !(decide (f = 3) && (decide (c.epoch ≠ 0) || decide (64 < (textC f c).length))))) := Lib.hid rfl
  have HCK : Hid (chkC c = if coOk c = true then 0 else 11) := Lib.hid rfl
  have HI : Hid (f ≠ 3 → coOk c = true → (textC f c).length ≤ 64) := Lib.hid (fun hf hc => by
    have hF := fit_of 1 c (by rw [fits, hc]; rfl)
    have := hF.len
    rcases (show f = 1 ∨ f = 2 by omega) with rfl | rfl
    · omega
    · rw [text2]; omega)
  clear HP HFM h1 h2
  go_wp2_with fail
  refine (rvcheck_any c _ nowhere _ hsl1 hZ).mono ?_
  rintro e w1 ⟨rfl, hb1⟩
  cases hc : coOk c with
  | false =>
    have HK : Hid (chkC c = 11) := Lib.hid (by rw [HCK.out, if_neg (by rw [hc]; simp)])
    have HV : Hid (prC f c = ([], 11)) := Lib.hid (by rw [HP2.out, if_neg (by rw [HF.out, hc]; simp)])
    rw [HK.out]
    go_wp2_with fail
    go_ret2
    exact ⟨by rw [HV.out]; rfl, hb0.trans (hb1.mono (by omega))⟩
  | true =>
    have HK : Hid (chkC c = 0) := Lib.hid (by rw [HCK.out, if_pos hc])
    have HF2 : Hid (fits f c = !(decide (f = 3) && (decide (c.epoch ≠ 0) || decide (64 < (textC f c).length)))) := Lib.hid (by rw [HF.out, hc]; rfl)
    have hS : CoS c := coS_of c hZ (by have := coOk_eq c; rw [hc] at this; simp at this; exact this.2.1)
    have HS := Lib.hid hS
    have h64 := coOk_64 c hc
    have HI2 : Hid (f ≠ 3 → (textC f c).length ≤ 64) := Lib.hid (fun h => HI.out h hc)
    rw [HK.out]
    have t1 := t0.below hb1 hlt0
    have hb01 := hb0.trans (hb1.mono (by omega))
    have hsl2 := Below.sl good_int hb1 hsl1
    have hlt1 : w.heap.size < w1.heap.size := t1.lt
    have hz := bs_size
    clear d0 d1 d2 d3 d4 d5 hS hc HF HI t0 hb0 hb1 hlt0 hsl1
    obtain ⟨d0, d1, d2, d3, d4, d5⟩ := t1.cells
    by_cases hbad : f = 3 ∧ c.epoch ≠ 0
    · have HV : Hid (prC f c = ([], 11)) := Lib.hid (by rw [HP2.out, if_neg (by rw [HF2.out]; simp [hbad.1, hbad.2])])
      have b3 : (f == 3) = true := by simpa using hbad.1
      have b4 : (c.epoch != 0) = true := by simpa using hbad.2
      clear hbad
      go_wp2_with fail
      go_ret2
      exact ⟨by rw [HV.out]; rfl, hb01⟩
    have hor : (f == 3) = false ∨ ((f == 3) = true ∧ (c.epoch != 0) = false) := by
      by_cases h3 : f = 3
      · exact .inr ⟨by simpa using h3, by
          have : c.epoch = 0 := Classical.byContradiction fun h => hbad ⟨h3, h⟩
          rw [this]; rfl⟩
      · exact .inl (by simpa using h3)
    have H3 : Hid (f = 3 → c.epoch = 0) := Lib.hid (fun h => Classical.byContradiction fun h' => hbad ⟨h, h'⟩)
    have HFF : Hid (fits f c = !decide (64 < (textC f c).length)) := Lib.hid (by
      rw [HF2.out]
      by_cases h3 : f = 3
      · simp [h3, H3.out h3]
      · have := HI2.out h3
        simp [h3]
        omega)
    clear hbad
    rcases hor with b3 | ⟨b3, b4⟩
    all_goals
      go_wp2_with fail
      refine (rtext_any f c _ nowhere _ hsl2 HS.out (by omega) H3.out).mono ?_
      rintro e w2 ⟨rfl, hb2⟩
      have t2 := t1.below hb2 hlt1
      have hb02 := hb01.trans (hb2.mono (by omega))
      have hsl3 := Below.sl good_int hb2 hsl2
      have hlt2 : w.heap.size < w2.heap.size := t2.lt
      clear d0 d1 d2 d3 d4 d5
      obtain ⟨d0, d1, d2, d3, d4, d5⟩ := t2.cells
      by_cases hl : 64 < (textC f c).length
      · have HV : Hid (prC f c = ([], 11)) := Lib.hid (by rw [HP2.out, if_neg (by rw [HFF.out]; simp [hl])])
        go_wp2_with fail
        go_ret2
        exact ⟨by rw [HV.out]; rfl, hb02⟩
      · have HV : Hid (prC f c = (textC f c, 0)) := Lib.hid (by rw [HP2.out, if_pos (by rw [HFF.out]; simp; omega)])
        go_wp2_with fail
        refine (rtext_any f c _ nowhere _ hsl3 HS.out (by omega) H3.out).mono ?_
        rintro e w3 ⟨rfl, hb3⟩
        go_wp2_with fail
        go_ret2
        exact ⟨by rw [HV.out]; rfl, hb02.trans (hb3.mono (by omega))⟩
theorem pre_take (p q : List UInt8) (h : p.length ≤ q.length) : (q.take p.length == p) = p.isPrefixOf q := by
  rw [Bool.eq_iff_iff, beq_iff_eq, List.isPrefixOf_iff_prefix]
  constructor
  · intro e
    rw [← e]
    exact List.take_prefix _ _
  · rintro ⟨t, rfl⟩
    simp
theorem pre_long (p q : List UInt8) (h : q.length < p.length) : p.isPrefixOf q = false := by
  cases hh : p.isPrefixOf q with
  | false => rfl
  | true =>
    have := (List.isPrefixOf_iff_prefix.1 hh).length_le
    omega
theorem begins_any (q p : List UInt8) (w : World) (hq : q.length ≤ 1000000) (hp : p.length ≤ 1000000) : Calls Tryz.prog 26 #[.string (bs q), .string (bs p)] w fun e w' => e = .returned (.bool (p.isPrefixOf q)) ∧ w = w' := by
  have hz := bs_size
  by_cases h : p.length ≤ q.length
  · have HX : Hid ((bs q).extract 0 p.length = bs (q.take p.length)) := Lib.hid (ext_take _ _ (by rw [bs_size]; exact h))
    have HV := Lib.hid (pre_take p q h)
    have hx := HX.out
    have ht := toList_bs
    have h1 : (p.length : Int) ≤ (q.length : Int) := by omega
    go_enter Tryz.func26, Tryz.ntmps26
    go_wp2_with fail
    go_ret
    exact ⟨by rw [← HV.out]; rfl, rfl⟩
  · have HV := Lib.hid (pre_long p q (by omega))
    go_enter Tryz.func26, Tryz.ntmps26
    go_wp2_with fail
    go_ret
    exact ⟨by rw [HV.out]; rfl, rfl⟩
def gotV (x : Option (Int × List UInt8)) : Value := match x with
  | none => .agg #[.int .i64 0, .string ⟨#[]⟩, .bool false]
  | some y => .agg #[.int .i64 y.1, .string (bs y.2), .bool true]
end Go.Proofs.YtdfpdmddiapnmaaGreatDoor

/- Walks of para.valueRight: which texts are values of fields. -/
import Derived.Test.YthcgomainhaemaaDoorPaB
namespace Go.Proofs.YthcgomainhaemaaDoor
open Go.RowKit
theorem hasPre32 (s : List UInt8) (w : World) : Calls Tryd.prog 35 #[.string (bs s), .string ⟨#[32]⟩] w fun e w' => e = .returned (.bool (decide (s.head? = some 32))) ∧ w = w' :=
  (Tryd.strings_HasPrefix (bs s) ⟨#[32]⟩ w).mono fun e w' ⟨h1, h2⟩ => ⟨by
    rw [h1, bs_list]
    cases s with
    | nil => rfl
    | cons c t =>
      have : Lib.hasPrefix (c :: t) [32] = decide (c = 32) := by
        rw [Bool.eq_iff_iff]
        simp [Lib.hasPrefix, List.isPrefixOf]
        exact eq_comm
      show Ending.returned (.bool (Lib.hasPrefix (c :: t) [32])) = _
      rw [this]; simp, h2.symm⟩
theorem hasSuf32 (s : List UInt8) (w : World) (hs : s.length ≤ 1000000000) : Calls Tryd.prog 36 #[.string (bs s), .string ⟨#[32]⟩] w fun e w' => e = .returned (.bool (decide (s.getLast? = some 32))) ∧ w = w' :=
  (Tryd.strings_HasSuffix (bs s) ⟨#[32]⟩ w (by rw [bs_size]; omega)).mono fun e w' ⟨h1, h2⟩ => ⟨by
    rw [h1, bs_list]
    have : Lib.hasSuffix s [32] = decide (s.getLast? = some 32) := by
      rw [Bool.eq_iff_iff]
      simp only [Lib.hasSuffix, List.isSuffixOf_iff_suffix, decide_eq_true_eq, List.getLast?_eq_some_iff]
      exact ⟨fun ⟨t, ht⟩ => ⟨t, ht.symm⟩, fun ⟨t, ht⟩ => ⟨t, ht.symm⟩⟩
    show Ending.returned (.bool (Lib.hasSuffix s [32])) = _
    rw [this], h2.symm⟩
theorem idx_cons (c b : UInt8) (t : List UInt8) : Lib.indexByte (c :: t) b = if c = b then 0 else if Lib.indexByte t b < 0 then -1 else Lib.indexByte t b + 1 := by
  have hge := Lib.indexByte_ge t b
  rw [Lib.indexByte]
  by_cases h : c = b
  · simp [h]
  · simp [h]
    split <;> split <;> omega
theorem cut_cons (c b : UInt8) (t : List UInt8) : (inB (c :: t) b = if c = b then true else inB t b) ∧ (cutA (c :: t) b = if c = b then [] else c :: cutA t b) ∧ (cutB (c :: t) b = if c = b then t else cutB t b) := by
  have hge := Lib.indexByte_ge t b
  have hi := idx_cons c b t
  by_cases h : c = b
  · rw [if_pos h] at hi
    subst h
    simp [inB, cutA, cutB, hi]
  · rw [if_neg h] at hi
    by_cases h2 : Lib.indexByte t b < 0
    · rw [if_pos h2] at hi
      have : ¬ (0 : Int) ≤ Lib.indexByte t b := by omega
      simp [inB, cutA, cutB, hi, h, this]
    · rw [if_neg h2] at hi
      obtain ⟨k, hk⟩ := Int.eq_ofNat_of_zero_le (show 0 ≤ Lib.indexByte t b by omega)
      have e1 : ((k : Int) + 1).toNat = k + 1 := by omega
      have e2 : (0 : Int) ≤ (k : Int) + 1 := by omega
      simp [inB, cutA, cutB, hi, h, hk, e1, e2]
theorem splitP_cut (b : UInt8) (l : List UInt8) : ∀ a, splitP b l a = if inB l b = true then (a ++ cutA l b) :: splitB b (cutB l b) else [a ++ l] := by
  induction l with
  | nil => intro a; simp [splitP, inB, Lib.indexByte]
  | cons c t ih =>
    intro a
    obtain ⟨h1, h2, h3⟩ := cut_cons c b t
    rw [h1, h2, h3, splitP]
    by_cases h : c = b
    · simp [h, splitB]
    · simp only [if_neg h]
      rw [ih]
      simp
theorem splitB_cut (b : UInt8) (l : List UInt8) : splitB b l = if inB l b = true then cutA l b :: splitB b (cutB l b) else [l] := by
  rw [splitB, splitP_cut]; simp
theorem cutB_len (l : List UInt8) (b : UInt8) : (cutB l b).length ≤ l.length ∧ (inB l b = true → (cutB l b).length < l.length) := by
  rw [cutB]
  have := indexByte_lt l b
  have hge := Lib.indexByte_ge l b
  split
  · rename_i h
    simp only [inB, decide_eq_true_eq] at h
    rw [List.length_drop]
    exact ⟨by omega, fun _ => by omega⟩
  · rename_i h
    exact ⟨by simp, fun h' => absurd h' h⟩
theorem cutA_len (l : List UInt8) (b : UInt8) : (cutA l b).length ≤ l.length := by
  rw [cutA]
  split
  · rw [List.length_take]; omega
  · exact Nat.le_refl _
def rV (r : List UInt8) (m : Bool) : Bool := if m = true then (splitB 10 r).all (fun x => !blankL x) else true
theorem rV_step (r : List UInt8) : rV r true = (!blankL (cutA r 10) && rV (cutB r 10) (inB r 10)) := by
  rw [rV, if_pos rfl, splitB_cut, rV]
  split
  · simp
  · rename_i h
    rw [cutA, if_neg h]; simp
theorem valOk_cut (s : List UInt8) : valOk s = (!ctlB s && (bareB (cutA s 10) && rV (cutB s 10) (inB s 10))) := by
  rw [valOk, splitB_cut, rV]
  split
  · simp [linesOk]
  · rename_i h
    rw [cutA, if_neg h]; simp [linesOk]
set_option maxRecDepth 20000 in
set_option maxHeartbeats 8000000 in
theorem pvalue_any (s : List UInt8) (w : World) (hs : s.length ≤ 1000000000) : Calls Tryd.prog 24 #[.string (bs s)] w fun e w' => e = .returned (.bool (valOk s)) ∧ Below w.heap.size w w' := by
  have HV := Lib.hid (valOk_cut s)
  go_enter Tryd.func24, Tryd.ntmps24
  go_wp2_with fail
  refine (ctl_any s _ hs).mono ?_
  rintro e w1 ⟨rfl, hb1⟩
  cases hc : ctlB s with
  | true =>
    have HX : Hid (valOk s = false) := Lib.hid (by rw [HV.out, hc]; rfl)
    go_wp2_with fail
    go_ret
    exact ⟨by rw [HX.out]; rfl, hb1⟩
  | false =>
    have HW : Hid (valOk s = (bareB (cutA s 10) && rV (cutB s 10) (inB s 10))) := Lib.hid (by rw [HV.out, hc]; rfl)
    clear HV hc
    have hA := cutA_len s 10
    have hB := (cutB_len s 10).1
    go_wp2_with fail
    have hC := cut_any (bs s) 10 w1 (by rw [bs_size]; omega)
    rw [bs_list] at hC
    generalize cutA s 10 = a at hC hA HW
    generalize cutB s 10 = r at hC hB HW
    generalize inB s 10 = m at hC HW
    refine hC.mono ?_
    rintro e w2 ⟨rfl, hb2⟩
    have hb := hb1.trans (hb2.mono hb1.size)
    clear hb1 hb2 hC
    cases hh : decide (a.head? = some 32) with
    | true =>
      have HX : Hid (valOk s = false) := Lib.hid (by rw [HW.out, bareB, hh]; rfl)
      clear HW hA hB
      go_wp2_with fail
      refine (hasPre32 a w2).mono ?_
      rintro e w3 ⟨rfl, rfl⟩
      rw [hh]
      go_wp2_with fail
      go_ret
      exact ⟨by rw [HX.out]; rfl, hb⟩
    | false =>
      go_wp2_with fail
      refine (hasPre32 a w2).mono ?_
      rintro e w3 ⟨rfl, rfl⟩
      rw [hh]
      go_wp2_with fail
      refine (hasSuf32 a w2 (by omega)).mono ?_
      rintro e w3 ⟨rfl, rfl⟩
      cases hl : decide (a.getLast? = some 32) with
      | true =>
        have HX : Hid (valOk s = false) := Lib.hid (by rw [HW.out, bareB, hh, hl]; rfl)
        clear HW hA hB hh hl
        go_wp2_with fail
        go_ret
        exact ⟨by rw [HX.out]; rfl, hb⟩
      | false =>
        have HX : Hid (valOk s = rV r m) := Lib.hid (by rw [HW.out, bareB, hh, hl]; rfl)
        clear HW hA hh hl
        go_wp2_with fail
        go_loopg [4, 5] (r.length + (if m = true then 1 else 0)) (fun G s4 s5 wr => ∃ (q : List UInt8) (m : Bool), q.length ≤ s.length ∧ G = q.length + (if m = true then 1 else 0) ∧ s4 = .string (bs q) ∧ s5 = .bool m ∧ Below w.heap.size w wr ∧ Hid (valOk s = rV q m))
        case atStart => exact ⟨r, m, hB, rfl, rfl, rfl, hb, HX⟩
        case round =>
          clear HX hB hb
          obtain ⟨q, m, hq, rfl, rfl, rfl, hb, HE⟩ := hrel
          cases m with
          | false =>
            have HX : Hid (valOk s = true) := Lib.hid (by rw [HE.out]; rfl)
            clear HE
            go_wp2_with fail
            go_ret
            exact ⟨by rw [HX.out]; rfl, hb⟩
          | true =>
            have HE2 : Hid (valOk s = (!blankL (cutA q 10) && rV (cutB q 10) (inB q 10))) := Lib.hid (by rw [HE.out, rV_step])
            clear HE
            have hA := cutA_len q 10
            have hB := cutB_len q 10
            have hB0 : inB q 10 = false → (cutB q 10).length = 0 := fun h => by rw [cutB, if_neg (by rw [h]; simp)]; rfl
            have hC := cut_any (bs q) 10 wr (by rw [bs_size]; omega)
            rw [bs_list] at hC
            generalize cutA q 10 = a at hC hA HE2
            generalize cutB q 10 = r at hC hB hB0 HE2
            generalize inB q 10 = m at hC hB hB0 HE2
            go_wp2_with fail
            refine hC.mono ?_
            rintro e w2 ⟨rfl, hb2⟩
            have hb' := hb.trans (hb2.mono hb.size)
            clear hb2 hC hb
            go_wp2_with fail
            refine (blank_any a w2 (by omega)).mono ?_
            rintro e w3 ⟨rfl, hb3⟩
            have hb := hb'.trans (hb3.mono hb'.size)
            clear hb3 hb'
            cases hl : blankL a with
            | true =>
              have HX : Hid (valOk s = false) := Lib.hid (by rw [HE2.out, hl]; rfl)
              clear HE2
              go_wp2_with fail
              go_ret
              exact ⟨by rw [HX.out]; rfl, hb⟩
            | false =>
              have HX : Hid (valOk s = rV r m) := Lib.hid (by rw [HE2.out, hl]; rfl)
              clear HE2
              go_wp2_with fail
              go_roundg (r.length + (if m = true then 1 else 0))
              case measure =>
                cases m with
                | true => have := hB.2 rfl; simp; omega
                | false => have := hB0 rfl; simp; omega
              case rel => exact ⟨r, m, by omega, rfl, rfl, rfl, hb, HX⟩
end Go.Proofs.YthcgomainhaemaaDoor

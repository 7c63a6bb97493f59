/- The walk of the law on which texts are versions. -/
import Derived.Test.YtdnncbhbajciaaaDoorVerW
import Derived.Test.YtdnncbhbajciaaaDoorVerR
namespace Go.Proofs.YtdnncbhbajciaaaDoor
open Go.RowKit
set_option maxRecDepth 20000 in
set_option maxHeartbeats 1000000 in
theorem rcheck_any (f : Int) (l : List UInt8) (w : World) (hl : l.length ≤ 1000000) : Calls Tryd.prog 12 #[.int .i64 f, .string (bs l)] w fun e w' => e = .returned (.int .i64 (vErr f l)) ∧ Below w.heap.size w w' := by
  have hz : ((bs l).size : Int) = (l.length : Int) := by rw [bs_size]
  by_cases h1 : f < 1
  · have d1 : decide (f < 1) = true := by simpa using h1
    have HV : Hid (vErr f l = 9) := Lib.hid (by rw [vErr, if_neg (by omega)])
    clear h1
    go_enter Tryd.func12, Tryd.ntmps12
    go_wp2_with fail
    go_ret
    exact ⟨by rw [HV.out]; rfl, Below.refl _ _⟩
  · have d1 : decide (f < 1) = false := by simpa using h1
    by_cases h3 : 3 < f
    · have d3 : decide (3 < f) = true := by simpa using h3
      have HV : Hid (vErr f l = 9) := Lib.hid (by rw [vErr, if_neg (by omega)])
      clear h1 h3
      go_enter Tryd.func12, Tryd.ntmps12
      go_wp2_with fail
      go_ret
      exact ⟨by rw [HV.out]; rfl, Below.refl _ _⟩
    · have d3 : decide (3 < f) = false := by simpa using h3
      have hf : f = 1 ∨ f = 2 ∨ f = 3 := by omega
      by_cases hlong : 64 < l.length
      · have hd : decide ((64 : Int) < ((bs l).size : Int)) = true := by rw [hz]; simp; omega
        have HV : Hid (vErr f l = 4) := Lib.hid (by rw [vErr, if_pos hf, if_pos hlong])
        clear h1 h3 hz hf
        go_enter Tryd.func12, Tryd.ntmps12
        go_wp2_with fail
        go_ret
        exact ⟨by rw [HV.out]; rfl, Below.refl _ _⟩
      · have hd : decide ((64 : Int) < ((bs l).size : Int)) = false := by rw [hz]; simp; omega
        have HV : Hid (vErr f l = if vOk f l = true then 0 else 3) := Lib.hid (by rw [vErr, if_pos hf, if_neg hlong])
        have HF := Lib.hid hf
        clear h1 h3 hz hf
        have hfd : ∀ (a b c d : Value) (w : World), (Instr.field 28 (.agg #[a, b, c, d]) 3).run Tryd.prog w = .ok d w := fun _ _ _ _ _ => by kernel_rfl
        go_enter Tryd.func12, Tryd.ntmps12
        go_wp2_with fail
        refine (part_any f HF.out l _ hl).mono ?_
        rintro e w1 ⟨rfl, hb1⟩
        generalize (if vOk f l = true then vPart f l else ([], [], [])) = pt
        cases hok : vOk f l with
        | true =>
          go_wp2_with fail
          go_ret
          exact ⟨by rw [HV.out, hok]; rfl, hb1⟩
        | false =>
          go_wp2_with fail
          go_ret
          exact ⟨by rw [HV.out, hok]; rfl, hb1⟩
set_option maxRecDepth 20000 in
set_option maxHeartbeats 8000000 in
theorem law_checks (f : Int) (s : ByteArray) (w : World) (_ : -9223372036854775808 ≤ f ∧ f ≤ 9223372036854775807) (hs : s.size ≤ maxLen) (hw : Words w) :
    Calls Tryd.prog 3 #[.int .i64 f, .string s] w fun e w' => e = .returned (.bool true) ∧ Below w.heap.size w w' := by
  obtain ⟨a, rfl⟩ : ∃ l, s = bs l := ⟨_, bs_self s⟩
  clear hs
  by_cases ha : 2000 < a.length
  · have da := isLong a ha
    go_enter Tryd.func3, Tryd.ntmps3
    go_wp2_with fail
    refine (awakeV _ hw).mono ?_
    rintro e w1 ⟨rfl, hb1⟩
    go_wp2_with fail
    go_ret
    exact ⟨rfl, hb1⟩
  · have da := notLong a ha
    go_enter Tryd.func3, Tryd.ntmps3
    go_wp2_with fail
    refine (awakeV _ hw).mono ?_
    rintro e w1 ⟨rfl, hb1⟩
    have hw1 := hw.below hb1
    go_wp2_with fail
    refine (split_any f a _ (by omega) hw1).mono ?_
    rintro e w2 ⟨rfl, hb2⟩
    have hw2 := hw1.below hb2
    go_wp2_with fail
    refine (rcheck_any f a _ (by omega)).mono ?_
    rintro e w3 ⟨rfl, hb3⟩
    have hw3 := hw2.below hb3
    go_wp2_with fail
    refine (check_any f a _ (by omega) hw3).mono ?_
    rintro e w4 ⟨rfl, hb4⟩
    have q4 := below_trans hb1 (below_trans hb2 (below_trans hb3 hb4))
    clear hb1 hb2 hb3 hb4 hw1 hw2 hw3
    obtain ⟨n, Hn⟩ : ∃ n, Hid (vErr f a = n) := ⟨_, Lib.hid rfl⟩
    rw [vSplit, Hn.out]
    have hnn : (n != n) = false := by simp
    by_cases h0 : n = 0
    · subst h0
      rw [if_pos rfl]
      obtain ⟨hl, hf, hok⟩ := vErr_small f a Hn.out
      have HF := Lib.hid hf
      clear hf
      go_wp2_with fail
      refine (part_any f HF.out a _ (by omega)).mono ?_
      rintro e w5 ⟨rfl, hb5⟩
      rw [hok, if_pos rfl]
      have q5 := below_trans q4 hb5
      clear hb5 q4 hok
      obtain ⟨x, y, z⟩ := vPart f a
      have e1 := beq_bs x
      have e2 := beq_bs y
      have e3 := beq_bs z
      go_wp2_with fail
      go_ret
      exact ⟨rfl, q5.alloc (by have := q5.size; omega) _⟩
    · have hn0 : (n != 0) = true := by simpa using h0
      rw [if_neg h0]
      clear h0
      have hn1 : (bs []).toList = [] := toList_bs []
      have hn2 : (bs []).toList.isEmpty = true := by rw [toList_bs]; rfl
      go_wp2_with fail
      go_ret
      exact ⟨rfl, q4⟩
end Go.Proofs.YtdnncbhbajciaaaDoor

/- The walk of the law on what is wrong with paragraphs, and how they are written. -/
import Derived.Test.YthcgomainhaemaaDoorPbA
namespace Go.Proofs.YthcgomainhaemaaDoor
open Go.RowKit
set_option maxRecDepth 20000 in
set_option maxHeartbeats 8000000 in
theorem law_printsP (v : Value) (l : List (List Fd)) (w : World) (hsl : Sl 1 Rpara nowhere w v l) (hm : MaxC w) :
    Calls Tryd.prog 3 #[v] w fun e w' => e = .returned (.bool true) ∧ Below w.heap.size w w' := by
  have hml := hm.lt
  go_enter Tryd.func3, Tryd.ntmps3
  go_wp2_with fail
  refine (awakeP _ hm).mono ?_
  rintro e w1 ⟨rfl, hb1⟩
  have hsl1 := Below.sl good_para hb1 hsl
  go_wp2_with fail
  refine (plight_any l v nowhere _ hsl1).mono ?_
  rintro e w2 ⟨rfl, hb2⟩
  have hsl2 := Below.sl good_para hb2 hsl1
  have q2 := below_trans hb1 hb2
  have hm2 := hm.below hml q2
  clear hsl1 hb1 hb2 hsl
  cases hL : lightP l with
  | false =>
    go_wp2_with fail
    go_ret
    exact ⟨rfl, q2⟩
  | true =>
    obtain ⟨hF, hT⟩ := light_w l hL
    have HF := Lib.hid hF
    clear hL hF
    go_wp2_with fail
    refine (pprint_any l v nowhere _ hsl2 HF.out (by omega) hm2).mono ?_
    rintro e w3 ⟨rfl, hb3⟩
    have hsl3 := Below.sl good_para hb3 hsl2
    have q3 := below_trans q2 hb3
    clear hsl2 hb3 q2
    go_wp2_with fail
    refine (rprint_any l v nowhere _ hsl3 HF.out (by omega)).mono ?_
    rintro e w4 ⟨rfl, hb4⟩
    have hsl4 := Below.sl good_para hb4 hsl3
    have q4 := below_trans q3 hb4
    clear hsl3 hb4 q3
    obtain ⟨x, y⟩ := printP l
    have e1 := beq_bs x
    have e2 : (y == y) = true := by simp
    go_wp2_with fail
    refine (pcheck_any l v nowhere _ hsl4 HF.out).mono ?_
    rintro e w5 ⟨rfl, hb5⟩
    have hsl5 := Below.sl good_para hb5 hsl4
    have q5 := below_trans q4 hb5
    clear hsl4 hb5 q4
    go_wp2_with fail
    refine (rcheck_any l v nowhere _ hsl5 HF.out).mono ?_
    rintro e w6 ⟨rfl, hb6⟩
    have q6 := below_trans q5 hb6
    obtain ⟨c, Hc⟩ : ∃ c, Hid (chkP l = c) := ⟨_, Lib.hid rfl⟩
    rw [Hc.out]
    have e3 : (c == c) = true := by simp
    go_wp2_with fail
    go_ret
    exact ⟨rfl, q6⟩
end Go.Proofs.YthcgomainhaemaaDoor

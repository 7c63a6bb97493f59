/- The walk of what the document tells of adep ahead of each law. -/
import Derived.Test.YtfpdlmddakgilaaDoorAdD
import Derived.Test.YtfpdlmddakgilaaDoorAeC
namespace Go.Proofs.YtfpdlmddakgilaaDoor
open Go.RowKit
def awA1 : List UInt8 := [32, 97, 62, 61, 49, 46, 50, 45, 114, 48, 32, 32, 33, 115, 111, 58, 108, 105, 98, 120, 46, 115, 111, 46, 49, 32, 99, 109, 100, 58, 115, 104, 126, 49, 32]
def awA2 : List UInt8 := [97, 61, 62, 49]
def awAL : List Wt := [⟨false, [97], 4, [49, 46, 50, 45, 114, 48]⟩, ⟨true, [115, 111, 58, 108, 105, 98, 120, 46, 115, 111, 46, 49], 0, []⟩, ⟨false, [99, 109, 100, 58, 115, 104], 6, [49]⟩]
def awAT : List UInt8 := [97, 62, 61, 49, 46, 50, 45, 114, 48, 32, 33, 115, 111, 58, 108, 105, 98, 120, 46, 115, 111, 46, 49, 32, 99, 109, 100, 58, 115, 104, 126, 49]
set_option maxRecDepth 100000 in
theorem awA_p1 : parseA awA1 = (awAL, 0, 0) := by kernel_rfl
set_option maxRecDepth 100000 in
theorem awA_p2 : parseA awA2 = ([], 2, 3) := by kernel_rfl
theorem awA_s : printA awAL = (awAT, 0) := by kernel_rfl
theorem awA_list : (bs awAT).toList = [97, 62, 61, 49, 46, 50, 45, 114, 48, 32, 33, 115, 111, 58, 108, 105, 98, 120, 46, 115, 111, 46, 49, 32, 99, 109, 100, 58, 115, 104, 126, 49] := by decide +kernel
theorem awA_light : lightA awAL = true := by decide +kernel
set_option maxRecDepth 20000 in
set_option maxHeartbeats 4000000 in
theorem awakeA (w : World) (hw : Words w) (hg : SignsA w) (he : ErrT w) : Calls Tryd.prog 5 #[] w fun e w' => e = .returned (.bool true) ∧ Below w.heap.size w w' := by
  go_enter Tryd.func5, Tryd.ntmps5
  go_wp2_with fail
  refine (aparse_any awA1 _ (by decide) hw hg he).mono ?_
  rw [awA_p1]
  rintro e w1 ⟨⟨v, rfl, hsl⟩, hb1⟩
  obtain ⟨A, cap, rfl, _, _⟩ := hsl.form
  have hw1 := hw.below hb1
  have hg1 := hg.below hb1
  have he1 := he.below hb1
  have ha : Below w1.heap.size w1 (w1.alloc (.cells #[.string ⟨#[]⟩, .int .i64 0, .int .i64 0] 26)) := (Below.refl _ _).alloc (Nat.le_refl _) _
  have b1 := Blk.new w1 26 #[.string ⟨#[]⟩, .int .i64 0, .int .i64 0]
  go_wp2_with fail
  have hsl1 := Below.sl good_want ha hsl
  have hw1 := hw1.below ha
  have hg1 := hg1.below ha
  have he1 := he1.below ha
  have q1 := below_trans hb1 ha
  generalize w1.alloc (.cells #[.string ⟨#[]⟩, .int .i64 0, .int .i64 0] 26) = W1 at hsl1 hw1 hg1 he1 q1 b1 ⊢
  refine (aprint_any awAL _ (old w.heap.size) _ hsl1 (light_as awAL awA_light) hw1 hg1).mono ?_
  rw [awA_s]
  rintro e w2 ⟨rfl, hb2⟩
  have b2 := (Kept.of_below hb2 nowhere).blk b1 (fun h => h)
  have hw2 := hw1.below hb2
  have hg2 := hg1.below hb2
  have he2 := he1.below hb2
  have q2 := below_trans q1 hb2
  clear hsl hsl1 hb1 hw1 hg1 he1 ha b1 hb2
  go_wp2_with fail
  refine (aparse_any awA2 _ (by decide) hw2 hg2 he2).mono ?_
  rw [awA_p2]
  rintro e w3 ⟨⟨v3, rfl, hsl3⟩, hb3⟩
  obtain ⟨A3, cap3, rfl, _, _⟩ := hsl3.form
  have b3 := (Kept.of_below hb3 nowhere).blk b2 (fun h => h)
  have q3 := below_trans q2 hb3
  have c0 := (b3.alloc (.cells #[.string ⟨#[]⟩, .int .i64 2, .int .i64 3] 26)).cell 0
  have c1 := (b3.alloc (.cells #[.string ⟨#[]⟩, .int .i64 2, .int .i64 3] 26)).cell 1
  have c2 := (b3.alloc (.cells #[.string ⟨#[]⟩, .int .i64 2, .int .i64 3] 26)).cell 2
  have bN := Blk.new w3 26 #[.string ⟨#[]⟩, .int .i64 2, .int .i64 3]
  have z0 : (w3.alloc (.cells #[.string ⟨#[]⟩, .int .i64 2, .int .i64 3] 26)).cell? ⟨w3.heap.size, 0, none⟩ = some (.string ⟨#[]⟩) := bN.cell 0
  have z1 : (w3.alloc (.cells #[.string ⟨#[]⟩, .int .i64 2, .int .i64 3] 26)).cell? ⟨w3.heap.size, 1, none⟩ = some (.int .i64 2) := bN.cell 1
  have z2 : (w3.alloc (.cells #[.string ⟨#[]⟩, .int .i64 2, .int .i64 3] 26)).cell? ⟨w3.heap.size, 2, none⟩ = some (.int .i64 3) := bN.cell 2
  simp at c0 c1 c2
  have q4 := q3.alloc (by have := q3.size; omega) (.cells #[.string ⟨#[]⟩, .int .i64 2, .int .i64 3] 26)
  clear hsl3 hb3 b2 hw2 hg2 he2 q2 b3 bN
  have eT := awA_list
  go_upto_region 4 with fail
  generalize w3.alloc (.cells #[.string ⟨#[]⟩, .int .i64 2, .int .i64 3] 26) = W4 at c0 c1 c2 z0 z1 z2 q4 ⊢
  go_wp2_with fail
  go_ret
  exact ⟨rfl, q4⟩
end Go.Proofs.YtfpdlmddakgilaaDoor

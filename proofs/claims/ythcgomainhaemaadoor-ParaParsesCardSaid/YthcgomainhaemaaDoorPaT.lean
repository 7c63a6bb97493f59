/- The walk of para's awake. -/
import Derived.Test.YthcgomainhaemaaDoorPaR
namespace Go.Proofs.YthcgomainhaemaaDoor
open Go.RowKit
theorem goP_at (r r' : List UInt8) (a a' : Int) (s s' : PSt) (h : r ≠ []) (h2 : lineP s (lineOf r) = (s', 0)) (h3 : r.drop ((lineOf r).length + 1) = r') (h4 : a + (lineOf r).length + 1 = a') : goP r a s = goP r' a' s' := by
  rw [goP_next r a s h (by rw [h2]), h2, h3, h4]
theorem goP_err (r : List UInt8) (a : Int) (s s' : PSt) (e : Int) (h : r ≠ []) (h2 : lineP s (lineOf r) = (s', e)) (he : e ≠ 0) : goP r a s = ([], a, e) := by
  rw [goP_bad r a s h (by rw [h2]; exact he), h2]
def awP1 : List UInt8 := [65, 58, 32, 120, 10, 32, 32, 121, 10, 10, 66, 32, 58, 10]
def awP2 : List UInt8 := [65, 58, 32, 49, 10, 65, 58, 32, 50]
def awPL : List (List Fd) := [[([65], [120, 10, 32, 121])], [([66], [])]]
def awPS : List UInt8 := [65, 58, 32, 120, 10, 32, 32, 121, 10, 10, 66, 58, 10]
theorem awP_p1 : parseP awP1 = (awPL, 0, 0) := by
  rw [parseP, goP_at awP1 [32, 32, 121, 10, 10, 66, 32, 58, 10] 0 5 ⟨[], []⟩ ⟨[], [([65], [120])]⟩ (by decide) (by rfl) (by rfl) (by rfl),
    goP_at [32, 32, 121, 10, 10, 66, 32, 58, 10] [10, 66, 32, 58, 10] 5 9 ⟨[], [([65], [120])]⟩ ⟨[], [([65], [120, 10, 32, 121])]⟩ (by decide) (by rfl) (by rfl) (by rfl),
    goP_at [10, 66, 32, 58, 10] [66, 32, 58, 10] 9 10 ⟨[], [([65], [120, 10, 32, 121])]⟩ ⟨[[([65], [120, 10, 32, 121])]], []⟩ (by decide) (by rfl) (by rfl) (by rfl),
    goP_at [66, 32, 58, 10] [] 10 14 ⟨[[([65], [120, 10, 32, 121])]], []⟩ ⟨[[([65], [120, 10, 32, 121])]], [([66], [])]⟩ (by decide) (by rfl) (by rfl) (by rfl), goP_nil]
  rfl
theorem awP_p2 : parseP awP2 = ([], 5, 8) := by
  rw [parseP, goP_at awP2 [65, 58, 32, 50] 0 5 ⟨[], []⟩ ⟨[], [([65], [49])]⟩ (by decide) (by rfl) (by rfl) (by rfl),
    goP_err [65, 58, 32, 50] 5 ⟨[], [([65], [49])]⟩ _ 8 (by decide) (by rfl) (by decide)]
theorem awP_chk : chkP awPL = 0 := by
  rcases parse_right awP1 with ⟨_, h⟩ | ⟨h, _⟩
  · rw [awP_p1] at h; exact h
  · rw [awP_p1] at h; cases h
theorem awP_ps : PS awPL ∧ (parasT awPL).length ≤ 1000000 := ps_of awPL (by decide)
theorem awP_s : printP awPL = (awPS, 0) := by rw [printP, if_pos awP_chk]; rfl
set_option maxRecDepth 20000 in
set_option maxHeartbeats 4000000 in
theorem awakeP (w : World) (hm : MaxC w) : Calls Tryd.prog 7 #[] w fun e w' => e = .returned (.bool true) ∧ Below w.heap.size w w' := by
  go_enter Tryd.func7, Tryd.ntmps7
  go_wp2_with fail
  refine (pparse_any awP1 _ (by decide)).mono ?_
  rw [awP_p1]
  rintro e w1 ⟨⟨v, rfl, hsl⟩, hb1⟩
  obtain ⟨A, cap, rfl, _, _⟩ := hsl.form
  have ha : Below w1.heap.size w1 (w1.alloc (.cells #[.string ⟨#[]⟩, .int .i64 0, .int .i64 0] 30)) := (Below.refl _ _).alloc (Nat.le_refl _) _
  have b1 := Blk.new w1 30 #[.string ⟨#[]⟩, .int .i64 0, .int .i64 0]
  go_wp2_with fail
  have hsl1 := Below.sl good_para ha hsl
  have q1 := below_trans hb1 ha
  have hm1 := hm.below hm.lt q1
  generalize w1.alloc (.cells #[.string ⟨#[]⟩, .int .i64 0, .int .i64 0] 30) = W1 at hsl1 q1 b1 hm1 ⊢
  refine (pprint_any awPL _ nowhere _ hsl1 awP_ps.1 (by have := awP_ps.2; omega) hm1).mono ?_
  rw [awP_s]
  rintro e w2 ⟨rfl, hb2⟩
  have b2 := (Kept.of_below hb2 nowhere).blk b1 (fun h => h)
  have q2 := below_trans q1 hb2
  clear hsl hsl1 hb1 ha b1 hb2
  go_wp2_with fail
  refine (pparse_any awP2 _ (by decide)).mono ?_
  rw [awP_p2]
  rintro e w3 ⟨⟨v3, rfl, hsl3⟩, hb3⟩
  obtain ⟨A3, cap3, rfl, _, _⟩ := hsl3.form
  have b3 := (Kept.of_below hb3 nowhere).blk b2 (fun h => h)
  have q3 := below_trans q2 hb3
  have c0 := (b3.alloc (.cells #[.string ⟨#[]⟩, .int .i64 5, .int .i64 8] 30)).cell 0
  have c1 := (b3.alloc (.cells #[.string ⟨#[]⟩, .int .i64 5, .int .i64 8] 30)).cell 1
  have c2 := (b3.alloc (.cells #[.string ⟨#[]⟩, .int .i64 5, .int .i64 8] 30)).cell 2
  have bN := Blk.new w3 30 #[.string ⟨#[]⟩, .int .i64 5, .int .i64 8]
  have z0 : (w3.alloc (.cells #[.string ⟨#[]⟩, .int .i64 5, .int .i64 8] 30)).cell? ⟨w3.heap.size, 0, none⟩ = some (.string ⟨#[]⟩) := bN.cell 0
  have z1 : (w3.alloc (.cells #[.string ⟨#[]⟩, .int .i64 5, .int .i64 8] 30)).cell? ⟨w3.heap.size, 1, none⟩ = some (.int .i64 5) := bN.cell 1
  have z2 : (w3.alloc (.cells #[.string ⟨#[]⟩, .int .i64 5, .int .i64 8] 30)).cell? ⟨w3.heap.size, 2, none⟩ = some (.int .i64 8) := bN.cell 2
  simp at c0 c1 c2
  have q4 := q3.alloc (by have := q3.size; omega) (.cells #[.string ⟨#[]⟩, .int .i64 5, .int .i64 8] 30)
  clear hsl3 hb3 b2 q2 b3 bN
  have eT : (bs awPS).toList = [65, 58, 32, 120, 10, 32, 32, 121, 10, 10, 66, 58, 10] := by decide +kernel
  go_upto_region 4 with fail
  generalize w3.alloc (.cells #[.string ⟨#[]⟩, .int .i64 5, .int .i64 8] 30) = W4 at c0 c1 c2 z0 z1 z2 q4 ⊢
  go_wp2_with fail
  go_ret
  exact ⟨rfl, q4⟩
end Go.Proofs.YthcgomainhaemaaDoor

/- The walk of what the document tells of ddep ahead of each law. The walk of the law on how groups are written. -/
import Derived.Test.YtdnncbhbajciaaaDoorDdU
namespace Go.Proofs.YtdnncbhbajciaaaDoor
open Go.RowKit
def aw1 : List UInt8 := [97, 49, 32, 40, 62, 61, 32, 49, 46, 48, 45, 49, 41, 124, 98, 50, 58, 97, 110, 121, 32, 32, 91, 32, 97, 109, 100, 54, 52, 32, 33, 105, 51, 56, 54, 32, 93, 32, 44, 99, 51]
def aw2 : List UInt8 := [97, 49, 32, 40, 62, 32, 49, 41]
def awL : List (List Tm) := [[⟨[97, 49], 4, [49, 46, 48, 45, 49], [], []⟩, ⟨[98, 50], 0, [], [97, 110, 121], [[97, 109, 100, 54, 52], [33, 105, 51, 56, 54]]⟩], [⟨[99, 51], 0, [], [], []⟩]]
def awT : List UInt8 := [97, 49, 32, 40, 62, 61, 32, 49, 46, 48, 45, 49, 41, 32, 124, 32, 98, 50, 58, 97, 110, 121, 32, 91, 97, 109, 100, 54, 52, 32, 33, 105, 51, 56, 54, 93, 44, 32, 99, 51]
set_option maxRecDepth 100000 in
theorem aw_p1 : parseS aw1 = (awL, 0, 0) := by kernel_rfl
set_option maxRecDepth 100000 in
theorem aw_p2 : parseS aw2 = ([], 5, 3) := by kernel_rfl
theorem aw_s : printS awL = (awT, 0) := by decide +kernel
theorem aw_list : (bs awT).toList = [97, 49, 32, 40, 62, 61, 32, 49, 46, 48, 45, 49, 41, 32, 124, 32, 98, 50, 58, 97, 110, 121, 32, 91, 97, 109, 100, 54, 52, 32, 33, 105, 51, 56, 54, 93, 44, 32, 99, 51] := by decide +kernel
theorem aw_n1 : nameB [97, 49] = true := by decide +kernel
theorem aw_n2 : nameB [65, 49] = false := by decide +kernel
theorem aw_light : lightB awL = true := by decide +kernel
set_option maxRecDepth 20000 in
set_option maxHeartbeats 4000000 in
theorem awakeD (w : World) (hw : Words w) (hg : Signs w) : Calls Tryd.prog 16 #[] w fun e w' => e = .returned (.bool true) ∧ Below w.heap.size w w' := by
  go_enter Tryd.func16, Tryd.ntmps16
  go_wp2_with fail
  refine (parse_any aw1 _ (by decide) hw).mono ?_
  rw [aw_p1]
  rintro e w1 ⟨⟨v, rfl, hsl⟩, hb1⟩
  obtain ⟨A, cap, rfl, _, _⟩ := hsl.form
  have hw1 := hw.below hb1
  have hg1 := hg.below hb1
  have ha : Below w1.heap.size w1 (w1.alloc (.cells #[.string ⟨#[]⟩, .int .i64 0, .int .i64 0] 41)) := (Below.refl _ _).alloc (Nat.le_refl _) _
  have b1 := Blk.new w1 41 #[.string ⟨#[]⟩, .int .i64 0, .int .i64 0]
  go_wp2_with fail
  have hsl1 := Below.sl good_group ha hsl
  have hw1 := hw1.below ha
  have hg1 := hg1.below ha
  have q1 := below_trans hb1 ha
  generalize w1.alloc (.cells #[.string ⟨#[]⟩, .int .i64 0, .int .i64 0] 41) = W1 at hsl1 hw1 hg1 q1 b1 ⊢
  refine (dprint_any awL _ (old w.heap.size) _ hsl1 (light_fs awL aw_light) hw1 hg1).mono ?_
  rw [aw_s]
  rintro e w2 ⟨rfl, hb2⟩
  have b2 := (Kept.of_below hb2 nowhere).blk b1 (fun h => h)
  have hw2 := hw1.below hb2
  have q2 := below_trans q1 hb2
  clear hsl hsl1 hb1 hw1 hg1 ha b1 hb2
  go_wp2_with fail
  refine (parse_any aw2 _ (by decide) hw2).mono ?_
  rw [aw_p2]
  rintro e w3 ⟨⟨v3, rfl, hsl3⟩, hb3⟩
  obtain ⟨A3, cap3, rfl, _, _⟩ := hsl3.form
  have b3 := (Kept.of_below hb3 nowhere).blk b2 (fun h => h)
  have q3 := below_trans q2 hb3
  have c0 := (b3.alloc (.cells #[.string ⟨#[]⟩, .int .i64 5, .int .i64 3] 41)).cell 0
  have c1 := (b3.alloc (.cells #[.string ⟨#[]⟩, .int .i64 5, .int .i64 3] 41)).cell 1
  have c2 := (b3.alloc (.cells #[.string ⟨#[]⟩, .int .i64 5, .int .i64 3] 41)).cell 2
  have bN := Blk.new w3 41 #[.string ⟨#[]⟩, .int .i64 5, .int .i64 3]
  have z0 : (w3.alloc (.cells #[.string ⟨#[]⟩, .int .i64 5, .int .i64 3] 41)).cell? ⟨w3.heap.size, 0, none⟩ = some (.string ⟨#[]⟩) := bN.cell 0
  have z1 : (w3.alloc (.cells #[.string ⟨#[]⟩, .int .i64 5, .int .i64 3] 41)).cell? ⟨w3.heap.size, 1, none⟩ = some (.int .i64 5) := bN.cell 1
  have z2 : (w3.alloc (.cells #[.string ⟨#[]⟩, .int .i64 5, .int .i64 3] 41)).cell? ⟨w3.heap.size, 2, none⟩ = some (.int .i64 3) := bN.cell 2
  simp at c0 c1 c2
  have q4 := q3.alloc (by have := q3.size; omega) (.cells #[.string ⟨#[]⟩, .int .i64 5, .int .i64 3] 41)
  clear hsl3 hb3 b2 hw2 q2 b3 bN
  have eT := aw_list
  go_upto_region 4 with fail
  generalize w3.alloc (.cells #[.string ⟨#[]⟩, .int .i64 5, .int .i64 3] 41) = W4 at c0 c1 c2 z0 z1 z2 q4 ⊢
  go_wp2_with fail
  refine (dname_any [97, 49] _ (by decide)).mono ?_
  rintro e wq ⟨rfl, rfl⟩
  rw [aw_n1]
  go_wp2_with fail
  refine (dname_any [65, 49] _ (by decide)).mono ?_
  rintro e wq ⟨rfl, rfl⟩
  rw [aw_n2]
  go_wp2_with fail
  go_ret
  exact ⟨rfl, q4⟩
end Go.Proofs.YtdnncbhbajciaaaDoor
namespace Go.Proofs.YtdnncbhbajciaaaDoor
open Go.RowKit
set_option maxRecDepth 20000 in
set_option maxHeartbeats 8000000 in
theorem law_prints (v : Value) (l : List (List Tm)) (s : ByteArray) (w : World) (hsl : Sl 1 Rgroup nowhere w v l) (hs : s.size ≤ maxLen) (hw : Words w) (hg : Signs w) :
    Calls Tryd.prog 5 #[v, .string s] w fun e w' => e = .returned (.bool true) ∧ Below w.heap.size w w' := by
  obtain ⟨a, rfl⟩ : ∃ l, s = bs l := ⟨_, bs_self s⟩
  clear hs
  have hz : ((bs a).size : Int) = (a.length : Int) := by rw [bs_size]
  go_enter Tryd.func5, Tryd.ntmps5
  go_wp2_with fail
  refine (awakeD _ hw hg).mono ?_
  rintro e w1 ⟨rfl, hb1⟩
  have hsl1 := Below.sl good_group hb1 hsl
  go_wp2_with fail
  refine (light_any l v nowhere _ hsl1).mono ?_
  rintro e w2 ⟨rfl, hb2⟩
  have hsl2 := Below.sl good_group hb2 hsl1
  have q2 := below_trans hb1 hb2
  have hw2 := (hw.below hb1).below hb2
  have hg2 := (hg.below hb1).below hb2
  cases hL : lightB l with
  | false =>
    go_wp2_with fail
    go_ret
    exact ⟨rfl, q2⟩
  | true =>
    have hF := light_fs l hL
    clear hL
    by_cases hn : 1000 < a.length
    · have hd : decide ((1000 : Int) < ((bs a).size : Int)) = true := by rw [hz]; simp; omega
      go_wp2_with fail
      go_ret
      exact ⟨rfl, q2⟩
    · have hd : decide ((1000 : Int) < ((bs a).size : Int)) = false := by rw [hz]; simp; omega
      have HF := Lib.hid hF
      clear hF
      go_wp2_with fail
      refine (dprint_any l v nowhere _ hsl2 HF.out hw2 hg2).mono ?_
      rintro e w3 ⟨rfl, hb3⟩
      have hsl3 := Below.sl good_group hb3 hsl2
      have hw3 := hw2.below hb3
      go_wp2_with fail
      refine (eprint_any l v nowhere _ hsl3 HF.out hw3).mono ?_
      rintro e w4 ⟨rfl, hb4⟩
      have hsl4 := Below.sl good_group hb4 hsl3
      have hw4 := hw3.below hb4
      obtain ⟨x, y⟩ := printS l
      have e1 := beq_bs x
      have e2 : (y == y) = true := by simp
      go_wp2_with fail
      refine (dcheck_any l v nowhere _ hsl4 HF.out hw4).mono ?_
      rintro e w5 ⟨rfl, hb5⟩
      have hsl5 := Below.sl good_group hb5 hsl4
      have hw5 := hw4.below hb5
      go_wp2_with fail
      refine (echeck_any l v nowhere _ hsl5 HF.out hw5).mono ?_
      rintro e w6 ⟨rfl, hb6⟩
      obtain ⟨c, Hc⟩ : ∃ c, Hid (chkS l = c) := ⟨_, Lib.hid rfl⟩
      rw [Hc.out]
      have e3 : (c == c) = true := by simp
      go_wp2_with fail
      refine (dname_any a _ (by omega)).mono ?_
      rintro e wq ⟨rfl, rfl⟩
      go_wp2_with fail
      refine (ename_any a _ (by omega)).mono ?_
      rintro e wq ⟨rfl, rfl⟩
      have e4 : (nameB a == nameB a) = true := by simp
      go_wp2_with fail
      go_ret
      exact ⟨rfl, below_trans q2 (below_trans hb3 (below_trans hb4 (below_trans hb5 hb6)))⟩
end Go.Proofs.YtdnncbhbajciaaaDoor

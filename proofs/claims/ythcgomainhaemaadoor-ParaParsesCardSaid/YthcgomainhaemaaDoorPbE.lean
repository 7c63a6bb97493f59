/- The walk of the law on texts of paragraphs. -/
import Derived.Test.YthcgomainhaemaaDoorPbD
import Derived.Test.YthcgomainhaemaaDoorPaT
import Derived.Test.YthcgomainhaemaaDoorPaN
namespace Go.Proofs.YthcgomainhaemaaDoor
open Go.RowKit
set_option maxRecDepth 20000 in
set_option maxHeartbeats 8000000 in
theorem law_parsesP (s : ByteArray) (w : World) (hs : s.size ≤ maxLen) (hm : MaxC w) :
    Calls Tryd.prog 4 #[.string s] w fun e w' => e = .returned (.bool true) ∧ Below w.heap.size w w' := by
  obtain ⟨a, rfl⟩ : ∃ l, s = bs l := ⟨_, bs_self s⟩
  clear hs
  have hz : ((bs a).size : Int) = (a.length : Int) := by rw [bs_size]
  go_enter Tryd.func4, Tryd.ntmps4
  go_wp2_with fail
  refine (awakeP _ hm).mono ?_
  rintro e w1 ⟨rfl, hb1⟩
  clear hm
  by_cases hn : 6000 < a.length
  · have hd : decide ((6000 : Int) < (a.length : Int)) = true := by simp; omega
    go_wp2_with fail
    go_ret
    exact ⟨rfl, hb1⟩
  · have hd : decide ((6000 : Int) < (a.length : Int)) = false := by simp; omega
    go_upto_region 5 with fail
    clear hd
    go_wp2_with fail
    refine (pparse_any a _ (by omega)).mono ?_
    obtain ⟨r, HP⟩ : ∃ r, Hid (parseP a = r) := ⟨_, Lib.hid rfl⟩
    rw [HP.out]
    obtain ⟨l, x, y⟩ := r
    simp only [ParseRP]
    rintro e w2 ⟨⟨v2, rfl, hs2⟩, hb2⟩
    obtain ⟨A2, cap2, rfl, _, _⟩ := hs2.form
    have b2 := Blk.new w2 30 #[.string ⟨#[]⟩, .int .i64 x, .int .i64 y]
    have hb3 : Below w2.heap.size w2 (w2.alloc (.cells #[.string ⟨#[]⟩, .int .i64 x, .int .i64 y] 30)) := (Below.refl _ _).alloc (Nat.le_refl _) _
    go_upto_region 6 with fail
    have s3 := Below.sl good_para hb3 hs2
    have q3 := below_trans (below_trans hb1 hb2) hb3
    clear hs2 hb3 hb2 hb1
    generalize w2.alloc (.cells #[.string ⟨#[]⟩, .int .i64 x, .int .i64 y] 30) = w3 at b2 s3 q3 ⊢
    generalize w2.heap.size = g2 at b2 ⊢
    go_wp2_with fail
    refine (rparse_any a _ (by omega)).mono ?_
    rw [HP.out]
    simp only [ParseRP]
    rintro e w4 ⟨⟨v4, rfl, hs4⟩, hb4⟩
    obtain ⟨A4, cap4, rfl, _, _⟩ := hs4.form
    have b4 := Blk.new w4 30 #[.string ⟨#[]⟩, .int .i64 x, .int .i64 y]
    have hb5 : Below w4.heap.size w4 (w4.alloc (.cells #[.string ⟨#[]⟩, .int .i64 x, .int .i64 y] 30)) := (Below.refl _ _).alloc (Nat.le_refl _) _
    go_upto_region 7 with fail
    have s5 := Below.sl good_para hb5 hs4
    have s6 := Below.sl good_para hb5 (Below.sl good_para hb4 s3)
    have q5 := below_trans (below_trans q3 hb4) hb5
    have c4 := (b2.below hb4 b2.lt)
    have c5 := c4.below hb5 c4.lt
    clear hs4 hb5 hb4 s3 q3 b2 c4
    generalize w4.alloc (.cells #[.string ⟨#[]⟩, .int .i64 x, .int .i64 y] 30) = w5 at b4 s5 s6 q5 c5 ⊢
    generalize w4.heap.size = g4 at b4 ⊢
    go_wp2_with fail
    refine (psame_yes l _ _ _ _ _ s6 s5).mono ?_
    rintro e w6 ⟨rfl, hb6⟩
    have b6 := b4.below hb6 b4.lt
    have c6 := c5.below hb6 c5.lt
    have q6 := below_trans q5 hb6
    have d0 := b6.cell 0
    have d1 := b6.cell 1
    have d2 := b6.cell 2
    have f0 := c6.cell 0
    have f1 := c6.cell 1
    have f2 := c6.cell 2
    simp at d0 d1 d2 f0 f1 f2
    have e1 : (x == x) = true := by simp
    have e2 : (y == y) = true := by simp
    clear s5 s6 q5 b4 c5 b6 c6 hb6
    go_wp2_with fail
    go_ret
    exact ⟨rfl, q6⟩
end Go.Proofs.YthcgomainhaemaaDoor

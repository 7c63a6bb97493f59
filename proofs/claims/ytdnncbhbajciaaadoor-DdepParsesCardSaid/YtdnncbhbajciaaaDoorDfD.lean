/- The walk of the law on how fields are read. -/
import Derived.Test.YtdnncbhbajciaaaDoorDeF
import Derived.Test.YtdnncbhbajciaaaDoorDfC
import Derived.Test.YtdnncbhbajciaaaDoorDdV
namespace Go.Proofs.YtdnncbhbajciaaaDoor
open Go.RowKit
set_option maxRecDepth 20000 in
set_option maxHeartbeats 8000000 in
theorem law_parses (s : ByteArray) (w : World) (hs : s.size ≤ maxLen) (hw : Words w) (hg : Signs w) :
    Calls Tryd.prog 6 #[.string s] w fun e w' => e = .returned (.bool true) ∧ Below w.heap.size w w' := by
  obtain ⟨a, rfl⟩ : ∃ l, s = bs l := ⟨_, bs_self s⟩
  clear hs
  have hz : ((bs a).size : Int) = (a.length : Int) := by rw [bs_size]
  go_enter Tryd.func6, Tryd.ntmps6
  go_wp2_with fail
  refine (awakeD _ hw hg).mono ?_
  rintro e w1 ⟨rfl, hb1⟩
  by_cases hn : 6000 < a.length
  · have hd : decide ((6000 : Int) < ((bs a).size : Int)) = true := by rw [hz]; simp; omega
    go_wp2_with fail
    go_ret
    exact ⟨rfl, hb1⟩
  · have hd : decide ((6000 : Int) < ((bs a).size : Int)) = false := by rw [hz]; simp; omega
    have hw1 := hw.below hb1
    go_wp2_with fail
    refine (parse_any a _ (by omega) hw1).mono ?_
    obtain ⟨X, HX⟩ : ∃ x, Hid (parseS a = x) := ⟨_, Lib.hid rfl⟩
    rw [HX.out]
    obtain ⟨l, at_, cd⟩ := X
    rintro e w2 ⟨⟨v, rfl, hsl⟩, hb2⟩
    obtain ⟨A, cap, rfl, _, _⟩ := hsl.form
    have b2 := Blk.new w2 41 #[.string ⟨#[]⟩, .int .i64 at_, .int .i64 cd]
    have hb3 : Below w2.heap.size w2 (w2.alloc (.cells #[.string ⟨#[]⟩, .int .i64 at_, .int .i64 cd] 41)) := (Below.refl _ _).alloc (Nat.le_refl _) _
    go_wp2_with fail
    have q3 := below_trans (below_trans hb1 hb2) hb3
    have hsl3 := Below.sl good_group hb3 hsl
    generalize w2.alloc (.cells #[.string ⟨#[]⟩, .int .i64 at_, .int .i64 cd] 41) = W3 at b2 hb3 q3 hsl3 ⊢
    clear hsl hb2 hb1
    refine (eparse_any a _ (by omega)).mono ?_
    rw [HX.out]
    rintro e w4 ⟨⟨v4, rfl, hsl4⟩, hb4⟩
    obtain ⟨A4, cap4, rfl, _, _⟩ := hsl4.form
    have b4 := b2.below hb4 b2.lt
    have b5 := b4.alloc (.cells #[.string ⟨#[]⟩, .int .i64 at_, .int .i64 cd] 41)
    have n5 := Blk.new w4 41 #[.string ⟨#[]⟩, .int .i64 at_, .int .i64 cd]
    have hb5 : Below w4.heap.size w4 (w4.alloc (.cells #[.string ⟨#[]⟩, .int .i64 at_, .int .i64 cd] 41)) := (Below.refl _ _).alloc (Nat.le_refl _) _
    go_wp2_with fail
    have q5 := below_trans (below_trans q3 hb4) hb5
    have s1 := Below.sl good_group hb5 (Below.sl good_group hb4 hsl3)
    have s2 := Below.sl good_group hb5 hsl4
    generalize w4.alloc (.cells #[.string ⟨#[]⟩, .int .i64 at_, .int .i64 cd] 41) = W5 at b5 n5 q5 s1 s2 ⊢
    clear hsl3 hsl4 q3 hb4 hb5 b4 b2 hb3
    refine (same_yes l _ _ _ _ _ s1 s2).mono ?_
    rintro e w6 ⟨rfl, hb6⟩
    have c0 := (b5.below hb6 b5.lt).cell 0
    have c1 := (b5.below hb6 b5.lt).cell 1
    have c2 := (b5.below hb6 b5.lt).cell 2
    have z0 := (n5.below hb6 n5.lt).cell 0
    have z1 := (n5.below hb6 n5.lt).cell 1
    have z2 := (n5.below hb6 n5.lt).cell 2
    simp at c0 c1 c2 z0 z1 z2
    have q6 := below_trans q5 hb6
    have e1 : (at_ == at_) = true := by simp
    have e2 : (cd == cd) = true := by simp
    clear s1 s2 b5 n5 hb6 q5
    go_wp2_with fail
    go_ret
    exact ⟨rfl, q6⟩
end Go.Proofs.YtdnncbhbajciaaaDoor

/- The walks of the laws on how a text is read as words, and on what is written and read. -/
import Derived.Test.YtfpdlmddakgilaaDoorAeB
import Derived.Test.YtfpdlmddakgilaaDoorAeD
import Derived.Test.YtfpdlmddakgilaaDoorAeE
namespace Go.Proofs.YtfpdlmddakgilaaDoor
open Go.RowKit
set_option maxRecDepth 20000 in
set_option maxHeartbeats 8000000 in
theorem law_parsesA (s : ByteArray) (w : World) (hs : s.size ≤ maxLen) (hw : Words w) (hg : SignsA w) (he : ErrT w) :
    Calls Tryd.prog 3 #[.string s] w fun e w' => e = .returned (.bool true) ∧ Below w.heap.size w w' := by
  obtain ⟨a, rfl⟩ : ∃ l, s = bs l := ⟨_, bs_self s⟩
  clear hs
  have hz : ((bs a).size : Int) = (a.length : Int) := by rw [bs_size]
  go_enter Tryd.func3, Tryd.ntmps3
  go_wp2_with fail
  refine (awakeA _ hw hg he).mono ?_
  rintro e w1 ⟨rfl, hb1⟩
  by_cases hn : 4000 < a.length
  · have hd : decide ((4000 : Int) < ((bs a).size : Int)) = true := by rw [hz]; simp; omega
    go_wp2_with fail
    go_ret
    exact ⟨rfl, hb1⟩
  · have hd : decide ((4000 : Int) < ((bs a).size : Int)) = false := by rw [hz]; simp; omega
    have hw1 := hw.below hb1
    have hg1 := hg.below hb1
    have he1 := he.below hb1
    go_wp2_with fail
    refine (aparse_any a _ (by omega) hw1 hg1 he1).mono ?_
    obtain ⟨X, HX⟩ : ∃ x, Hid (parseA a = x) := ⟨_, Lib.hid rfl⟩
    rw [HX.out]
    obtain ⟨l, at_, cd⟩ := X
    rintro e w2 ⟨⟨v, rfl, hsl⟩, hb2⟩
    obtain ⟨A, cap, rfl, _, _⟩ := hsl.form
    have b2 := Blk.new w2 26 #[.string ⟨#[]⟩, .int .i64 at_, .int .i64 cd]
    have hb3 : Below w2.heap.size w2 (w2.alloc (.cells #[.string ⟨#[]⟩, .int .i64 at_, .int .i64 cd] 26)) := (Below.refl _ _).alloc (Nat.le_refl _) _
    go_wp2_with fail
    have q3 := below_trans (below_trans hb1 hb2) hb3
    have hsl3 := Below.sl good_want hb3 hsl
    generalize w2.alloc (.cells #[.string ⟨#[]⟩, .int .i64 at_, .int .i64 cd] 26) = W3 at b2 hb3 q3 hsl3 ⊢
    clear hsl hb2 hb1
    refine (eparse_any a _ (by omega)).mono ?_
    rw [HX.out]
    rintro e w4 ⟨⟨v4, rfl, hsl4⟩, hb4⟩
    obtain ⟨A4, cap4, rfl, _, _⟩ := hsl4.form
    have b4 := b2.below hb4 b2.lt
    have b5 := b4.alloc (.cells #[.string ⟨#[]⟩, .int .i64 at_, .int .i64 cd] 26)
    have n5 := Blk.new w4 26 #[.string ⟨#[]⟩, .int .i64 at_, .int .i64 cd]
    have hb5 : Below w4.heap.size w4 (w4.alloc (.cells #[.string ⟨#[]⟩, .int .i64 at_, .int .i64 cd] 26)) := (Below.refl _ _).alloc (Nat.le_refl _) _
    go_wp2_with fail
    have q5 := below_trans (below_trans q3 hb4) hb5
    have s1 := Below.sl good_want hb5 (Below.sl good_want hb4 hsl3)
    have s2 := Below.sl good_want hb5 hsl4
    generalize w4.alloc (.cells #[.string ⟨#[]⟩, .int .i64 at_, .int .i64 cd] 26) = W5 at b5 n5 q5 s1 s2 ⊢
    clear hsl3 hsl4 q3 hb4 hb5 b4 b2 hb3
    refine (same_yesA l _ _ _ _ _ s1 s2).mono ?_
    rintro e w6 ⟨rfl, hb6⟩
    have c0 := (b5.below hb6 b5.lt).cell 0
    have c1 := (b5.below hb6 b5.lt).cell 1
    have c2 := (b5.below hb6 b5.lt).cell 2
    have z0 := (n5.below hb6 n5.lt).cell 0
    have z1 := (n5.below hb6 n5.lt).cell 1
    have z2 := (n5.below hb6 n5.lt).cell 2
    simp at c0 c1 c2 z0 z1 z2
    have q6 := below_trans q5 hb6
    have e1 : (at_ == at_) = true := by simp
    have e2 : (cd == cd) = true := by simp
    clear s1 s2 b5 n5 hb6 q5
    go_wp2_with fail
    go_ret
    exact ⟨rfl, q6⟩
theorem wErr_len (t : Wt) (h : wErr t = 0) : t.name.length ≤ 64 ∧ t.ver.length ≤ 64 := by
  obtain ⟨h1, _, _, h4, h5⟩ := wErr_facts t h
  refine ⟨?_, ?_⟩
  · cases hn : t.name with
    | nil => simp
    | cons c u =>
      rw [hn] at h1
      simp only [anmB, Bool.and_eq_true, Bool.not_eq_true', decide_eq_false_iff_not] at h1
      omega
  · by_cases h0 : t.op = 0
    · rw [h4 h0]; simp
    · have := h5 h0
      rw [vErr, if_pos (by omega)] at this
      split at this
      · cases this
      · omega
theorem words_short (l : List Wt) (h1 : l.length ≤ 64) (h2 : ∀ t ∈ l, wErr t = 0) : AS l ∧ (wordsT l).length ≤ 1000000 := by
  refine ⟨⟨by omega, fun t ht => by have := wErr_len t (h2 t ht); omega⟩, ?_⟩
  have := join_len (l.map wordT) [32] 131 (fun a ha => by
    obtain ⟨t, ht, rfl⟩ := List.mem_map.1 ha
    have h3 := wErr_len t (h2 t ht)
    have := sgn_len t.op.toNat
    have hb : (barT t.bar).length ≤ 1 := by cases h : t.bar <;> simp [barT]
    simp only [wordT, List.length_append]
    omega)
  rw [List.length_map] at this
  have h3 : l.length * (131 + [(32 : UInt8)].length) ≤ 64 * 132 := Nat.mul_le_mul_right _ h1
  show (Lib.join (l.map wordT) [32]).length ≤ _
  omega
set_option maxRecDepth 20000 in
set_option maxHeartbeats 16000000 in
theorem law_backA (v : Value) (l : List Wt) (s : ByteArray) (w : World) (hsl : Sl 4 Rwant nowhere w v l) (hs : s.size ≤ maxLen) (hw : Words w) (hg : SignsA w) (he : ErrT w) :
    Calls Tryd.prog 4 #[v, .string s] w fun e w' => e = .returned (.bool true) ∧ Below w.heap.size w w' := by
  obtain ⟨a, rfl⟩ : ∃ l, s = bs l := ⟨_, bs_self s⟩
  clear hs
  have hz : ((bs a).size : Int) = (a.length : Int) := by rw [bs_size]
  go_enter Tryd.func4, Tryd.ntmps4
  go_wp2_with fail
  refine (awakeA _ hw hg he).mono ?_
  rintro e w1 ⟨rfl, hb1⟩
  have hsl1 := Below.sl good_want hb1 hsl
  go_wp2_with fail
  refine (light_anyA l v nowhere _ hsl1).mono ?_
  rintro e wq ⟨rfl, rfl⟩
  cases hL : lightA l with
  | false =>
    go_wp2_with fail
    go_ret
    exact ⟨rfl, hb1⟩
  | true =>
    have hF := light_as l hL
    clear hL
    by_cases hn : 4000 < a.length
    · have hd : decide ((4000 : Int) < ((bs a).size : Int)) = true := by rw [hz]; simp; omega
      go_wp2_with fail
      go_ret
      exact ⟨rfl, hb1⟩
    · have hd : decide ((4000 : Int) < ((bs a).size : Int)) = false := by rw [hz]; simp; omega
      have hw1 := hw.below hb1
      have hg1 := hg.below hb1
      have he1 := he.below hb1
      go_wp2_with fail
      refine (aprint_any l v nowhere _ hsl1 hF hw1 hg1).mono ?_
      rintro e w2 ⟨rfl, hb2⟩
      have hsl2 := Below.sl good_want hb2 hsl1
      have hw2 := hw1.below hb2
      have hg2 := hg1.below hb2
      have he2 := he1.below hb2
      have q2 := below_trans hb1 hb2
      clear hsl1 hb1 hb2 hw1 hg1 he1 hsl
      obtain ⟨pr, HP⟩ : ∃ pr, Hid (pr = if chkA l = 0 then (wordsT l, 0) else ([], chkA l)) := ⟨_, Lib.hid rfl⟩
      rw [show printA l = pr from HP.out.symm]
      obtain ⟨x, y⟩ := pr
      go_upto_if 31 with fail
      go_cut [] (fun wx => Below w.heap.size w wx)
      case first => as_aux_lemma =>
        by_cases h0 : chkA l = 0
        · have hP2 := HP.out
          rw [if_pos h0] at hP2
          injection hP2 with hx hy
          obtain ⟨c1, c2⟩ := chkA_ok l h0
          have hsh := (words_short l c1 c2).2
          have hbk := back_readA l h0
          rw [← hx] at hsh hbk
          have hyb : (y == 0) = true := by simpa using hy
          obtain ⟨A, cap, rfl, _, _⟩ := hsl2.form
          clear h0 hx hy c1 c2 HP
          go_wp2_with fail
          refine (aparse_any x _ (by omega) hw2 hg2 he2).mono ?_
          rw [hbk]
          rintro e w3 ⟨⟨v3, rfl, hs3⟩, hb3⟩
          obtain ⟨A3, cap3, rfl, _, _⟩ := hs3.form
          have b3 := Blk.new w3 26 #[.string ⟨#[]⟩, .int .i64 0, .int .i64 0]
          have hb4 : Below w3.heap.size w3 (w3.alloc (.cells #[.string ⟨#[]⟩, .int .i64 0, .int .i64 0] 26)) := (Below.refl _ _).alloc (Nat.le_refl _) _
          go_upto_region 8 with fail
          have s3 := Below.sl good_want hb4 hs3
          have s4 := Below.sl good_want hb4 (Below.sl good_want hb3 hsl2)
          have q4 := below_trans (below_trans q2 hb3) hb4
          generalize w3.alloc (.cells #[.string ⟨#[]⟩, .int .i64 0, .int .i64 0] 26) = W3 at b3 s3 s4 q4 ⊢
          have d0 := b3.cell 0
          have d1 := b3.cell 1
          have d2 := b3.cell 2
          simp at d0 d1 d2
          go_wp2_with fail
          refine (same_yesA l _ _ _ _ _ s3 s4).mono ?_
          rintro e w5 ⟨rfl, hb5⟩
          go_wp2_with fail
          go_meet
          exact below_trans q4 hb5
        · have hP2 := HP.out
          rw [if_neg h0] at hP2
          injection hP2 with hx hy
          have hyb : (y == 0) = false := by rw [hy]; simpa using h0
          clear h0 hx hy HP
          go_wp2_with fail
          go_meet
          exact q2
      case rest => as_aux_lemma =>
        clear hsl2 q2 HP
        have hbc := hcut
        have hwc := hw.below hbc
        have hgc := hg.below hbc
        have hec := he.below hbc
        clear hw2 hg2 he2 hcut
        go_wp2_with fail
        refine (aparse_any a _ (by omega) hwc hgc hec).mono ?_
        have hR := go_right a 0 [] (by simp) (fun t ht => by cases ht)
        rw [show goA a 0 [] = parseA a from rfl] at hR
        obtain ⟨X, HX⟩ : ∃ x, Hid (parseA a = x) := ⟨_, Lib.hid rfl⟩
        rw [HX.out] at hR
        rw [HX.out]
        obtain ⟨k, at_, cd⟩ := X
        simp only at hR
        rintro e w3 ⟨⟨v3, rfl, hs3⟩, hb3⟩
        simp only at hs3
        obtain ⟨A3, cap3, rfl, _, _⟩ := hs3.form
        have b3 := Blk.new w3 26 #[.string ⟨#[]⟩, .int .i64 at_, .int .i64 cd]
        have hb4 : Below w3.heap.size w3 (w3.alloc (.cells #[.string ⟨#[]⟩, .int .i64 at_, .int .i64 cd] 26)) := (Below.refl _ _).alloc (Nat.le_refl _) _
        go_upto_region 11 with fail
        have s3 := Below.sl good_want hb4 hs3
        have q4 := below_trans (below_trans hbc hb3) hb4
        have hw4 := (hwc.below hb3).below hb4
        have hg4 := (hgc.below hb3).below hb4
        have he4 := (hec.below hb3).below hb4
        generalize w3.alloc (.cells #[.string ⟨#[]⟩, .int .i64 at_, .int .i64 cd] 26) = W3 at b3 s3 q4 hw4 hg4 he4 ⊢
        clear hs3 hb3 hb4 hbc hwc hgc hec
        have d0 := b3.cell 0
        have d1 := b3.cell 1
        have d2 := b3.cell 2
        simp at d0 d1 d2
        rcases hR with ⟨r1, r2, r3, r4⟩ | ⟨r1, r2, r3, r4⟩
        · subst r1
          subst r2
          have hch := chkA_zero k r3 r4
          obtain ⟨hAS, hsh⟩ := words_short k r3 r4
          have hbk := back_readA k hch
          have hP2 : printA k = (wordsT k, 0) := by rw [printA, if_pos hch]
          clear r3 r4 hch HX
          go_wp2_with fail
          refine (aprint_any k _ _ _ s3 hAS hw4 hg4).mono ?_
          rw [hP2]
          rintro e w5 ⟨rfl, hb5⟩
          have s5 := Below.sl good_want hb5 s3
          have hw5 := hw4.below hb5
          have hg5 := hg4.below hb5
          have he5 := he4.below hb5
          have q5 := below_trans q4 hb5
          clear s3 hw4 hg4 he4 q4 hb5 b3 d0 d1 d2 hP2 hAS
          generalize wordsT k = x at hsh hbk
          go_wp2_with fail
          refine (aparse_any x _ (by omega) hw5 hg5 he5).mono ?_
          rw [hbk]
          rintro e w6 ⟨⟨v6, rfl, hs6⟩, hb6⟩
          simp only at hs6
          obtain ⟨A6, cap6, rfl, _, _⟩ := hs6.form
          have b6 := Blk.new w6 26 #[.string ⟨#[]⟩, .int .i64 0, .int .i64 0]
          have hb7 : Below w6.heap.size w6 (w6.alloc (.cells #[.string ⟨#[]⟩, .int .i64 0, .int .i64 0] 26)) := (Below.refl _ _).alloc (Nat.le_refl _) _
          go_upto_region 15 with fail
          have s7 := Below.sl good_want hb7 hs6
          have s8 := Below.sl good_want hb7 (Below.sl good_want hb6 s5)
          have q7 := below_trans (below_trans q5 hb6) hb7
          generalize w6.alloc (.cells #[.string ⟨#[]⟩, .int .i64 0, .int .i64 0] 26) = W6 at b6 s7 s8 q7 ⊢
          have d0 := b6.cell 0
          have d1 := b6.cell 1
          have d2 := b6.cell 2
          simp at d0 d1 d2
          go_wp2_with fail
          refine (same_yesA k _ _ _ _ _ s8 s7).mono ?_
          rintro e w8 ⟨rfl, hb8⟩
          go_wp2_with fail
          go_ret
          exact ⟨rfl, below_trans q7 hb8⟩
        · subst r2
          have e1 : (cd == 0) = false := by simpa using r1
          have e2 : (cd != 0) = true := by simpa using r1
          have e3 : decide ((0 : Int) ≤ at_) = true := by simpa using r3
          have e4 : decide (at_ ≤ ((bs a).size : Int)) = true := by simp; omega
          clear hz r1 r3 r4
          go_wp2_with fail
          go_ret
          exact ⟨rfl, q4⟩
end Go.Proofs.YtfpdlmddakgilaaDoor

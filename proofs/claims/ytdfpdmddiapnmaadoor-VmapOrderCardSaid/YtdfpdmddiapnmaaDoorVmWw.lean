/- The walk of the law on the order of what is translated. -/
import Derived.Test.YtdfpdmddiapnmaaDoorVmWu
import Derived.Test.YtdfpdmddiapnmaaDoorVmH
import Derived.Test.YtdfpdmddiapnmaaDoorVmR
namespace Go.Proofs.YtdfpdmddiapnmaaDoor
open Go.RowKit
theorem order_law (a b : Int) (l m u v : List UInt8) (c d : Co) (ha : fmtOk a = true) (hb : fmtOk b = true) (h1 : paC a l = (c, 0)) (h2 : prC b c = (u, 0)) (k1 : paC a m = (d, 0)) (k2 : prC b d = (v, 0)) :
    vCmp a l m = cmpC c d ∧ vCmp b u v = cmpC c d ∧ vErr b u = 0 ∧ (cmpC c d = 0 ↔ l = m) ∧ l.length ≤ 64 ∧ m.length ≤ 64 := by
  have p1 := core_read a c l h1
  have p2 := core_read a d m k1
  obtain ⟨e1, _, f1, _, _⟩ := back_core a c l p1
  obtain ⟨e2, _, f2, _, _⟩ := back_core a d m p2
  obtain ⟨e3, _, f3, v3, _⟩ := back_core b c u h2
  obtain ⟨e4, _, f4, _, _⟩ := back_core b d v k2
  have F1 := fit_of a c f1
  have F2 := fit_of a d f2
  have o1 : coOk c = true := by simp only [fits, Bool.and_eq_true] at f1; exact f1.1
  have o2 : coOk d = true := by simp only [fits, Bool.and_eq_true] at f2; exact f2.1
  have hc : cmpC c d = cmpO c d := by rw [cmpC, if_pos ⟨o1, o2⟩]
  refine ⟨?_, ?_, v3, ⟨fun h => ?_, fun h => ?_⟩, pr_len a c l p1, pr_len a d m p2⟩
  · rw [e1, e2, hc]; exact order_core a ha c d F1 F2
  · rw [e3, e4, hc]; exact order_core b hb c d (fit_of b c f3) (fit_of b d f4)
  · rw [hc] at h
    have := core_zero a c d F1 F2 h
    rw [e1, e2, this]
  · rw [h, k1] at h1
    injection h1 with h1 _
    rw [hc, ← h1, core_self]
set_option maxRecDepth 100000 in
set_option maxHeartbeats 8000000 in
theorem law_order2 (a b : Int) (s t : ByteArray) (w : World) (_ : I64 a) (_ : I64 b) (_ : s.size ≤ maxLen) (_ : t.size ≤ maxLen) (h2 : Tab w) (h1 : Words w) (h3 : Pres w) :
    Calls Tryd.prog 6 #[.int .i64 a, .int .i64 b, .string s, .string t] w fun e w' => e = .returned (.bool true) ∧ Below w.heap.size w w' := by
  obtain ⟨l, rfl⟩ : ∃ l, s = bs l := ⟨_, bs_self s⟩
  obtain ⟨m, rfl⟩ : ∃ m, t = bs m := ⟨_, bs_self t⟩
  have h : VarV w := ⟨h1, h2, h3⟩
  clear h1 h2 h3
  have hz : ((bs l).size : Int) = (l.length : Int) := by rw [bs_size]
  have hz2 : ((bs m).size : Int) = (m.length : Int) := by rw [bs_size]
  go_enter Tryd.func6, Tryd.ntmps6
  go_wp2_with fail
  refine (awakeM _ h).mono ?_
  rintro e w1 ⟨rfl, hb1⟩
  have v1 := h.below hb1
  clear h
  by_cases h2 : 2000 < l.length
  · have hd : decide ((2000 : Int) < ((bs l).size : Int)) = true := by rw [hz]; simp; omega
    clear hz hz2 h2
    go_wp2_with fail
    go_ret
    exact ⟨rfl, hb1⟩
  by_cases h3 : 2000 < m.length
  · have hd : decide ((2000 : Int) < ((bs l).size : Int)) = false := by rw [hz]; simp; omega
    have hd2 : decide ((2000 : Int) < ((bs m).size : Int)) = true := by rw [hz2]; simp; omega
    clear hz hz2 h2 h3
    go_wp2_with fail
    go_ret
    exact ⟨rfl, hb1⟩
  have hd : decide ((2000 : Int) < ((bs l).size : Int)) = false := by rw [hz]; simp; omega
  have hd2 : decide ((2000 : Int) < ((bs m).size : Int)) = false := by rw [hz2]; simp; omega
  have HL : Hid (l.length ≤ 2000) := Lib.hid (by omega)
  have HM : Hid (m.length ≤ 2000) := Lib.hid (by omega)
  clear hz hz2 h2 h3
  obtain ⟨⟨u, y⟩, H1⟩ : ∃ p, Hid (trC a b l = p) := ⟨_, Lib.hid rfl⟩
  have c1 := Lib.hid (vtrans_any a b l _ HL.out v1.ww v1.tt v1.pp)
  rw [H1.out] at c1
  go_wp2_with fail
  refine c1.out.mono ?_
  rintro e w2 ⟨rfl, hb2⟩
  have v2 := v1.below hb2
  have q2 := below_trans hb1 hb2
  clear c1 v1 hb1 hb2
  obtain ⟨⟨v, z⟩, H2⟩ : ∃ p, Hid (trC a b m = p) := ⟨_, Lib.hid rfl⟩
  have c1 := Lib.hid (vtrans_any a b m _ HM.out v2.ww v2.tt v2.pp)
  rw [H2.out] at c1
  go_wp2_with fail
  refine c1.out.mono ?_
  rintro e w3 ⟨rfl, hb3⟩
  have v3 := v2.below hb3
  have q3 := below_trans q2 hb3
  clear c1 v2 q2 hb3
  by_cases hy : y = 0
  · by_cases hzz : z = 0
    · subst hy hzz
      obtain ⟨ha, hb, c, p1, p2⟩ := tr_of a b l u H1.out
      obtain ⟨_, _, d, r1, r2⟩ := tr_of a b m v H2.out
      have O := Lib.hid (order_law a b l m u v c d ha hb p1 p2 r1 r2)
      have U := Lib.hid (tr_len a b l u H1.out)
      have V := Lib.hid (tr_len a b m v H2.out)
      have ZC : Hid (CoZ c) := Lib.hid (by have := paC_z a l; rw [p1] at this; exact this)
      have ZD : Hid (CoZ d) := Lib.hid (by have := paC_z a m; rw [r1] at this; exact this)
      have P1 := Lib.hid p1
      have R1 := Lib.hid r1
      clear p1 p2 r1 r2 ha hb H1 H2
      have c1 := Lib.hid (vparse_any a l _ HL.out v3.ww v3.tt v3.pp)
      rw [P1.out] at c1
      go_wp2_with fail
      refine c1.out.mono ?_
      rintro e w4 ⟨nx, rfl, hsx, hb4⟩
      have hsx := hsx.any good_int (by omega)
      have v4 := v3.below hb4
      have q4 := below_trans q3 hb4
      clear c1 v3 q3 hb4
      obtain ⟨A4, cap4, rfl, hm1, hm2⟩ := hsx.form
      unfold maxLen at hm2
      unfold coV
      go_upto_region 10 with fail
      obtain ⟨x1, hbx, hxx⟩ := chk0_cb w4 c (.slice A4 c.nums.length cap4)
      have hW : chk0 w4 c (.slice A4 c.nums.length cap4) = w4.alloc (.cells #[.int .i64 c.epoch, .slice A4 c.nums.length cap4, .string (bs c.letter), .string (bs c.pre), .int .i64 c.preNum, .int .i64 c.rev] 30) := rfl
      rw [← hW]
      clear hW
      generalize chk0 w4 c (.slice A4 c.nums.length cap4) = w5 at x1 hbx hxx ⊢
      have v5 := v4.below hbx
      have q5 := below_trans q4 hbx
      have s5 := Below.sl good_int hbx hsx
      obtain ⟨g1, Hg1⟩ : ∃ g1, w4.heap.size = g1 := ⟨_, rfl⟩
      rw [Hg1] at x1 ⊢
      clear v4 q4 hbx hxx hsx Hg1
      have c1 := Lib.hid (vparse_any a m _ HM.out v5.ww v5.tt v5.pp)
      rw [R1.out] at c1
      go_wp2_with fail
      refine c1.out.mono ?_
      rintro e w6 ⟨ny, rfl, hsy, hb6⟩
      have hsy := hsy.any good_int (by omega)
      have v6 := v5.below hb6
      have q6 := below_trans q5 hb6
      have s6 := Below.sl good_int hb6 s5
      have x6 := x1.below hb6 (Blk.lt x1)
      clear c1 v5 q5 hb6 s5 x1
      obtain ⟨A6, cap6, rfl, hm3, hm4⟩ := hsy.form
      unfold maxLen at hm4
      unfold coV
      go_upto_region 11 with fail
      obtain ⟨y1, hby, hyy⟩ := chk0_cb w6 d (.slice A6 d.nums.length cap6)
      have hW : chk0 w6 d (.slice A6 d.nums.length cap6) = w6.alloc (.cells #[.int .i64 d.epoch, .slice A6 d.nums.length cap6, .string (bs d.letter), .string (bs d.pre), .int .i64 d.preNum, .int .i64 d.rev] 30) := rfl
      rw [← hW]
      clear hW
      generalize chk0 w6 d (.slice A6 d.nums.length cap6) = w7 at y1 hby hyy ⊢
      have v7 := v6.below hby
      have q7 := below_trans q6 hby
      have s7 := Below.sl good_int hby s6
      have r7 := Below.sl good_int hby hsy
      have x7 := x6.below hby (Blk.lt x6)
      obtain ⟨g2, Hg2⟩ : ∃ g2, w6.heap.size = g2 := ⟨_, rfl⟩
      rw [Hg2] at y1 ⊢
      clear v6 q6 hby hyy hsy Hg2 s6 x6
      obtain ⟨k, HK⟩ : ∃ k, Hid (cmpC c d = k) := ⟨_, Lib.hid rfl⟩
      have c1 := Lib.hid (compare_any a l m w7 (by have := HL.out; omega) (by have := HM.out; omega) v7.ww)
      rw [O.out.1, HK.out] at c1
      go_wp2_with fail
      refine c1.out.mono ?_
      rintro e w8 ⟨rfl, hb8⟩
      have v8 := v7.below hb8
      have q8 := below_trans q7 hb8
      have s8 := Below.sl good_int hb8 s7
      have r8 := Below.sl good_int hb8 r7
      have x8 := x7.below hb8 (Blk.lt x7)
      have y8 := y1.below hb8 (Blk.lt y1)
      clear c1 v7 q7 hb8 s7 r7 x7 y1
      have c1 := Lib.hid (check_any b u w8 (by have := U.out; omega) v8.ww)
      rw [O.out.2.2.1] at c1
      go_wp2_with fail
      refine c1.out.mono ?_
      rintro e w9 ⟨rfl, hb9⟩
      have v9 := v8.below hb9
      have q9 := below_trans q8 hb9
      have s9 := Below.sl good_int hb9 s8
      have r9 := Below.sl good_int hb9 r8
      have x9 := x8.below hb9 (Blk.lt x8)
      have y9 := y8.below hb9 (Blk.lt y8)
      clear c1 v8 q8 hb9 s8 r8 x8 y8
      have c1 := Lib.hid (compare_any b u v w9 (by have := U.out; omega) (by have := V.out; omega) v9.ww)
      rw [O.out.2.1, HK.out] at c1
      have e1 : (k == k) = true := by simp
      go_wp2_with fail
      refine c1.out.mono ?_
      rintro e wa ⟨rfl, hba⟩
      have va := v9.below hba
      have qa := below_trans q9 hba
      have sa := Below.sl good_int hba s9
      have ra := Below.sl good_int hba r9
      have xa := x9.below hba (Blk.lt x9)
      have ya := y9.below hba (Blk.lt y9)
      clear c1 v9 q9 hba s9 r9 x9 y9
      obtain ⟨d0, d1, d2, d3, d4, d5⟩ := xa.cells
      obtain ⟨f0, f1, f2, f3, f4, f5⟩ := ya.cells
      have c1 := Lib.hid (vcmp_any c d _ _ wa sa ra ZC.out ZD.out va.tt va.pp)
      rw [HK.out] at c1
      have HE : Hid ((k == 0) = ((bs l).toList == (bs m).toList)) := Lib.hid (by
        have := O.out.2.2.2.1
        rw [HK.out] at this
        rw [toList_bs, toList_bs]
        by_cases e : l = m
        · subst e; simp [this.2 rfl]
        · have hk : k ≠ 0 := fun h => e (this.1 h)
          have g1 : (k == 0) = false := by simpa using hk
          have g2 : (l == m) = false := by simpa using e
          rw [g1, g2])
      clear O U V
      go_wp2_with fail
      refine c1.out.mono ?_
      rintro e wb ⟨rfl, hbb⟩
      have qb := below_trans qa hbb
      clear c1 d0 d1 d2 d3 d4 d5 f0 f1 f2 f3 f4 f5
      by_cases hk : k = 0
      · have b2 : ((bs l).toList == (bs m).toList) = true := by rw [← HE.out]; simp [hk]
        subst hk
        go_wp2_with fail
        go_ret
        exact ⟨rfl, qb⟩
      · have b2 : ((bs l).toList == (bs m).toList) = false := by rw [← HE.out]; simpa using hk
        have b3 : (k == 0) = false := by simpa using hk
        clear hk
        go_wp2_with fail
        go_ret
        exact ⟨rfl, qb⟩
    · have b1 : (z != 0) = true := by simpa using hzz
      subst hy
      clear hzz
      go_wp2_with fail
      go_ret
      exact ⟨rfl, q3⟩
  · have b1 : (y != 0) = true := by simpa using hy
    clear hy
    go_wp2_with fail
    go_ret
    exact ⟨rfl, q3⟩
end Go.Proofs.YtdfpdmddiapnmaaDoor

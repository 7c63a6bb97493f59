/- The walk of the law on paragraphs that are written and read. -/
import Derived.Test.YthcgomainhaemaaDoorPaT
import Derived.Test.YthcgomainhaemaaDoorPaN
namespace Go.Proofs.YthcgomainhaemaaDoor
open Go.RowKit
theorem fnd_get (x : List UInt8) (p : List Fd) : ∀ k : Nat, (fnd x p k = -1 ∧ getS x p = ([], false)) ∨ ∃ (j : Nat) (h : j < p.length), fnd x p k = ((k + j : Nat) : Int) ∧ getS x p = ((p[j]).2, true) := by
  induction p with
  | nil => intro k; exact .inl ⟨rfl, rfl⟩
  | cons f t ih =>
    intro k
    rw [fnd, getS]
    by_cases h : f.1 = x
    · rw [if_pos h, if_pos h]
      exact .inr ⟨0, by simp, rfl, rfl⟩
    · rw [if_neg h, if_neg h]
      rcases ih (k + 1) with ⟨h1, h2⟩ | ⟨j, hj, h1, h2⟩
      · exact .inl ⟨h1, h2⟩
      · exact .inr ⟨j + 1, by simp; omega, by rw [h1]; omega, h2⟩
set_option maxRecDepth 20000 in
set_option maxHeartbeats 16000000 in
theorem law_backP (v : Value) (l : List (List Fd)) (s n : ByteArray) (w : World) (hsl : Sl 1 Rpara nowhere w v l) (hs : s.size ≤ maxLen) (hn : n.size ≤ maxLen) (hm : MaxC w) :
    Calls Tryd.prog 6 #[v, .string s, .string n] w fun e w' => e = .returned (.bool true) ∧ Below w.heap.size w w' := by
  obtain ⟨a, rfl⟩ : ∃ l, s = bs l := ⟨_, bs_self s⟩
  obtain ⟨x, rfl⟩ : ∃ l, n = bs l := ⟨_, bs_self n⟩
  clear hs hn
  have hz : ((bs a).size : Int) = (a.length : Int) := by rw [bs_size]
  have hzx : ((bs x).size : Int) = (x.length : Int) := by rw [bs_size]
  have hml := hm.lt
  go_enter Tryd.func6, Tryd.ntmps6
  go_wp2_with fail
  refine (awakeP _ hm).mono ?_
  rintro e w1 ⟨rfl, hb1⟩
  have hsl1 := Below.sl good_para hb1 hsl
  go_wp2_with fail
  refine (plight_any l v nowhere _ hsl1).mono ?_
  rintro e w2 ⟨rfl, hb2⟩
  have hsl2 := Below.sl good_para hb2 hsl1
  have q2 := below_trans hb1 hb2
  have hm2 := hm.below hml q2
  clear hsl1 hb1 hb2 hsl
  cases hL : lightP l with
  | false =>
    go_wp2_with fail
    go_ret
    exact ⟨rfl, q2⟩
  | true =>
    obtain ⟨hF, hT⟩ := light_w l hL
    clear hL
    by_cases hn : 6000 < a.length
    · have hd : decide ((6000 : Int) < (a.length : Int)) = true := by simp; omega
      go_wp2_with fail
      go_ret
      exact ⟨rfl, q2⟩
    · have hd : decide ((6000 : Int) < (a.length : Int)) = false := by simp; omega
      by_cases hnx : 2000 < x.length
      · have hd2 : decide ((2000 : Int) < (x.length : Int)) = true := by simp; omega
        go_wp2_with fail
        go_ret
        exact ⟨rfl, q2⟩
      · have hd2 : decide ((2000 : Int) < (x.length : Int)) = false := by simp; omega
        go_upto_region 5 with fail
        clear hd hd2
        go_wp2_with fail
        refine (pprint_any l v nowhere _ hsl2 hF (by omega) hm2).mono ?_
        rintro e w3 ⟨rfl, hb3⟩
        have hsl3 := Below.sl good_para hb3 hsl2
        have q3 := below_trans q2 hb3
        clear hsl2 hb3 q2 hm2
        obtain ⟨pr, HP⟩ : ∃ pr, Hid (pr = if chkP l = 0 then (parasT l, 0) else ([], chkP l)) := ⟨_, Lib.hid rfl⟩
        rw [show printP l = pr from HP.out.symm]
        obtain ⟨px, py⟩ := pr
        go_upto_if 42 with fail
        go_cut [] (fun wx => Below w.heap.size w wx ∧ Sl 1 Rpara nowhere wx v l)
        case first => as_aux_lemma =>
          by_cases h0 : chkP l = 0
          · have hP2 := HP.out
            rw [if_pos h0] at hP2
            injection hP2 with hx hy
            have hbk := pback_read l h0
            rw [← hx] at hT hbk
            have hyb : (py == 0) = true := by simpa using hy
            obtain ⟨A, cap, rfl, _, _⟩ := hsl3.form
            clear h0 hx hy HP
            go_wp2_with fail
            refine (pparse_any px _ (by omega)).mono ?_
            rw [hbk]
            rintro e w4 ⟨⟨v4, rfl, hs4⟩, hb4⟩
            obtain ⟨A4, cap4, rfl, _, _⟩ := hs4.form
            have b4 := Blk.new w4 30 #[.string ⟨#[]⟩, .int .i64 0, .int .i64 0]
            have hb5 : Below w4.heap.size w4 (w4.alloc (.cells #[.string ⟨#[]⟩, .int .i64 0, .int .i64 0] 30)) := (Below.refl _ _).alloc (Nat.le_refl _) _
            go_upto_region 8 with fail
            have s4 := Below.sl good_para hb5 hs4
            have s5 := Below.sl good_para hb5 (Below.sl good_para hb4 hsl3)
            have q5 := below_trans (below_trans q3 hb4) hb5
            generalize w4.alloc (.cells #[.string ⟨#[]⟩, .int .i64 0, .int .i64 0] 30) = W4 at b4 s4 s5 q5 ⊢
            have d0 := b4.cell 0
            have d1 := b4.cell 1
            have d2 := b4.cell 2
            simp at d0 d1 d2
            go_wp2_with fail
            refine (psame_yes l _ _ _ _ _ s4 s5).mono ?_
            rintro e w6 ⟨rfl, hb6⟩
            go_wp2_with fail
            go_meet
            exact ⟨below_trans q5 hb6, Below.sl good_para hb6 s5⟩
          · have hP2 := HP.out
            rw [if_neg h0] at hP2
            injection hP2 with hx hy
            have hyb : (py == 0) = false := by rw [hy]; simpa using h0
            clear h0 hx hy HP
            go_wp2_with fail
            go_meet
            exact ⟨q3, hsl3⟩
        case rest => as_aux_lemma =>
          obtain ⟨hbc, hsc⟩ := hcut
          clear hsl3 q3 HP hF hT
          obtain ⟨A, cap, rfl, hc1, hc2⟩ := hsc.form
          unfold maxLen at hc2
          go_wp2_with fail
          go_loopg [11] l.length (fun G s11 wr => ∃ k : Nat, k ≤ l.length ∧ G = l.length - k ∧ s11 = .int .i64 k ∧ Below w.heap.size w wr ∧ Sl 1 Rpara nowhere wr (.slice A l.length cap) l)
          case atStart => exact ⟨0, Nat.zero_le _, rfl, rfl, hbc, hsc⟩
          case round =>
            clear hbc hsc
            obtain ⟨k, hk, rfl, rfl, hbw, hsw⟩ := hrel
            by_cases hlt : k < l.length
            · obtain ⟨b, off, rfl, _, hc⟩ := hsw.para (by omega)
              obtain ⟨vg, ck, hg⟩ := hc k hlt
              clear hc
              generalize l[k] = gr at hg
              obtain ⟨A2, cap2, rfl, hd1, hd2⟩ := hg.form
              unfold maxLen at hd2
              have i1 : (0 : Int) ≤ (k : Int) := by omega
              have i2 : (k : Int) < (l.length : Int) := by omega
              go_wp2_with fail
              refine (get_any gr x _ nowhere _ hg).mono ?_
              rintro e w5 ⟨rfl, hb5⟩
              have s5 := Below.sl good_para hb5 hsw
              have g5 := Below.sl good_field hb5 hg
              have q5 := below_trans hbw hb5
              have ck5 := (hb5.cell (p := ⟨b, off + k, none⟩) (World.block_lt_of_cell? _ _ ck)).trans ck
              clear hsw hg hbw hb5 ck
              go_wp2_with fail
              refine (find_any gr x _ nowhere _ g5).mono ?_
              rintro e w6 ⟨rfl, rfl⟩
              rcases fnd_get x gr 0 with ⟨h1, h2⟩ | ⟨j, hj, h1, h2⟩
              · rw [h1, h2]
                have n1 : (bs ([] : List UInt8)).toList = [] := toList_bs _
                go_wp2_with fail
                go_roundg (l.length - (k + 1))
                case measure => omega
                case rel => exact ⟨k + 1, by omega, rfl, by simp, q5, s5⟩
              · obtain ⟨b2, off2, rfl, _, hc⟩ := g5.field (by omega)
                obtain ⟨_, c1⟩ := hc j hj
                clear hc
                rw [h1, h2]
                generalize gr[j] = f at c1
                obtain ⟨fn, fv⟩ := f
                simp only [Nat.zero_add] at c1 ⊢
                have i3 : (0 : Int) ≤ (j : Int) := by omega
                have i4 : (j : Int) < (gr.length : Int) := by omega
                have n1 := beq_bs fv
                go_wp2_with fail
                go_roundg (l.length - (k + 1))
                case measure => omega
                case rel => exact ⟨k + 1, by omega, rfl, by simp, q5, s5⟩
            · obtain rfl : k = l.length := by omega
              have hmr := hm.below hml hbw
              go_upto_region 17 with fail
              go_wp2_with fail
              refine (pparse_any a _ (by omega)).mono ?_
              have hR := parse_right a
              have hW := parse_w a
              obtain ⟨X, HX⟩ : ∃ x, Hid (parseP a = x) := ⟨_, Lib.hid rfl⟩
              rw [HX.out] at hR hW
              rw [HX.out]
              obtain ⟨kk, at_, cd⟩ := X
              simp only at hR hW
              rintro e w3 ⟨⟨v3, rfl, hs3⟩, hb3⟩
              simp only at hs3
              obtain ⟨A3, cap3, rfl, _, _⟩ := hs3.form
              have b3 := Blk.new w3 30 #[.string ⟨#[]⟩, .int .i64 at_, .int .i64 cd]
              have hb4 : Below w3.heap.size w3 (w3.alloc (.cells #[.string ⟨#[]⟩, .int .i64 at_, .int .i64 cd] 30)) := (Below.refl _ _).alloc (Nat.le_refl _) _
              go_upto_region 18 with fail
              have s3 := Below.sl good_para hb4 hs3
              have q4 := below_trans (below_trans hbw hb3) hb4
              have hm4 := hm.below hml q4
              generalize w3.alloc (.cells #[.string ⟨#[]⟩, .int .i64 at_, .int .i64 cd] 30) = W3 at b3 s3 q4 hm4 ⊢
              clear hs3 hb3 hb4 hbw hmr hsw
              have d0 := b3.cell 0
              have d1 := b3.cell 1
              have d2 := b3.cell 2
              simp at d0 d1 d2
              rcases hR with ⟨r1, r2⟩ | ⟨r1, r2, r3, r4⟩
              · injection r1 with ra rc
                subst ra rc
                obtain ⟨hPS, hsh⟩ := ps_of kk (by omega)
                have hbk := pback_read kk r2
                have hP2 : printP kk = (parasT kk, 0) := by rw [printP, if_pos r2]
                clear r2 HX hW
                go_wp2_with fail
                refine (pprint_any kk _ _ _ s3 hPS (by omega) hm4).mono ?_
                rw [hP2]
                rintro e w5 ⟨rfl, hb5⟩
                have s5 := Below.sl good_para hb5 s3
                have q5 := below_trans q4 hb5
                clear s3 q4 hb5 b3 d0 d1 d2 hP2 hPS
                generalize parasT kk = y at hsh hbk
                go_wp2_with fail
                refine (pparse_any y _ (by omega)).mono ?_
                rw [hbk]
                rintro e w6 ⟨⟨v6, rfl, hs6⟩, hb6⟩
                simp only at hs6
                obtain ⟨A6, cap6, rfl, _, _⟩ := hs6.form
                have b6 := Blk.new w6 30 #[.string ⟨#[]⟩, .int .i64 0, .int .i64 0]
                have hb7 : Below w6.heap.size w6 (w6.alloc (.cells #[.string ⟨#[]⟩, .int .i64 0, .int .i64 0] 30)) := (Below.refl _ _).alloc (Nat.le_refl _) _
                go_upto_region 22 with fail
                have s7 := Below.sl good_para hb7 hs6
                have s8 := Below.sl good_para hb7 (Below.sl good_para hb6 s5)
                have q7 := below_trans (below_trans q5 hb6) hb7
                generalize w6.alloc (.cells #[.string ⟨#[]⟩, .int .i64 0, .int .i64 0] 30) = W6 at b6 s7 s8 q7 ⊢
                have d0 := b6.cell 0
                have d1 := b6.cell 1
                have d2 := b6.cell 2
                simp at d0 d1 d2
                go_wp2_with fail
                refine (psame_yes kk _ _ _ _ _ s8 s7).mono ?_
                rintro e w8 ⟨rfl, hb8⟩
                go_wp2_with fail
                go_ret
                exact ⟨rfl, below_trans q7 hb8⟩
              · subst r1
                have e1 : (cd == 0) = false := by simpa using r4
                have e2 : (cd != 0) = true := by simpa using r4
                have e3 : decide ((0 : Int) ≤ at_) = true := by simpa using r2
                have e4 : decide (at_ < (a.length : Int)) = true := by simp; omega
                clear r2 r3 r4
                go_wp2_with fail
                go_ret
                exact ⟨rfl, q4⟩
end Go.Proofs.YthcgomainhaemaaDoor

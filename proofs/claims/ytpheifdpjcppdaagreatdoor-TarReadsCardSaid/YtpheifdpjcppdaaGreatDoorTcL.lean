/- Plain: the document's reading of an archive is the program's (tar). The law TarReads. -/
import Derived.Test.YtpheifdpjcppdaaGreatDoorTcJ
import Derived.Test.YtpheifdpjcppdaaGreatDoorEoF
namespace Go.Proofs.YtpheifdpjcppdaaGreatDoor
open Go.RowKit
theorem go_bad : ∀ (l a m : List En), (goE a l).2 ≠ 0 → goE a (l ++ m) = goE a l
  | [], _, _, h => absurd rfl h
  | e :: t, a, m, h => by
    rw [List.cons_append, goE, goE]
    rw [goE] at h
    by_cases hb : badE a e = 0
    · rw [if_pos hb] at h ⊢; rw [if_pos hb]; exact go_bad t _ m h
    · rw [if_neg hb, if_neg hb]
theorem go_good : ∀ (l a m : List En), (goE a l).2 = 0 → goE a (l ++ m) = goE (a ++ l) m
  | [], a, m, _ => by simp
  | e :: t, a, m, h => by
    rw [List.cons_append, goE]
    rw [goE] at h
    by_cases hb : badE a e = 0
    · rw [if_pos hb] at h ⊢
      rw [go_good t _ m h]; simp
    · rw [if_neg hb] at h; exact absurd h hb
theorem chk_go {l : List En} (h : l.length ≤ 4096) : chkL l = goE [] l := by rw [chkL, if_neg (by omega)]
theorem runT_more (b : List UInt8) (hb : b.length ≤ 1000000) : ∀ (n : Nat) (t : Td) (fr : Nat) (L : List En) (PL : List Nat) (p : Nat), TL t → 512 * L.length ≤ p → p ≤ b.length →
    ∃ M N, (runT b n t fr L PL p).1 = L ++ M ∧ (runT b n t fr L PL p).2.1 = PL ++ N ∧ 512 * (L ++ M).length ≤ b.length
  | 0, t, fr, L, PL, p, _, h1, h2 => ⟨[], [], by simp [runT], by simp [runT], by simp; omega⟩
  | n + 1, t, fr, L, PL, p, hT, h1, h2 => by
    rw [runT]
    cases hs : stepT b t p with
    | bad c => exact ⟨[], [], by simp, by simp, by simp; omega⟩
    | order => exact ⟨[], [], by simp, by simp, by simp; omega⟩
    | fin => exact ⟨[], [], by simp, by simp, by simp; omega⟩
    | tell t' nx =>
      obtain ⟨g1, g2, g3, _⟩ := step_tell (by omega) hT hs
      exact runT_more b hb n t' _ L PL nx g3 (by omega) g2
    | ent e nx =>
      obtain ⟨g1, g2, _, _⟩ := step_ent hT hs
      obtain ⟨M, N, r1, r2, r3⟩ := runT_more b hb n (fun _ => none) fr (L ++ [e]) (PL ++ [p]) nx TL.none (by simp; omega) g2
      exact ⟨[e] ++ M, [p] ++ N, by rw [r1]; simp, by rw [r2]; simp, by rw [← List.append_assoc]; exact r3⟩
theorem runU_same (b : List UInt8) (hb : b.length ≤ 1000000) : ∀ (n : Nat) (t : Td) (fr : Nat) (L : List En) (PL : List Nat) (p : Nat), TL t → (goE [] L).2 = 0 → 512 * L.length ≤ p → p ≤ b.length → PL.length = L.length →
    runU b n t fr L p = readA (runT b n t fr L PL p)
  | 0, t, fr, L, PL, p, _, hg, h1, h2, _ => by
    have hL : (chkL L).2 = 0 := by rw [chk_go (by omega)]; exact hg
    rw [runU, runT, readA, if_neg (fun h => h hL), if_neg (fun h => h rfl)]
  | n + 1, t, fr, L, PL, p, hT, hg, h1, h2, hPL => by
    have hL : (chkL L).2 = 0 := by rw [chk_go (by omega)]; exact hg
    rw [runU, runT]
    cases hs : stepT b t p with
    | bad c =>
      simp only
      rw [readA, if_neg (fun h => h hL), if_pos (step_bad hs).1]
    | order =>
      simp only
      rw [readA, if_neg (fun h => h hL), if_pos (show (15 : Int) ≠ 0 by decide)]
    | fin =>
      simp only
      rw [readA, if_neg (fun h => h hL), if_neg (fun h => h rfl)]
    | tell t' nx =>
      obtain ⟨g1, g2, g3, _⟩ := step_tell (by omega) hT hs
      exact runU_same b hb n t' _ L PL nx g3 hg (by omega) g2 hPL
    | ent e nx =>
      obtain ⟨g1, g2, _, _⟩ := step_ent hT hs
      simp only
      rw [chk_go (l := L ++ [e]) (by simp; omega)]
      by_cases hbad : (goE [] (L ++ [e])).2 = 0
      · rw [if_neg (fun h => h hbad)]
        exact runU_same b hb n _ fr (L ++ [e]) (PL ++ [p]) nx TL.none hbad (by simp; omega) g2 (by simp [hPL])
      · rw [if_pos hbad]
        obtain ⟨M, N, r1, r2, r3⟩ := runT_more b hb n (fun _ => none) fr (L ++ [e]) (PL ++ [p]) nx TL.none (by simp; omega) g2
        have hfi : (goE [] (L ++ [e])).1 = (L.length : Int) := by
          rw [go_good _ _ _ hg] at hbad ⊢
          rw [List.nil_append, goE] at hbad ⊢
          by_cases hbb : badE L e = 0
          · rw [if_pos hbb] at hbad; exact absurd rfl hbad
          · rw [if_neg hbb]
        generalize runT b n (fun _ => none) fr (L ++ [e]) (PL ++ [p]) nx = R at r1 r2
        rw [readA, r1, chk_go (by omega), go_bad _ _ _ hbad, if_pos hbad, hfi, Int.toNat_natCast, r2, List.append_assoc, List.getD_eq_getElem?_getD, List.getElem?_append_right (by omega), hPL, Nat.sub_self]
        rfl
theorem readU_same (b : List UInt8) (hb : b.length ≤ 1000000) : runU b (b.length + 1) (fun _ => none) 0 [] 0 = readA (runT b (b.length + 1) (fun _ => none) 0 [] [] 0) :=
  runU_same b hb _ _ _ [] [] 0 TL.none rfl (Nat.zero_le _) (Nat.zero_le _) rfl
theorem readA_len (b : List UInt8) (hb : b.length ≤ 1000000) : (readA (runT b (b.length + 1) (fun _ => none) 0 [] [] 0)).1.length ≤ 1000000 := by
  obtain ⟨M, N, r1, _, r3⟩ := runT_more b hb (b.length + 1) (fun _ => none) 0 [] [] 0 TL.none (Nat.zero_le _) (Nat.zero_le _)
  rw [readA]
  split
  · simp
  split
  · simp
  · rw [r1]; simp only [List.nil_append] at r3 ⊢; omega
set_option maxRecDepth 20000 in
set_option maxHeartbeats 8000000 in
theorem law_tarreads (v : Value) (b : List UInt8) (w : World) (hsb : Sl 1 Rbyte nowhere w v b) (hT : Tab w) (hD : Deb w) :
    Calls Tryz.prog 4 #[v] w fun r w' => r = .returned (.bool true) ∧ Below w.heap.size w w' := by
  obtain ⟨A, cap, rfl, hc1, hc2⟩ := hsb.form
  unfold maxLen at hc2
  have haw := awakeT w hD hT
  clear hT hD
  go_enter Tryz.func4, Tryz.ntmps4
  go_wp2_with fail
  refine (haw).mono ?_
  rintro e w1 ⟨rfl, hb1⟩
  clear haw
  have hs1 := Below.sl good_byte hb1 hsb
  by_cases hl : 16000 < b.length
  · have t1 : decide ((16000 : Int) < (b.length : Int)) = true := decide_eq_true (by omega)
    have t1b : decide (16000 < b.length) = true := decide_eq_true hl
    clear hl
    go_wp2_with fail
    go_ret
    exact ⟨rfl, hb1⟩
  have t1 : decide ((16000 : Int) < (b.length : Int)) = false := decide_eq_false (by omega)
  have t1b : decide (16000 < b.length) = false := decide_eq_false hl
  have hr := tread_any (.slice A b.length cap) b nowhere w1 hs1 (by omega)
  have hrs := readU_same b (by omega)
  have hln := readA_len b (by omega)
  have hrr := fun W (h : Sl 1 Rbyte nowhere W (.slice A b.length cap) b) => rtread_any (.slice A b.length cap) b nowhere W h (by omega)
  rw [hrs] at hrr
  clear hrs
  generalize readA (runT b (b.length + 1) (fun _ => none) 0 [] [] 0) = x at hr hrr hln
  obtain ⟨xl, xa, xc⟩ := x
  go_upto_region 6 with (go_at_call 11; refine hr.mono ?_; rintro r w2 ⟨⟨v2, f2, rfl, he2, _⟩, hb2⟩; clear hr; obtain ⟨A2, c2, rfl⟩ := own_form he2.row)
  have hb3 := hb2.alloc hb2.size (.cells #[.string ⟨#[]⟩, .int .i64 xa, .int .i64 xc] 31)
  have hsl2 := Below.sl good_ent ((Below.refl w2.heap.size w2).alloc (Nat.le_refl _) (.cells #[.string ⟨#[]⟩, .int .i64 xa, .int .i64 xc] 31)) he2.sl
  have bF := Blk.new w2 31 #[.string ⟨#[]⟩, .int .i64 xa, .int .i64 xc]
  have hs3 := Below.sl good_byte hb3 hs1
  have q3 := hb1.trans (hb3.mono hb1.size)
  clear hs1 hb2 hb3 he2 hsb hb1
  generalize w2.alloc (.cells #[.string ⟨#[]⟩, .int .i64 xa, .int .i64 xc] 31) = w3 at hsl2 bF hs3 q3 ⊢
  generalize w2.heap.size = gF at bF ⊢
  have hr3 := hrr w3 hs3
  clear hrr
  go_upto_region 7 with (go_at_call 12; refine hr3.mono ?_; rintro r w4 ⟨⟨v4, f4, rfl, he4⟩, hb4⟩; clear hr3; obtain ⟨A4, c4, rfl⟩ := own_form he4.row)
  have hbA := (Below.refl w4.heap.size w4).alloc (Nat.le_refl _) (.cells #[.string ⟨#[]⟩, .int .i64 xa, .int .i64 xc] 31)
  have hb5 := hb4.trans (hbA.mono hb4.size)
  have hsl4 := Below.sl good_ent hbA he4.sl
  have hsl2 := Below.sl good_ent hb5 hsl2
  have bF2 := bF.below hb5 bF.lt
  have bK := Blk.new w4 31 #[.string ⟨#[]⟩, .int .i64 xa, .int .i64 xc]
  have q5 := q3.trans (hb5.mono q3.size)
  clear hs3 hb4 hb5 hbA he4 bF q3
  generalize w4.alloc (.cells #[.string ⟨#[]⟩, .int .i64 xa, .int .i64 xc] 31) = w5 at hsl4 hsl2 bF2 bK q5 ⊢
  generalize w4.heap.size = gK at bK ⊢
  have hsm := rsame_any xl xl _ _ nowhere nowhere w5 hsl2 hsl4 hln
  rw [sameL_self] at hsm
  go_wp2_with (go_at_call 13; refine hsm.mono ?_; rintro r w6 ⟨rfl, hb6⟩; clear hsm; have bF6 := bF2.below hb6 bF2.lt; have bK6 := bK.below hb6 bK.lt; have k0 := bF6.cell 0; have k1 := bF6.cell 1; have k2 := bF6.cell 2; have m0 := bK6.cell 0; have m1 := bK6.cell 1; have m2 := bK6.cell 2; simp at k0 k1 k2 m0 m1 m2)
  go_ret
  exact ⟨by simp, q5.trans (hb6.mono q5.size)⟩
end Go.Proofs.YtpheifdpjcppdaaGreatDoor

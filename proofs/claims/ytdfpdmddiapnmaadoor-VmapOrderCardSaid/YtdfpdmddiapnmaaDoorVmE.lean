/- Walks of vmap's Check, Print and Translate. -/
import Derived.Test.YtdfpdmddiapnmaaDoorVmD
namespace Go.Proofs.YtdfpdmddiapnmaaDoor
open Go.RowKit
def chk0 (w : World) (c : Co) (nv : Value) : World := w.alloc (.cells #[.int .i64 c.epoch, nv, .string (bs c.letter), .string (bs c.pre), .int .i64 c.preNum, .int .i64 c.rev] 30)
theorem chk0_cb (w : World) (c : Co) (nv : Value) : CB (chk0 w c nv) w.heap.size c nv ∧ Below w.heap.size w (chk0 w c nv) ∧ (chk0 w c nv).heap.size = w.heap.size + 1 := ⟨Blk.new w _ _, (Below.refl _ _).alloc (Nat.le_refl _) _, by simp [chk0]⟩
set_option maxRecDepth 100000 in
set_option maxHeartbeats 8000000 in
theorem vcheck_any (c : Co) (nv : Value) (X : Nat → Prop) (w : World) (hsl0 : Sl 1 Rint X w nv c.nums) (hZ : CoZ c) (ht : Tab w) (hp : Pres w) :
    Calls Tryd.prog 20 #[coV c nv] w fun e w' => e = .returned (.int .i64 (chkC c)) ∧ Below w.heap.size w w' := by
  have hsl := hsl0.any good_int (by omega)
  obtain ⟨A, cap, rfl, hc1, hc2⟩ := hsl.form
  unfold maxLen at hc2
  clear hsl0
  have HC : Hid (chkC c = if coOk c = true then 0 else 11) := Lib.hid rfl
  have HO := Lib.hid (coOk_eq c)
  have HZ := Lib.hid hZ
  obtain ⟨z1, z2, z3⟩ := hZ
  obtain ⟨t0, hb0, hz0⟩ := chk0_cb w c (.slice A c.nums.length cap)
  show Calls Tryd.prog 20 #[.agg #[.int .i64 c.epoch, .slice A c.nums.length cap, .string (bs c.letter), .string (bs c.pre), .int .i64 c.preNum, .int .i64 c.rev]] w _
  go_enter Tryd.func20, Tryd.ntmps20
  go_upto_region 1 with fail
  have hW : chk0 w c (.slice A c.nums.length cap) = w.alloc (.cells #[.int .i64 c.epoch, .slice A c.nums.length cap, .string (bs c.letter), .string (bs c.pre), .int .i64 c.preNum, .int .i64 c.rev] 30) := rfl
  rw [← hW]
  clear hW
  generalize chk0 w c (.slice A c.nums.length cap) = w0 at t0 hb0 hz0 ⊢
  have hsl1 := Below.sl good_int hb0 hsl
  have ht1 := ht.below hb0
  have hp1 := hp.below hb0
  have hlt0 : w.heap.size < w0.heap.size := by omega
  clear hz0
  obtain ⟨d0, d1, d2, d3, d4, d5⟩ := t0.cells
  by_cases hn0 : c.nums = []
  · have e0 : c.nums.length = 0 := by rw [hn0]; rfl
    have HV : Hid (chkC c = 11) := Lib.hid (by rw [HC.out, if_neg (by rw [HO.out, hn0]; simp)])
    rw [e0] at d1 ⊢
    clear hn0 e0
    go_wp2_with fail
    go_ret
    exact ⟨by rw [HV.out]; rfl, hb0⟩
  · have hpos : 0 < c.nums.length := List.length_pos_iff.2 hn0
    have e0 : ((c.nums.length : Int) == 0) = false := by simp; omega
    have HN0 := Lib.hid hn0
    clear hn0
    go_wp2_with fail
    have hbA : Below w0.heap.size w0 ((w0.alloc (.cells (ivs [c.epoch, c.preNum, c.rev]).toArray 3)).alloc (.cells #[.slice (some ⟨w0.heap.size, 0, none⟩) 3 3, .slice A c.nums.length cap] 28)) := ((Below.refl _ _).alloc (Nat.le_refl _) _).alloc (by simp) _
    have hs1 := sl_lit w0.heap.size [c.epoch, c.preNum, c.rev] ((w0.alloc (.cells (ivs [c.epoch, c.preNum, c.rev]).toArray 3)).alloc (.cells #[.slice (some ⟨w0.heap.size, 0, none⟩) 3 3, .slice A c.nums.length cap] 28)) ((Blk.new w0 _ _).alloc _) (by simp)
    have hs2 := Below.sl good_int hbA hsl1
    have hB2 : Blk ((w0.alloc (.cells (ivs [c.epoch, c.preNum, c.rev]).toArray 3)).alloc (.cells #[.slice (some ⟨w0.heap.size, 0, none⟩) 3 3, .slice A c.nums.length cap] 28)) (w0.heap.size + 1) 28 #[.slice (some ⟨w0.heap.size, 0, none⟩) 3 3, .slice A c.nums.length cap] := by
      have := Blk.new (w0.alloc (.cells (ivs [c.epoch, c.preNum, c.rev]).toArray 3)) 28 #[.slice (some ⟨w0.heap.size, 0, none⟩) 3 3, .slice A c.nums.length cap]
      rw [show (w0.alloc (.cells (ivs [c.epoch, c.preNum, c.rev]).toArray 3)).heap.size = w0.heap.size + 1 by simp] at this
      exact this
    refine (concat_any (w0.heap.size + 1) _ _ [c.epoch, c.preNum, c.rev] c.nums nowhere _ hs1 hs2 (by simp; omega) (by simp) (hB2.cell 0) (hB2.cell 1)).mono ?_
    rintro e w2 ⟨v, rfl, hown, hb2⟩
    have hbB := hbA.trans (hb2.mono (by simp; omega))
    clear hbA hs1 hs2 hB2
    have t2 := t0.below hbB hlt0
    have hb02 := hb0.trans (hbB.mono (by omega))
    have ht2 := ht1.below hbB
    have hp2 := hp1.below hbB
    have hsl2 := Below.sl good_int hbB hsl1
    have hL := (ivs_own hown (X := nowhere) (fun _ _ h => h)).sl good_int
    obtain ⟨A4, c4, rfl, hc4, hm4⟩ := hL.form
    unfold maxLen at hm4
    have hl304 : ([c.epoch, c.preNum, c.rev] ++ c.nums).length ≤ 303 := by simp; omega
    have HNB : Hid (nBs c = ([c.epoch, c.preNum, c.rev] ++ c.nums).all numOk) := Lib.hid rfl
    clear hown hb2 d0 d1 d2 d3 d4 d5 t0 hb0 ht1 hp1 hsl1 hsl ht hp hbB
    obtain ⟨d0, d1, d2, d3, d4, d5⟩ := t2.cells
    generalize [c.epoch, c.preNum, c.rev] ++ c.nums = L at hL hc4 hl304 HNB ⊢
    have hlt2 : w.heap.size < w2.heap.size := t2.lt
    clear hlt0
    go_wp2_with fail
    go_loopg [21] L.length (fun G s21 wx => ∃ k : Nat, k ≤ L.length ∧ G = L.length - k ∧ s21 = .int .i64 k ∧ w2 = wx ∧ Hid (nBs c = (L.drop k).all numOk))
    case atStart => exact ⟨0, Nat.zero_le _, rfl, rfl, rfl, HNB⟩
    case round =>
      clear HNB
      obtain ⟨k, hk, rfl, rfl, rfl, HE⟩ := hrel
      by_cases hlt : k < L.length
      · obtain ⟨_, _, _, b, off, rfl, hc⟩ := hL.ints (by omega)
        have ck := hc k hlt
        have HST : Hid (nBs c = (numOk L[k] && (L.drop (k + 1)).all numOk)) := Lib.hid (by rw [HE.out, List.drop_eq_getElem_cons hlt, List.all_cons])
        clear hc HE
        generalize L[k] = n at ck HST
        by_cases h1 : n < 0
        · have HV : Hid (chkC c = 11) := Lib.hid (by rw [HC.out, if_neg (by rw [HO.out, HST.out]; simp [numOk]; omega)])
          go_wp2_with fail
          go_ret
          exact ⟨by rw [HV.out]; rfl, hb02⟩
        · by_cases h2 : 999999999 < n
          · have HV : Hid (chkC c = 11) := Lib.hid (by rw [HC.out, if_neg (by rw [HO.out, HST.out]; simp [numOk]; omega)])
            go_wp2_with fail
            go_ret
            exact ⟨by rw [HV.out]; rfl, hb02⟩
          · have HV : Hid (nBs c = (L.drop (k + 1)).all numOk) := Lib.hid (by rw [HST.out, show numOk n = true by simp [numOk]; omega]; rfl)
            clear HST
            go_wp2_with fail
            go_roundg (L.length - (k + 1))
            case measure => omega
            case rel => exact ⟨k + 1, by omega, rfl, by go_num, rfl, HV⟩
      · obtain rfl : k = L.length := by omega
        have HV : Hid (nBs c = true) := Lib.hid (by rw [HE.out, List.drop_length]; rfl)
        have HO2 : Hid (coOk c = (letOk c.letter && (preOk c && decide ((textC 1 c).length ≤ 64)))) := Lib.hid (by rw [HO.out, HV.out]; have := HN0.out; simp [List.isEmpty_iff, this])
        have HS := Lib.hid (coS_of c HZ.out HV.out)
        clear HE HO HV hL hc4 hl304 hm4 hk hlt
        have hz : ((bs c.letter).size : Int) = (c.letter.length : Int) := by rw [bs_size]
        go_upto_region 9 with fail
        go_cut [47] (fun s47 wx => s47 = .bool (!letOk c.letter) ∧ w2 = wx)
        case first =>
          by_cases hl0 : c.letter = []
          · have HV : Hid (letOk c.letter = true) := Lib.hid (by rw [hl0]; rfl)
            have n1 : (bs c.letter).toList = [] := by rw [toList_bs]; exact hl0
            have n2 : (bs c.letter).toList.isEmpty = true := by rw [n1]; rfl
            clear hl0
            go_wp2_with fail
            go_meet
            exact ⟨by rw [HV.out]; rfl, rfl⟩
          · have n1 : ¬ (bs c.letter).toList = [] := by rw [toList_bs]; exact hl0
            have n2 : (bs c.letter).toList.isEmpty = false := by simpa using n1
            have hpl : 0 < c.letter.length := List.length_pos_iff.2 hl0
            by_cases h1 : c.letter.length = 1
            · obtain ⟨x, hx⟩ := List.length_eq_one_iff.1 h1
              have hs0 : 0 < (bs c.letter).size := by rw [bs_size]; omega
              have hg : (bs c.letter)[0]'hs0 = x := by
                have : ∀ (l : List UInt8) (h : 0 < (bs l).size), l = [x] → (bs l)[0]'h = x := by intro l h e; subst e; rfl
                exact this _ hs0 hx
              have HV : Hid (letOk c.letter = isSmall x) := Lib.hid (by rw [hx]; rfl)
              have b1 : (((bs c.letter).size : Int) != 1) = false := by rw [hz]; simp; omega
              have HG := Lib.hid hg
              clear hl0 h1 hx hg hz hpl
              go_wp2_with fail
              refine (vsmall_any _ _).mono ?_
              rintro e wq ⟨rfl, rfl⟩
              rw [HG.out]
              go_wp2_with fail
              go_meet
              exact ⟨by rw [HV.out], rfl⟩
            · have HV : Hid (letOk c.letter = false) := Lib.hid (by
                match hl : c.letter with
                | [] => exact absurd hl hl0
                | [x] => rw [hl] at h1; exact absurd rfl h1
                | x :: y :: u => rfl)
              have b1 : (((bs c.letter).size : Int) != 1) = true := by rw [hz]; simp; omega
              clear hl0 h1 hz hpl
              go_wp2_with fail
              go_meet
              exact ⟨by rw [HV.out]; rfl, rfl⟩
        case rest =>
          obtain ⟨rfl, rfl⟩ := hcut
          cases hlo : letOk c.letter with
          | false =>
            have HV : Hid (chkC c = 11) := Lib.hid (by rw [HC.out, if_neg (by rw [HO2.out, hlo]; simp)])
            go_wp2_with fail
            go_ret
            exact ⟨by rw [HV.out]; rfl, hb02⟩
          | true =>
            have HO3 : Hid (coOk c = (preOk c && decide ((textC 1 c).length ≤ 64))) := Lib.hid (by rw [HO2.out, hlo]; rfl)
            clear HO2 hlo hz
            go_upto_region 11 with fail
            go_cut [66] (fun s66 wx => s66 = .bool (!preOk c) ∧ w2 = wx)
            case first =>
              have HQ : Hid (preOk c = if c.pre = [] then decide (c.preNum = 0) else presL.contains c.pre) := Lib.hid rfl
              by_cases hp0 : c.pre = []
              · have n1 : (bs c.pre).toList = [] := by rw [toList_bs]; exact hp0
                have n2 : (bs c.pre).toList.isEmpty = true := by rw [n1]; rfl
                have HV : Hid (preOk c = decide (c.preNum = 0)) := Lib.hid (by rw [HQ.out, if_pos hp0])
                clear hp0
                go_wp2_with fail
                go_meet
                exact ⟨by rw [HV.out]; rfl, rfl⟩
              · have n1 : ¬ (bs c.pre).toList = [] := by rw [toList_bs]; exact hp0
                have n2 : (bs c.pre).toList.isEmpty = false := by simpa using n1
                have HV : Hid (preOk c = presL.contains c.pre) := Lib.hid (by rw [HQ.out, if_neg hp0])
                have HR := Lib.hid (rank_has c.pre)
                clear hp0
                go_wp2_with fail
                refine (preRank_any c.pre _ hp2).mono ?_
                rintro e wq ⟨rfl, rfl⟩
                rw [← HV.out] at HR
                cases hpo : preOk c with
                | true =>
                  have b1 : (preRank c.pre == 4) = false := by rw [HR.out, hpo]; rfl
                  go_wp2_with fail
                  go_meet
                  exact ⟨by rw [hpo]; rfl, rfl⟩
                | false =>
                  have b1 : (preRank c.pre == 4) = true := by rw [HR.out, hpo]; rfl
                  go_wp2_with fail
                  go_meet
                  exact ⟨by rw [hpo]; rfl, rfl⟩
            case rest =>
              obtain ⟨rfl, rfl⟩ := hcut
              cases hpo : preOk c with
              | false =>
                have HV : Hid (chkC c = 11) := Lib.hid (by rw [HC.out, if_neg (by rw [HO3.out, hpo]; simp)])
                go_wp2_with fail
                go_ret
                exact ⟨by rw [HV.out]; rfl, hb02⟩
              | true =>
                have HO4 : Hid (coOk c = decide ((textC 1 c).length ≤ 64)) := Lib.hid (by rw [HO3.out, hpo]; rfl)
                clear HO3 hpo
                go_wp2_with fail
                refine (text_any 1 c _ nowhere _ hsl2 HS.out ht2).mono ?_
                rintro e w3 ⟨rfl, hb3⟩
                have hz : ((bs (textC 1 c)).size : Int) = ((textC 1 c).length : Int) := by rw [bs_size]
                by_cases h64 : 64 < (textC 1 c).length
                · have b1 : decide ((64 : Int) < ((bs (textC 1 c)).size : Int)) = true := by rw [hz]; simp; omega
                  have HV : Hid (chkC c = 11) := Lib.hid (by rw [HC.out, if_neg (by rw [HO4.out]; simp; omega)])
                  clear h64 hz
                  go_wp2_with fail
                  go_ret
                  exact ⟨by rw [HV.out]; rfl, hb02.trans (hb3.mono (by omega))⟩
                · have b1 : decide ((64 : Int) < ((bs (textC 1 c)).size : Int)) = false := by rw [hz]; simp; omega
                  have HV : Hid (chkC c = 0) := Lib.hid (by rw [HC.out, if_pos (by rw [HO4.out]; simp; omega)])
                  clear h64 hz
                  go_wp2_with fail
                  go_ret
                  exact ⟨by rw [HV.out]; rfl, hb02.trans (hb3.mono (by omega))⟩
set_option maxRecDepth 100000 in
set_option maxHeartbeats 8000000 in
theorem vprint_any (f : Int) (c : Co) (nv : Value) (X : Nat → Prop) (w : World) (hsl0 : Sl 1 Rint X w nv c.nums) (hZ : CoZ c) (ht : Tab w) (hp : Pres w) :
    Calls Tryd.prog 17 #[.int .i64 f, coV c nv] w fun e w' => e = .returned (.tuple #[.string (bs (prC f c).1), .int .i64 (prC f c).2]) ∧ Below w.heap.size w w' := by
  have hsl := hsl0.any good_int (by omega)
  obtain ⟨A, cap, rfl, hc1, hc2⟩ := hsl.form
  unfold maxLen at hc2
  clear hsl0
  have HP : Hid (prC f c = if fmtOk f = true then (if fits f c = true then (textC f c, 0) else ([], 11)) else ([], 9)) := Lib.hid rfl
  obtain ⟨t0, hb0, hz0⟩ := chk0_cb w c (.slice A c.nums.length cap)
  show Calls Tryd.prog 17 #[.int .i64 f, .agg #[.int .i64 c.epoch, .slice A c.nums.length cap, .string (bs c.letter), .string (bs c.pre), .int .i64 c.preNum, .int .i64 c.rev]] w _
  go_enter Tryd.func17, Tryd.ntmps17
  go_upto_region 1 with fail
  have hW : chk0 w c (.slice A c.nums.length cap) = w.alloc (.cells #[.int .i64 c.epoch, .slice A c.nums.length cap, .string (bs c.letter), .string (bs c.pre), .int .i64 c.preNum, .int .i64 c.rev] 30) := rfl
  rw [← hW]
  clear hW
  generalize chk0 w c (.slice A c.nums.length cap) = w0 at t0 hb0 hz0 ⊢
  have hsl1 := Below.sl good_int hb0 hsl
  have ht1 := ht.below hb0
  have hp1 := hp.below hb0
  have hlt0 : w.heap.size < w0.heap.size := by omega
  clear hz0
  obtain ⟨d0, d1, d2, d3, d4, d5⟩ := t0.cells
  go_wp2_with fail
  refine (none_any f _).mono ?_
  rintro e wq ⟨rfl, rfl⟩
  cases hf : fmtOk f with
  | false =>
    have HV : Hid (prC f c = ([], 9)) := Lib.hid (by rw [HP.out, if_neg (by rw [hf]; simp)])
    go_wp2_with fail
    go_ret2
    exact ⟨by rw [HV.out]; rfl, hb0⟩
  | true =>
    have HF : Hid (fits f c = (coOk c && !(decide (f = 3) && (decide (c.epoch ≠ 0) || decide (64 < (textC f c).length))))) := Lib.hid rfl
    have HP2 : Hid (prC f c = if fits f c = true then (textC f c, 0) else ([], 11)) := Lib.hid (by rw [HP.out, if_pos hf])
    have HCK : Hid (chkC c = if coOk c = true then 0 else 11) := Lib.hid rfl
    clear HP hf
    go_wp2_with fail
    refine (vcheck_any c _ nowhere _ hsl1 hZ ht1 hp1).mono ?_
    rintro e w1 ⟨rfl, hb1⟩
    cases hc : coOk c with
    | false =>
      have HK : Hid (chkC c = 11) := Lib.hid (by rw [HCK.out, if_neg (by rw [hc]; simp)])
      have HV : Hid (prC f c = ([], 11)) := Lib.hid (by rw [HP2.out, if_neg (by rw [HF.out, hc]; simp)])
      rw [HK.out]
      go_wp2_with fail
      go_ret2
      exact ⟨by rw [HV.out]; rfl, hb0.trans (hb1.mono (by omega))⟩
    | true =>
      have HK : Hid (chkC c = 0) := Lib.hid (by rw [HCK.out, if_pos hc])
      have HF2 : Hid (fits f c = !(decide (f = 3) && (decide (c.epoch ≠ 0) || decide (64 < (textC f c).length)))) := Lib.hid (by rw [HF.out, hc]; rfl)
      have hS : CoS c := coS_of c hZ (by have := coOk_eq c; rw [hc] at this; simp at this; exact this.2.1)
      have HS := Lib.hid hS
      rw [HK.out]
      have t1 := t0.below hb1 hlt0
      have hb01 := hb0.trans (hb1.mono (by omega))
      have ht2 := ht1.below hb1
      have hsl2 := Below.sl good_int hb1 hsl1
      have hlt1 : w.heap.size < w1.heap.size := t1.lt
      clear d0 d1 d2 d3 d4 d5 hS hc HF
      obtain ⟨d0, d1, d2, d3, d4, d5⟩ := t1.cells
      go_wp2_with fail
      refine (text_any f c _ nowhere _ hsl2 HS.out ht2).mono ?_
      rintro e w2 ⟨rfl, hb2⟩
      have t2 := t1.below hb2 hlt1
      have hb02 := hb01.trans (hb2.mono (by omega))
      have hz : ((bs (textC f c)).size : Int) = ((textC f c).length : Int) := by rw [bs_size]
      clear d0 d1 d2 d3 d4 d5
      obtain ⟨d0, _⟩ := t2.cells
      by_cases h3 : f = 3
      · subst h3
        by_cases h0 : c.epoch = 0
        · have b2 : (c.epoch != 0) = false := by simpa using h0
          by_cases h64 : 64 < (textC 3 c).length
          · have b1 : decide ((64 : Int) < ((bs (textC 3 c)).size : Int)) = true := by rw [hz]; simp; omega
            have HV : Hid (prC 3 c = ([], 11)) := Lib.hid (by rw [HP2.out, if_neg (by rw [HF2.out]; simp [h64])])
            clear h64 hz h0
            go_wp2_with fail
            go_ret2
            exact ⟨by rw [HV.out]; rfl, hb02⟩
          · have b1 : decide ((64 : Int) < ((bs (textC 3 c)).size : Int)) = false := by rw [hz]; simp; omega
            have HV : Hid (prC 3 c = (textC 3 c, 0)) := Lib.hid (by rw [HP2.out, if_pos (by rw [HF2.out]; simp [h64, h0])])
            clear h64 hz h0
            go_wp2_with fail
            go_ret2
            exact ⟨by rw [HV.out]; rfl, hb02⟩
        · have b2 : (c.epoch != 0) = true := by simpa using h0
          have HV : Hid (prC 3 c = ([], 11)) := Lib.hid (by rw [HP2.out, if_neg (by rw [HF2.out]; simp [h0])])
          clear hz h0
          go_wp2_with fail
          go_ret2
          exact ⟨by rw [HV.out]; rfl, hb02⟩
      · have b3 : (f == 3) = false := by simpa using h3
        have HV : Hid (prC f c = (textC f c, 0)) := Lib.hid (by rw [HP2.out, if_pos (by rw [HF2.out]; simp [h3])])
        clear h3 hz
        go_wp2_with fail
        go_ret2
        exact ⟨by rw [HV.out]; rfl, hb02⟩
end Go.Proofs.YtdfpdmddiapnmaaDoor

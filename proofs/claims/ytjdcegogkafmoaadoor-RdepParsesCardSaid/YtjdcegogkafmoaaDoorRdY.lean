/- The walk of rdep.check. Printed by gen_rdy.py. -/
import Derived.Test.YtjdcegogkafmoaaDoorRdX
namespace Go.Proofs.YtjdcegogkafmoaaDoor
open Go.RowKit
def ChkK (m : Nat) : Prop := ∀ (d : Rdp) (kv : Value) (X : Nat → Prop) (w : World), Sk 5 (Rr m) X w kv d.kids → TT w → txR d →
  Calls Tryd.prog 22 #[richV d kv] w fun e w' => e = .returned (.int .i64 (chkR d)) ∧ Below w.heap.size w w'
theorem chkRs_drop (l : List Rdp) (k : Nat) (h : k < l.length) : chkRs (l.drop k) = if chkR l[k] = 0 then chkRs (l.drop (k + 1)) else chkR l[k] := by
  rw [List.drop_eq_getElem_cons h, chkRs]
set_option maxRecDepth 20000 in
set_option maxHeartbeats 16000000 in
theorem check_step (m : Nat) (IH : ∀ j, m = j + 1 → ChkK j) : ChkK m := by
  intro d kv X w hs hT htx
  obtain ⟨A, cap, rfl, hc1, hc2⟩ := hs.form
  unfold maxLen at hc2
  obtain ⟨⟨t1, t2, t3⟩, htk⟩ := txR_own d htx
  obtain ⟨T, HT⟩ : ∃ T, Hid (T = chkR d) := ⟨_, Lib.hid rfl⟩
  rw [← HT.out]
  have HIH := Lib.hid IH
  have HTX := Lib.hid htk
  clear IH htx htk
  simp only [richV, richC]
  go_enter Tryd.func22, Tryd.ntmps22
  go_upto_region 1 with fail

  have bk := Blk.new w 27 #[.string (bs d.op), .string (bs d.name), .int .i64 d.aop, .string (bs d.ver), .slice A d.kids.length cap]
  have hb1 := (Below.refl w.heap.size w).alloc (Nat.le_refl _) (.cells #[.string (bs d.op), .string (bs d.name), .int .i64 d.aop, .string (bs d.ver), .slice A d.kids.length cap] 27)
  generalize w.alloc (.cells #[.string (bs d.op), .string (bs d.name), .int .i64 d.aop, .string (bs d.ver), .slice A d.kids.length cap] 27) = W1 at bk hb1 ⊢
  generalize w.heap.size = gk at bk ⊢
  obtain ⟨k0, k1, k2, k3, k4⟩ := outs5 bk

  have TT1 := hT.below hb1
  have hs1 := Below.sk (good_rich m) hb1 hs
  clear hT hs
  have e1 := eqS d.op []
  have e1b : (bs d.op).toList.isEmpty = decide (d.op = []) := by rw [toList_bs, Bool.eq_iff_iff]; simp
  by_cases hop : d.op = []
  · rw [decide_eq_true hop] at e1 e1b
    have hca := catom_any d A cap W1 TT1 t2 t3
    simp only [richV, richC] at hca
    rw [← chkR_at d hop, ← HT.out] at hca
    clear hop HT
    go_wp2_with (go_at_call 33; refine hca.mono ?_; clear hca; rintro rr W2 ⟨rfl, hb2⟩)
    go_ret
    exact ⟨rfl, hb1.trans (hb2.mono hb1.size)⟩
  rw [decide_eq_false hop] at e1 e1b
  have HD : Hid (T = if knR d.op = false then 9 else if d.name ≠ [] ∨ d.aop ≠ 0 ∨ d.ver ≠ [] then 1 else if clR d.op d.kids.length = false then 3 else chkRs d.kids) := Lib.hid (HT.out.trans (chkR_in d hop))
  clear hop HT
  have hkn := known_any d.op W1 TT1.1
  cases hn : knR d.op with
  | false =>
    have hV : T = 9 := by rw [HD.out, if_pos hn]
    rw [hn] at hkn
    clear hn HD
    go_wp2_with (go_at_call 34; refine hkn.mono ?_; rintro rr Ww ⟨rfl, rfl⟩)
    go_ret
    exact ⟨by rw [hV]; rfl, hb1⟩
  | true =>
    have HD1 := Lib.hid (HD.out.trans (if_neg (by rw [hn]; decide)))
    rw [hn] at hkn
    clear hn HD
    go_upto_region 5 with (go_at_call 34; refine hkn.mono ?_; rintro rr Ww ⟨rfl, rfl⟩)
    clear hkn
    have n1 := eqS d.name []
    have n1b : (bs d.name).toList.isEmpty = decide (d.name = []) := by rw [toList_bs, Bool.eq_iff_iff]; simp
    have v1 := eqS d.ver []
    have v1b : (bs d.ver).toList.isEmpty = decide (d.ver = []) := by rw [toList_bs, Bool.eq_iff_iff]; simp
    by_cases hnm : d.name = []
    rotate_left
    · rw [decide_eq_false hnm] at n1 n1b
      have hV : T = 1 := by rw [HD1.out, if_pos (.inl hnm)]
      clear HD1 hnm
      go_wp2_with fail
      go_ret
      exact ⟨by rw [hV]; rfl, hb1⟩
    rw [decide_eq_true hnm] at n1 n1b
    by_cases haz : d.aop = 0
    rotate_left
    · have x3 : (d.aop == 0) = false := by simpa using haz
      have hV : T = 1 := by rw [HD1.out, if_pos (.inr (.inl haz))]
      clear HD1 hnm haz
      go_wp2_with fail
      go_ret
      exact ⟨by rw [hV]; rfl, hb1⟩
    have x3 : (d.aop == 0) = true := by simpa using haz
    by_cases hvr : d.ver = []
    rotate_left
    · rw [decide_eq_false hvr] at v1 v1b
      have hV : T = 1 := by rw [HD1.out, if_pos (.inr (.inr hvr))]
      clear HD1 hnm haz hvr
      go_wp2_with fail
      go_ret
      exact ⟨by rw [hV]; rfl, hb1⟩
    rw [decide_eq_true hvr] at v1 v1b
    have HD2 := Lib.hid (HD1.out.trans (if_neg (fun h => h.elim (fun h => h hnm) (fun h => h.elim (fun h => h haz) (fun h => h hvr)))))
    clear HD1 hnm haz hvr
    have hcl := closes_any d.op d.kids.length W1
    cases hc : clR d.op d.kids.length with
    | false =>
      have hV : T = 3 := by rw [HD2.out, if_pos hc]
      rw [hc] at hcl
      clear hc HD2
      go_wp2_with (go_at_call 35; refine hcl.mono ?_; rintro rr Ww ⟨rfl, rfl⟩)
      go_ret
      exact ⟨by rw [hV]; rfl, hb1⟩
    | true =>
      have HD3 := Lib.hid (HD2.out.trans (if_neg (by rw [hc]; decide)))
      rw [hc] at hcl
      clear hc HD2
      go_upto_region 10 with (go_at_call 35; refine hcl.mono ?_; rintro rr Ww ⟨rfl, rfl⟩)
      clear hcl n1 n1b v1 v1b x3 e1 e1b k0 k1 k2 k3 k4
      go_loopg [29] d.kids.length (fun G s29 wx => ∃ t : Nat, t ≤ d.kids.length ∧ G = d.kids.length - t ∧ s29 = .int .i64 (t : Int) ∧ Below W1.heap.size W1 wx ∧ Hid (T = chkRs (d.kids.drop t)))
      case atStart => exact ⟨0, Nat.zero_le _, rfl, rfl, Below.refl _ _, Lib.hid (by rw [List.drop_zero]; exact HD3.out)⟩
      case round =>
        clear HD3
        obtain ⟨t, ht, rfl, rfl, hbx, HE⟩ := hrel
        by_cases htl : t < d.kids.length
        · have hsx := Below.sk (good_rich m) hbx hs1
          obtain ⟨b4, off4, rfl, hX4, _, hc⟩ := hsx.rich (by omega)
          obtain ⟨j, kv, hj, c0, c1, c2, c3, c4, hsk⟩ := hc t htl
          have HDR := Lib.hid (chkRs_drop d.kids t htl)
          have htxk := txRs_mem HTX.out (List.getElem_mem htl)
          clear hc hsx
          generalize d.kids[t] = kid at c0 c1 c2 c3 c4 hsk HDR htxk
          obtain ⟨A2, cap2, rfl, hq1, hq2⟩ := hsk.form
          unfold maxLen at hq2
          have i1 : (0 : Int) ≤ (t : Int) := by omega
          have i2 : (t : Int) < (d.kids.length : Int) := by omega
          go_upto_region 12 with fail
          have bd := Blk.new wr 27 #[.string (bs kid.op), .string (bs kid.name), .int .i64 kid.aop, .string (bs kid.ver), .slice A2 kid.kids.length cap2]
          have hq := (Below.refl wr.heap.size wr).alloc (Nat.le_refl _) (.cells #[.string (bs kid.op), .string (bs kid.name), .int .i64 kid.aop, .string (bs kid.ver), .slice A2 kid.kids.length cap2] 27)
          have hb3 := hbx.trans (hq.mono hbx.size)
          have hsk3 := Below.sk (good_rich j) hq hsk
          clear hq c0 c1 c2 c3 c4 i1 i2 hbx hsk
          generalize wr.alloc (.cells #[.string (bs kid.op), .string (bs kid.name), .int .i64 kid.aop, .string (bs kid.ver), .slice A2 kid.kids.length cap2] 27) = W3 at bd hb3 hsk3 ⊢
          generalize wr.heap.size = gd at bd ⊢
          obtain ⟨d0, d1, d2, d3, d4⟩ := outs5 bd
          have hcal := HIH.out j hj kid _ X W3 hsk3 (TT1.below hb3) htxk
          simp only [richV, richC] at hcal
          have wt : IntKind.i64.wrap ((t : Int) + 1) = (t : Int) + 1 := i64_in _ (by omega) (by omega)
          by_cases hz : chkR kid = 0
          · have HE2 : Hid (T = chkRs (d.kids.drop (t + 1))) := Lib.hid (by rw [HE.out, HDR.out, if_pos hz])
            rw [hz] at hcal
            clear hz HE HDR hsk3
            go_wp2_with (go_at_call 22; refine hcal.mono ?_; clear hcal d0 d1 d2 d3 d4; rintro rr W4 ⟨rfl, hb4⟩)
            go_roundg (d.kids.length - (t + 1))
            case measure => omega
            case rel => exact ⟨t + 1, by omega, rfl, by simp, hb3.trans (hb4.mono hb3.size), HE2⟩
          · have HE2 : T = chkR kid := by rw [HE.out, HDR.out, if_neg hz]
            rw [← HE2] at hcal hz
            have q : (T == 0) = false := by simpa using hz
            clear hz HE HDR hsk3 HE2
            go_wp2_with (go_at_call 22; refine hcal.mono ?_; clear hcal d0 d1 d2 d3 d4; rintro rr W4 ⟨rfl, hb4⟩)
            go_ret
            exact ⟨rfl, hb1.trans ((hb3.trans (hb4.mono hb3.size)).mono hb1.size)⟩
        · have htl2 : ¬ (t : Int) < (d.kids.length : Int) := by omega
          have hV : T = 0 := by rw [HE.out, List.drop_eq_nil_of_le (by omega), chkRs]
          go_wp2_with fail
          go_ret
          exact ⟨by first | rfl | (rw [hV]; rfl), hb1.trans (hbx.mono hb1.size)⟩
theorem check_all : ∀ m, ChkK m
  | 0 => check_step 0 fun j h => by omega
  | m + 1 => check_step (m + 1) fun j h => by
    have : j = m := by omega
    subst this
    exact check_all j
end Go.Proofs.YtjdcegogkafmoaaDoor

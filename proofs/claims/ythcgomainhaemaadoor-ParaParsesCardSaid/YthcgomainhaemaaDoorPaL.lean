/- The walk of para.Parse. -/
import Derived.Test.YthcgomainhaemaaDoorPaK
namespace Go.Proofs.YthcgomainhaemaaDoor
open Go.RowKit
theorem cut10 (l : List UInt8) : cutA l 10 = lineOf l := by
  induction l with
  | nil => rfl
  | cons c t ih =>
    rw [(cut_cons c 10 t).2.1]
    by_cases hc : c = 10
    · subst hc; rw [if_pos rfl]; rfl
    · rw [if_neg hc, ih]; simp [lineOf, List.takeWhile, hc]
theorem lineOf_len (l : List UInt8) : (lineOf l).length ≤ l.length := (List.takeWhile_prefix _).length_le
def ParseRP (w : World) (x : List (List Fd) × Int × Int) (e : Ending) (w' : World) : Prop :=
  (∃ v, e = .returned (.tuple #[v, .agg #[.string ⟨#[]⟩, .int .i64 x.2.1, .int .i64 x.2.2]]) ∧ Sl 1 Rpara nowhere w' v x.1) ∧ Below w.heap.size w w'
theorem RE.sl {B rb T : Nat} {s : PSt} {w : World} (h : RE B rb T s w) : ∃ av nv lv, Blk w rb tR #[av, nv, lv] ∧ Sl 1 Rpara nowhere w av (endP s) := by
  obtain ⟨_, _, _, h4⟩ := h
  rcases h4 with ⟨hc, av, lv, ls, hr⟩ | ⟨mb, av, cv, lv, ls, n, m, hr, hne, _⟩
  · exact ⟨_, _, _, hr.blk, by rw [endP, if_pos hc]; exact hr.sl⟩
  · exact ⟨_, _, _, hr.blk, by rw [endP, if_neg hne]; exact hr.sl⟩
theorem goP_nil (a : Int) (s : PSt) : goP [] a s = (endP s, 0, 0) := by rw [goP.eq_def]; simp
theorem goP_bad (r : List UInt8) (a : Int) (s : PSt) (h : r ≠ []) (h2 : (lineP s (lineOf r)).2 ≠ 0) : goP r a s = ([], a, (lineP s (lineOf r)).2) := by rw [goP.eq_def, dif_neg h, if_neg h2]
theorem goP_next (r : List UInt8) (a : Int) (s : PSt) (h : r ≠ []) (h2 : (lineP s (lineOf r)).2 = 0) : goP r a s = goP (r.drop ((lineOf r).length + 1)) (a + (lineOf r).length + 1) (lineP s (lineOf r)).1 := by
  rw [goP.eq_def, dif_neg h, if_pos h2]
theorem blk_set3 {w : World} {g : Nat} {t : TypeId} {a b c : Value} (h : Blk w g t #[a, b, c]) (a' b' c' : Value) :
    Blk (((w.setCell ⟨g, 0, none⟩ a').setCell ⟨g, 1, none⟩ b').setCell ⟨g, 2, none⟩ c') g t #[a', b', c'] := by
  have := ((h.set (u := a') 0).set (u := b') 1).set (u := c') 2
  simpa using this
theorem below_set3 {B : Nat} {a w : World} {g : Nat} (h : Below B a w) (hg : B ≤ g) (x0 x1 x2 : Value) :
    Below B a (((w.setCell ⟨g, 0, none⟩ x0).setCell ⟨g, 1, none⟩ x1).setCell ⟨g, 2, none⟩ x2) :=
  ((h.setCell (p := ⟨g, 0, none⟩) hg _).setCell (p := ⟨g, 1, none⟩) hg _).setCell (p := ⟨g, 2, none⟩) hg _
theorem kept_set3 (w : World) (g : Nat) (a b c : Value) : Kept (fun k => k = g) w (((w.setCell ⟨g, 0, none⟩ a).setCell ⟨g, 1, none⟩ b).setCell ⟨g, 2, none⟩ c) :=
  (((Kept.refl (fun k => k = g) w).setCell (p := ⟨g, 0, none⟩) a (fun _ => rfl)).setCell (p := ⟨g, 1, none⟩) b (fun _ => rfl)).setCell (p := ⟨g, 2, none⟩) c (fun _ => rfl)
theorem rs_new (w : World) (B : Nat) (hB : B ≤ w.heap.size) : RS B w.heap.size 0 ⟨[], []⟩ (w.alloc (.cells #[.slice none 0 0, .map none, .slice none 0 0] tR)) :=
  ⟨Nat.le_refl _, ⟨Nat.zero_le _, fun h => absurd rfl h⟩, Nat.le_refl _, .inl ⟨rfl, _, _, [], hB, Blk.new w tR _, ⟨[], rfl, OwnL.nil _ _ _ _ _ _, fun i h => by simp at h⟩, OwnL.nil _ _ _ _ _ _⟩⟩
set_option maxRecDepth 20000 in
set_option maxHeartbeats 8000000 in
theorem pparse_any (s : List UInt8) (w : World) (hs : s.length ≤ 900000000) :
    Calls Tryd.prog 13 #[.string (bs s)] w (ParseRP w (parseP s)) := by
  obtain ⟨X, hX⟩ : ∃ x, parseP s = x := ⟨_, rfl⟩
  rw [hX]
  have HX : Hid (X = goP (s.drop 0) ((0 : Nat) : Int) ⟨[], []⟩) := Lib.hid hX.symm
  clear hX
  have a1 := Blk.new w 30 #[.string ⟨#[]⟩, .int .i64 0, .int .i64 0]
  have hb := (Below.refl w.heap.size w).alloc (Nat.le_refl _) (.cells #[.string ⟨#[]⟩, .int .i64 0, .int .i64 0] 30)
  go_enter Tryd.func13, Tryd.ntmps13
  go_upto_region 2 with fail
  have hsz1 : (w.alloc (.cells #[.string ⟨#[]⟩, .int .i64 0, .int .i64 0] 30)).heap.size = w.heap.size + 1 := by simp
  have hr0 := rs_new (w.alloc (.cells #[.string ⟨#[]⟩, .int .i64 0, .int .i64 0] 30)) (w.heap.size + 1) (by simp)
  rw [hsz1] at hr0
  have a2 := a1.alloc (.cells #[.slice none 0 0, .map none, .slice none 0 0] tR)
  have hb2 := hb.alloc (by simp) (.cells #[.slice none 0 0, .map none, .slice none 0 0] tR)
  generalize (w.alloc (.cells #[.string ⟨#[]⟩, .int .i64 0, .int .i64 0] 30)).alloc (.cells #[.slice none 0 0, .map none, .slice none 0 0] tR) = w2 at hr0 a2 hb2 ⊢
  clear a1 hb hsz1
  have hz : ((bs s).size : Int) = (s.length : Int) := by rw [bs_size]
  go_wp2_with fail
  go_loopg [5] (s.length + 1) (fun G s5 wr => ∃ (k : Nat) (st : PSt), k ≤ s.length + 1 ∧ G = s.length + 1 - k ∧ s5 = .int .i64 k ∧ RS (w.heap.size + 1) (w.heap.size + 1) k st wr ∧ Blk wr w.heap.size 30 #[.string ⟨#[]⟩, .int .i64 0, .int .i64 0] ∧ Below w.heap.size w wr ∧ Hid (X = goP (s.drop k) (k : Int) st))
  case atStart => exact ⟨0, _, Nat.zero_le _, rfl, rfl, hr0, a2, hb2, HX⟩
  case round =>
    clear hr0 a2 hb2 HX
    obtain ⟨k, st, hk, rfl, rfl, hr, hF, hbw, HE⟩ := hrel
    by_cases hlt : k < s.length
    · have hks : (k : Int) < ((bs s).size : Int) := by omega
      have hle1 : (0 : Int) ≤ (k : Int) ∧ (k : Int) ≤ ((bs s).size : Int) := by omega
      have hxt : (bs s).extract k (bs s).size = bs (s.drop k) := by rw [ext_drop]; rfl
      have hne : s.drop k ≠ [] := by intro e; have := congrArg List.length e; rw [List.length_drop, List.length_nil] at this; omega
      have hC := cut_any (bs (s.drop k)) 10 wr (by rw [bs_size, List.length_drop]; omega)
      rw [bs_list, cut10] at hC
      have hll := lineOf_len (s.drop k)
      rw [List.length_drop] at hll
      have HBAD := Lib.hid (goP_bad (s.drop k) k st hne)
      have HNXT := Lib.hid (goP_next (s.drop k) k st hne)
      have HDD : Hid (∀ n, (s.drop k).drop n = s.drop (k + n)) := Lib.hid (fun n => by rw [List.drop_drop])
      generalize lineOf (s.drop k) = ln at hC hll HBAD HNXT
      clear hne
      go_wp2_with fail
      refine hC.mono ?_
      rintro e w3 ⟨rfl, hb3⟩
      have r3 := hr.below hb3
      have F3 := hF.below hb3 hF.lt
      have q3 := hbw.trans (hb3.mono hbw.size)
      clear hC hb3 hr hF hbw
      go_wp2_with fail
      refine (line_any _ _ k st ln _ r3 (by omega)).mono ?_
      rintro e w4 ⟨rfl, hr4, hb4⟩
      have F4 := F3.below hb4 (by omega)
      have q4 := q3.trans (hb4.mono (by omega))
      clear r3 F3 q3 hb4
      have HLN : Hid (lineP st ln = lineP st ln) := Lib.hid rfl
      generalize hlp : lineP st ln = rr at hr4 HBAD HNXT ⊢
      obtain ⟨st2, ee⟩ := rr
      clear HLN hlp
      simp only at hr4 ⊢
      by_cases he : ee = 0
      · subst he
        have r4 := hr4 rfl
        have HV : Hid (X = goP (s.drop (k + (ln.length + 1))) ((k + ln.length + 1 : Nat) : Int) st2) := Lib.hid (by rw [HE.out, HNXT.out rfl, HDD.out]; rfl)
        clear HBAD HNXT HDD HE hr4
        have hzl : ((bs ln).size : Int) = (ln.length : Int) := by rw [bs_size]
        have hwr1 : IntKind.i64.wrap ((ln.length : Int) + 1) = (ln.length : Int) + 1 := i64_in _ (by omega) (by omega)
        have hwr2 : IntKind.i64.wrap ((k : Int) + ((ln.length : Int) + 1)) = ((k + ln.length + 1 : Nat) : Int) := by rw [i64_in _ (by omega) (by omega)]; omega
        go_wp2_with fail
        go_roundg (s.length + 1 - (k + ln.length + 1))
        case measure => omega
        case rel => exact ⟨k + ln.length + 1, st2, by omega, rfl, by simp, r4, F4, q4, HV⟩
      · have hb : (ee != 0) = true := by simpa using he
        have HV : Hid (X = ([], (k : Int), ee)) := Lib.hid (by rw [HE.out, HBAD.out he])
        clear HBAD HNXT HDD HE hr4 he
        have f0 := F4.free 0
        have f1 := F4.free 1
        have f2 := F4.free 2
        have z0 := F4.cell 0
        have z1 := F4.cell 1
        have z2 := F4.cell 2
        simp at z0 z1 z2
        have K3 := blk_set3 F4 (.string ⟨#[]⟩) (.int .i64 (k : Int)) (.int .i64 ee)
        have hq2 := below_set3 q4 (g := w.heap.size) (Nat.le_refl _) (.string ⟨#[]⟩) (.int .i64 (k : Int)) (.int .i64 ee)
        go_wp2_with fail
        generalize ((w4.setCell ⟨w.heap.size, 0, none⟩ (.string ⟨#[]⟩)).setCell ⟨w.heap.size, 1, none⟩ (.int .i64 (k : Int))).setCell ⟨w.heap.size, 2, none⟩ (.int .i64 ee) = W2 at K3 hq2 ⊢
        have k0 := K3.cell 0
        have k1 := K3.cell 1
        have k2 := K3.cell 2
        simp at k0 k1 k2
        refine bodyPost_ret (v := .tuple #[.slice none 0 0, .agg #[.string ⟨#[]⟩, .int .i64 (k : Int), .int .i64 ee]]) (by simp [results, Tryd.results13, go_sem, k0, k1, k2]) rfl ?_
        rw [HV.out]
        exact ⟨⟨_, rfl, Sl.nil _ _ _ _⟩, hq2⟩
    · have hks : ¬ (k : Int) < ((bs s).size : Int) := by omega
      have hksb : decide ((k : Int) < ((bs s).size : Int)) = false := by simp; omega
      have HV : Hid (X = (endP st, 0, 0)) := Lib.hid (by rw [HE.out, List.drop_eq_nil_of_le (by omega), goP_nil])
      clear HE
      go_wp2_with fail
      refine (end_any _ _ k st _ hr (by omega)).mono ?_
      rintro e w3 ⟨rfl, hr3, hb3⟩
      have F3 := hF.below hb3 (by omega)
      have q3 := hbw.trans (hb3.mono (by omega))
      obtain ⟨av, nv, lv, hbk, hsl⟩ := hr3.sl
      have c0 := hbk.cell 0
      simp at c0
      clear hr hF hbw hb3 hr3
      have f0 := F3.free 0
      have f1 := F3.free 1
      have f2 := F3.free 2
      have z0 := F3.cell 0
      have z1 := F3.cell 1
      have z2 := F3.cell 2
      simp at z0 z1 z2
      have K3 := blk_set3 F3 (.string ⟨#[]⟩) (.int .i64 0) (.int .i64 0)
      have hq2 := below_set3 q3 (g := w.heap.size) (Nat.le_refl _) (.string ⟨#[]⟩) (.int .i64 0) (.int .i64 0)
      go_wp2_with fail
      have kk : Kept nowhere w3 (((w3.setCell ⟨w.heap.size, 0, none⟩ (.string ⟨#[]⟩)).setCell ⟨w.heap.size, 1, none⟩ (.int .i64 0)).setCell ⟨w.heap.size, 2, none⟩ (.int .i64 0)) := by
        have k1 := kept_set3 w3 w.heap.size (.string ⟨#[]⟩) (.int .i64 0) (.int .i64 0)
        refine ⟨k1.os, k1.tape, k1.output, k1.size, fun k hk _ => ?_⟩
        by_cases e : k = w.heap.size
        · subst e; exact K3.trans F3.symm
        · exact k1.block k hk e
      generalize ((w3.setCell ⟨w.heap.size, 0, none⟩ (.string ⟨#[]⟩)).setCell ⟨w.heap.size, 1, none⟩ (.int .i64 0)).setCell ⟨w.heap.size, 2, none⟩ (.int .i64 0) = W2 at K3 hq2 kk ⊢
      have k0 := K3.cell 0
      have k1 := K3.cell 1
      have k2 := K3.cell 2
      simp at k0 k1 k2
      refine bodyPost_ret (v := .tuple #[av, .agg #[.string ⟨#[]⟩, .int .i64 0, .int .i64 0]]) (by simp [results, Tryd.results13, go_sem, k0, k1, k2]) rfl ?_
      rw [HV.out]
      exact ⟨⟨_, rfl, hsl.keep good_para kk⟩, hq2⟩
end Go.Proofs.YthcgomainhaemaaDoor

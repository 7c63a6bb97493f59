/- One word of Apk's dependencies, read: in plain words, and the walk of adep.parse. -/
import Derived.Test.YtfpdlmddakgilaaDoorAdB
import Derived.Test.YtfpdlmddakgilaaDoorAny
namespace Go.Proofs.YtfpdlmddakgilaaDoor
open Go.RowKit
inductive PW where
  | bad (k : Nat) (e : Int)
  | ok (t : Wt)
def sgA : List UInt8 := [60, 61, 62, 126]
def noSg (c : UInt8) : Bool := !sgA.contains c
def aBar (s : List UInt8) : Bool := match s with
  | [] => false
  | c :: _ => decide (c = 33)
def aRest (s : List UInt8) : List UInt8 := if aBar s = true then s.drop 1 else s
def aName (r : List UInt8) : List UInt8 := r.takeWhile noSg
def aTail (r : List UInt8) : List UInt8 := past noSg r
def pVer (s : List UInt8) (b : Bool) (nm : List UInt8) (ov : Int × List UInt8) : PW := if vErr 3 ov.2 = 0 then .ok ⟨b, nm, ov.1, ov.2⟩ else .bad (s.length - ov.2.length) (vErr 3 ov.2)
/-- One word, read: or what is wrong with it, and where. -/
def pWord (s : List UInt8) : PW :=
  if anmB (aName (aRest s)) = true then (if aTail (aRest s) = [] then .ok ⟨aBar s, aName (aRest s), 0, []⟩ else pVer s (aBar s) (aName (aRest s)) (aRel (aTail (aRest s))))
  else .bad (s.length - (aRest s).length) 10
theorem cutBar (s : List UInt8) (w : World) : Calls Tryd.prog 19 #[.string (bs s), .string ⟨#[33]⟩] w fun e w' => e = .returned (.tuple #[.string (bs (aRest s)), .bool (aBar s)]) ∧ w = w' :=
  (cutP s [33] w).mono fun e w' ⟨h1, h2⟩ => ⟨by
    have hb : [33].isPrefixOf s = aBar s := by
      cases s with
      | nil => rfl
      | cons c t =>
        show ((33 : UInt8) == c && [].isPrefixOf t) = decide (c = 33)
        rw [Bool.eq_iff_iff]
        simp
        exact eq_comm
    rw [h1, hb]; rfl, h2⟩
theorem indexAny_tw (l ch : List UInt8) : Lib.indexAny l ch = if (l.takeWhile (fun c => !ch.contains c)).length = l.length then -1 else ((l.takeWhile (fun c => !ch.contains c)).length : Int) := by
  induction l with
  | nil => simp [Lib.indexAny]
  | cons b l ih =>
    rw [Lib.indexAny]
    cases hb : ch.contains b with
    | true =>
      have : (b :: l).takeWhile (fun c => !ch.contains c) = [] := by rw [List.takeWhile_cons, hb]; rfl
      rw [if_pos rfl, this, if_neg (by simp)]; rfl
    | false =>
      have : (b :: l).takeWhile (fun c => !ch.contains c) = b :: l.takeWhile (fun c => !ch.contains c) := by rw [List.takeWhile_cons, hb]; rfl
      rw [if_neg (by simp), this, ih, List.length_cons, List.length_cons]
      generalize (l.takeWhile (fun c => !ch.contains c)).length = n
      by_cases h : n = l.length
      · rw [if_pos h, if_pos (show ((-1 : Int) == -1) = true from rfl), if_pos (by omega)]
      · rw [if_neg h, if_neg (by simp), if_neg (by omega)]; push_cast; rfl
/-- Four cells, stored. -/
theorem Blk.set4 {w : World} {g : Nat} {t : TypeId} {x0 x1 x2 x3 : Value} (h : Blk w g t #[x0, x1, x2, x3]) (a b c d : Value) :
    Blk ((((w.setCell ⟨g, 0, none⟩ a).setCell ⟨g, 1, none⟩ b).setCell ⟨g, 2, none⟩ c).setCell ⟨g, 3, none⟩ d) g t #[a, b, c, d] := by
  have := (((h.set (u := a) 0).set (u := b) 1).set (u := c) 2).set (u := d) 3
  simpa using this
theorem below_set4 {B : Nat} {a w : World} {g : Nat} (h : Below B a w) (hg : B ≤ g) (x0 x1 x2 x3 : Value) :
    Below B a ((((w.setCell ⟨g, 0, none⟩ x0).setCell ⟨g, 1, none⟩ x1).setCell ⟨g, 2, none⟩ x2).setCell ⟨g, 3, none⟩ x3) :=
  (((h.setCell (p := ⟨g, 0, none⟩) hg _).setCell (p := ⟨g, 1, none⟩) hg _).setCell (p := ⟨g, 2, none⟩) hg _).setCell (p := ⟨g, 3, none⟩) hg _
def WordR (x : PW) (w : World) (e : Ending) (w' : World) : Prop := (match x with
  | .bad k ee => e = .returned (.tuple #[.agg #[.bool false, .string ⟨#[]⟩, .int .i64 0, .string ⟨#[]⟩], .iface 55 (.agg #[.int .i64 k, .int .i64 ee])])
  | .ok t => e = .returned (.tuple #[.agg (wtV t), .nilIface])) ∧ Below w.heap.size w w'
set_option maxRecDepth 20000 in
set_option maxHeartbeats 8000000 in
theorem aword_any (s : List UInt8) (w : World) (hs : s.length ≤ 1000000) (hw : Words w) (hg : SignsA w) :
    Calls Tryd.prog 12 #[.string (bs s)] w (WordR (pWord s) w) := by
  obtain ⟨x, hx⟩ : ∃ x, pWord s = x := ⟨_, rfl⟩
  rw [hx]
  have HX : Hid (x = if anmB (aName (aRest s)) = true then (if aTail (aRest s) = [] then .ok ⟨aBar s, aName (aRest s), 0, []⟩ else pVer s (aBar s) (aName (aRest s)) (aRel (aTail (aRest s)))) else .bad (s.length - (aRest s).length) 10) := Lib.hid hx.symm
  clear hx
  have hrl : (aRest s).length ≤ s.length := by unfold aRest; split <;> simp
  go_enter Tryd.func12, Tryd.ntmps12
  go_wp2_with fail
  refine (cutBar s _).mono ?_
  rintro e wq ⟨rfl, rfl⟩
  generalize aRest s = r at HX hrl ⊢
  generalize aBar s = br at HX ⊢
  have a1 := Blk.new w 40 #[.bool false, .string ⟨#[]⟩, .int .i64 0, .string ⟨#[]⟩]
  have a2 := Blk.new (w.alloc (.cells #[.bool false, .string ⟨#[]⟩, .int .i64 0, .string ⟨#[]⟩] 40)) 40 #[.bool br, .string ⟨#[]⟩, .int .i64 0, .string ⟨#[]⟩]
  have a3 := a1.alloc (.cells #[.bool br, .string ⟨#[]⟩, .int .i64 0, .string ⟨#[]⟩] 40)
  have hb : Below w.heap.size w ((w.alloc (.cells #[.bool false, .string ⟨#[]⟩, .int .i64 0, .string ⟨#[]⟩] 40)).alloc (.cells #[.bool br, .string ⟨#[]⟩, .int .i64 0, .string ⟨#[]⟩] 40)) := ((Below.refl _ _).alloc (Nat.le_refl _) _).alloc (by simp) _
  rw [World.size_alloc] at a2
  go_upto_region 3 with fail
  generalize (w.alloc (.cells #[.bool false, .string ⟨#[]⟩, .int .i64 0, .string ⟨#[]⟩] 40)).alloc (.cells #[.bool br, .string ⟨#[]⟩, .int .i64 0, .string ⟨#[]⟩] 40) = W at a2 a3 hb ⊢
  clear a1
  have hz : (bs r).size = r.length := bs_size r
  go_wp2_with fail
  refine (iany (bs r) ⟨#[60, 61, 62, 126]⟩ W (by omega) (by decide) (by decide) (by decide)).mono ?_
  rintro e W3 ⟨rfl, hb3⟩
  have B1 := a3.below hb3 a3.lt
  have B2 := a2.below hb3 a2.lt
  have hq := below_trans hb hb3
  clear a2 a3 hb hb3
  have HI : Hid (Lib.indexAny r [60, 61, 62, 126] = if (aName r).length = r.length then -1 else ((aName r).length : Int)) := Lib.hid (indexAny_tw r [60, 61, 62, 126])
  have hpl : (aTail r).length + (aName r).length = r.length := by
    rw [aTail, aName, past, List.length_drop]
    have := tw_len noSg r
    omega
  have hx1 : (bs r).extract 0 (aName r).length = bs (aName r) := tw_ext noSg r
  have hx2 : (bs r).extract (aName r).length (bs r).size = bs (aTail r) := past_drop noSg r
  generalize aName r = nm at HX HI hpl hx1 hx2
  generalize aTail r = tl at HX hpl hx2
  rw [bs_list]
  have hnl : nm.length ≤ (bs r).size := by omega
  go_upto_if 19 with fail
  go_cut [7] (fun s7 wx => s7 = .int .i64 (nm.length : Int) ∧ W3 = wx)
  case first =>
    by_cases h : nm.length = r.length
    · have HI2 : Hid (Lib.indexAny r [60, 61, 62, 126] = -1) := Lib.hid (by rw [HI.out, if_pos h])
      have hz2 : (r.length : Int) = (nm.length : Int) := by omega
      rw [HI2.out]
      clear h
      go_wp2_with fail
      go_meet
      exact ⟨rfl, rfl⟩
    · have HI2 : Hid (Lib.indexAny r [60, 61, 62, 126] = (nm.length : Int)) := Lib.hid (by rw [HI.out, if_neg h])
      have hd : decide ((nm.length : Int) < 0) = false := by simp
      rw [HI2.out]
      clear h
      go_wp2_with fail
      go_meet
      exact ⟨rfl, rfl⟩
  case rest =>
    clear HI
    obtain ⟨rfl, rfl⟩ := hcut
    clear hz
    have hle1 : (nm.length : Int) ≤ ((bs r).size : Int) := by omega
    have hle0 : (0 : Int) ≤ (nm.length : Int) := by omega
    have c1 := B2.drew.cell 1
    have f1 := Blk.free B2.drew 1
    simp at c1
    have S2 := (B2.set (u := .string (bs nm)) 1).drew
    have S1 := (Blk.other B1 (a := ⟨w.heap.size + 1, 1, none⟩) (.string (bs nm)) (by simp)).drew
    have hq2 := (hq.setCell (p := ⟨w.heap.size + 1, 1, none⟩) (by simp) (.string (bs nm))).drew
    simp at S2
    go_wp2_with fail
    refine wp_region_plan (fun _ => True) [(false, 0), (false, 1), (false, 2), (false, 3), (false, 4), (false, 5), (false, 6), (false, 7), (true, 8), (false, 9)] (by kernel_rfl) (by kernel_rfl) (trivial) ?_
    simp only [planOps, List.map, List.getD_cons_zero, List.getD_cons_succ]
    iterate 8 ((first | refine plan_quiet (v := ?_) rfl rfl (fun w' hw' => ?_) ?_ | refine plan_calm (v := ?_) (tt_of) rfl (fun w' hw' => ?_) ?_); rotate_left; (focus (go_simp <;> with_reducible rfl)); simp only [Act.put, List.setIfInBounds_toArray, List.set_cons_zero, List.set_cons_succ])
    refine plan_loud rfl (fun K hK => ?_)
    go_simp
    refine hK _ _ (trivial) ?_
    clear hK K
    (try simp only [Act.put, List.setIfInBounds_toArray, List.set_cons_zero, List.set_cons_succ])
    iterate 1 ((first | refine plan_quiet (v := ?_) rfl rfl (fun w' hw' => ?_) ?_ | refine plan_calm (v := ?_) (tt_of) rfl (fun w' hw' => ?_) ?_); rotate_left; (focus (go_simp <;> with_reducible rfl)); simp only [Act.put, List.setIfInBounds_toArray, List.set_cons_zero, List.set_cons_succ])
    refine plan_end ?_
    have hw4 := hw.below hq2
    have hg4 := hg.below hq2
    go_upto_region 7 with fail
    generalize (W3.setCell ⟨w.heap.size + 1, 1, none⟩ (.string (bs nm))).drew = W4 at S2 S1 hq2 hw4 hg4 ⊢
    clear c1 f1 B1 B2 hq hle0 hle1 hx1 hx2
    have c1 := S2.cell 1
    simp at c1
    go_wp2_with fail
    refine (aname_any nm _ (by omega)).mono ?_
    rintro e wq ⟨rfl, rfl⟩
    have z0 := S1.cell 0
    have z1 := S1.cell 1
    have z2 := S1.cell 2
    have z3 := S1.cell 3
    have zf0 := Blk.free S1 0
    have zf1 := Blk.free S1 1
    have zf2 := Blk.free S1 2
    have zf3 := Blk.free S1 3
    have c0 := S2.cell 0
    have c2 := S2.cell 2
    have c3 := S2.cell 3
    have cf2 := Blk.free S2 2
    have cf3 := Blk.free S2 3
    simp at z0 z1 z2 z3 c0 c2 c3
    have zs : ((bs s).size : Int) = (s.length : Int) := by rw [bs_size]
    have zt : ((bs tl).size : Int) = (tl.length : Int) := by rw [bs_size]
    cases hnm : anmB nm with
    | false =>
      have HV : Hid (x = .bad (s.length - r.length) 10) := Lib.hid (by rw [HX.out, hnm]; rfl)
      have hk : IntKind.i64.wrap ((s.length : Int) - tl.length) = (s.length : Int) - tl.length := i64_in _ (by omega) (by omega)
      have hk2 : IntKind.i64.wrap ((s.length : Int) - tl.length - nm.length) = ((s.length - r.length : Nat) : Int) := by rw [i64_in _ (by omega) (by omega)]; omega
      clear hnm HX
      go_wp2_with fail
      have K4 := S1.set4 (.bool false) (.string ⟨#[]⟩) (.int .i64 0) (.string ⟨#[]⟩)
      have hq5 := below_set4 hq2 (g := w.heap.size) (Nat.le_refl _) (.bool false) (.string ⟨#[]⟩) (.int .i64 0) (.string ⟨#[]⟩)
      generalize (((W4.setCell ⟨w.heap.size, 0, none⟩ (.bool false)).setCell ⟨w.heap.size, 1, none⟩ (.string ⟨#[]⟩)).setCell ⟨w.heap.size, 2, none⟩ (.int .i64 0)).setCell ⟨w.heap.size, 3, none⟩ (.string ⟨#[]⟩) = W5 at K4 hq5 ⊢
      have e0 := K4.cell 0
      have e1 := K4.cell 1
      have e2 := K4.cell 2
      have e3 := K4.cell 3
      simp at e0 e1 e2 e3
      refine bodyPost_ret (v := .tuple #[.agg #[.bool false, .string ⟨#[]⟩, .int .i64 0, .string ⟨#[]⟩], .iface 55 (.agg #[.int .i64 ((s.length - r.length : Nat) : Int), .int .i64 10])]) (by simp [results, Tryd.results12, go_sem, e0, e1, e2, e3]) rfl ?_
      rw [HV.out]
      exact ⟨rfl, hq5⟩
    | true =>
      have HX2 : Hid (x = if tl = [] then .ok ⟨br, nm, 0, []⟩ else pVer s br nm (aRel tl)) := Lib.hid (by rw [HX.out, if_pos hnm])
      clear hnm HX
      by_cases htl : tl = []
      · have n1 : (bs tl).toList = [] := by rw [toList_bs]; exact htl
        have n2 : (bs tl).toList.isEmpty = true := by rw [n1]; rfl
        have HV : Hid (x = .ok ⟨br, nm, 0, []⟩) := Lib.hid (by rw [HX2.out, if_pos htl])
        clear htl HX2
        go_wp2_with fail
        have K4 := S1.set4 (.bool br) (.string (bs nm)) (.int .i64 0) (.string ⟨#[]⟩)
        have hq5 := below_set4 hq2 (g := w.heap.size) (Nat.le_refl _) (.bool br) (.string (bs nm)) (.int .i64 0) (.string ⟨#[]⟩)
        generalize (((W4.setCell ⟨w.heap.size, 0, none⟩ (.bool br)).setCell ⟨w.heap.size, 1, none⟩ (.string (bs nm))).setCell ⟨w.heap.size, 2, none⟩ (.int .i64 0)).setCell ⟨w.heap.size, 3, none⟩ (.string ⟨#[]⟩) = W5 at K4 hq5 ⊢
        have e0 := K4.cell 0
        have e1 := K4.cell 1
        have e2 := K4.cell 2
        have e3 := K4.cell 3
        simp at e0 e1 e2 e3
        refine bodyPost_ret (v := .tuple #[.agg #[.bool br, .string (bs nm), .int .i64 0, .string ⟨#[]⟩], .nilIface]) (by simp [results, Tryd.results12, go_sem, e0, e1, e2, e3]) rfl ?_
        rw [HV.out]
        exact ⟨rfl, hq5⟩
      · have n1 : ¬ (bs tl).toList = [] := by rw [toList_bs]; exact htl
        have n2 : (bs tl).toList.isEmpty = false := by simpa using n1
        have HX3 : Hid (x = pVer s br nm (aRel tl)) := Lib.hid (by rw [HX2.out, if_neg htl])
        clear htl HX2
        have hal : (aRel tl).2.length ≤ tl.length := by rw [← relS_is]; exact relS_len tl 7
        go_wp2_with fail
        have hrel := relation_any tl W4 (by omega) hg4
        obtain ⟨ov, Hov⟩ : ∃ ov, Hid (aRel tl = ov) := ⟨_, Lib.hid rfl⟩
        rw [Hov.out] at hrel hal HX3
        obtain ⟨op, ver⟩ := ov
        have HY : Hid (x = if vErr 3 ver = 0 then .ok ⟨br, nm, op, ver⟩ else .bad (s.length - ver.length) (vErr 3 ver)) := Lib.hid HX3.out
        clear HX3
        simp only at hal hrel
        refine hrel.mono ?_
        rintro e wq ⟨rfl, rfl⟩
        have T2 := ((S2.set (u := .int .i64 op) 2).set (u := .string (bs ver)) 3)
        have T1 := Blk.other (Blk.other S1 (a := ⟨w.heap.size + 1, 2, none⟩) (.int .i64 op) (by simp)) (a := ⟨w.heap.size + 1, 3, none⟩) (.string (bs ver)) (by simp)
        have hq6 := (hq2.setCell (p := ⟨w.heap.size + 1, 2, none⟩) (by simp) (.int .i64 op)).setCell (p := ⟨w.heap.size + 1, 3, none⟩) (by simp) (.string (bs ver))
        simp at T2
        have hw6 := hw.below hq6
        go_upto_region 12 with fail
        generalize (W4.setCell ⟨w.heap.size + 1, 2, none⟩ (.int .i64 op)).setCell ⟨w.heap.size + 1, 3, none⟩ (.string (bs ver)) = W6 at T2 T1 hq6 hw6 ⊢
        clear z0 z1 z2 z3 zf0 zf1 zf2 zf3 c0 c1 c2 c3 cf2 cf3 S1 S2 hq2 hw4 hg4 hrel
        have c3 := T2.cell 3
        simp at c3
        go_wp2_with fail
        refine (check_any 3 ver W6 (by omega) hw6).mono ?_
        rintro e W7 ⟨rfl, hb7⟩
        have U1 := T1.below hb7 T1.lt
        have U2 := T2.below hb7 T2.lt
        have hq7 := below_trans hq6 hb7
        clear T1 T2 hq6 hb7 c3
        have z0 := U1.cell 0
        have z1 := U1.cell 1
        have z2 := U1.cell 2
        have z3 := U1.cell 3
        have zf0 := Blk.free U1 0
        have zf1 := Blk.free U1 1
        have zf2 := Blk.free U1 2
        have zf3 := Blk.free U1 3
        have c0 := U2.cell 0
        have c1 := U2.cell 1
        have c2 := U2.cell 2
        have c3 := U2.cell 3
        simp at z0 z1 z2 z3 c0 c1 c2 c3
        by_cases h0 : vErr 3 ver = 0
        · have HV : Hid (x = .ok ⟨br, nm, op, ver⟩) := Lib.hid (by rw [HY.out, if_pos h0])
          rw [h0]
          clear h0 HY
          go_wp2_with fail
          have K4 := U1.set4 (.bool br) (.string (bs nm)) (.int .i64 op) (.string (bs ver))
          have hq5 := below_set4 hq7 (g := w.heap.size) (Nat.le_refl _) (.bool br) (.string (bs nm)) (.int .i64 op) (.string (bs ver))
          generalize (((W7.setCell ⟨w.heap.size, 0, none⟩ (.bool br)).setCell ⟨w.heap.size, 1, none⟩ (.string (bs nm))).setCell ⟨w.heap.size, 2, none⟩ (.int .i64 op)).setCell ⟨w.heap.size, 3, none⟩ (.string (bs ver)) = W5 at K4 hq5 ⊢
          have e0 := K4.cell 0
          have e1 := K4.cell 1
          have e2 := K4.cell 2
          have e3 := K4.cell 3
          simp at e0 e1 e2 e3
          refine bodyPost_ret (v := .tuple #[.agg #[.bool br, .string (bs nm), .int .i64 op, .string (bs ver)], .nilIface]) (by simp [results, Tryd.results12, go_sem, e0, e1, e2, e3]) rfl ?_
          rw [HV.out]
          exact ⟨rfl, hq5⟩
        · have HV : Hid (x = .bad (s.length - ver.length) (vErr 3 ver)) := Lib.hid (by rw [HY.out, if_neg h0])
          generalize vErr 3 ver = ee at h0 HV
          have hee : (ee != 0) = true := by simpa using h0
          have zs2 : ((bs s).size : Int) = (s.length : Int) := by rw [bs_size]
          have zv : ((bs ver).size : Int) = (ver.length : Int) := by rw [bs_size]
          have hk : IntKind.i64.wrap ((s.length : Int) - ver.length) = ((s.length - ver.length : Nat) : Int) := by rw [i64_in _ (by omega) (by omega)]; omega
          have V2 := (Blk.other (Blk.other (Blk.other (Blk.other (U2) (a := ⟨w.heap.size, 0, none⟩) (.bool false) (by simp)) (a := ⟨w.heap.size, 1, none⟩) (.string ⟨#[]⟩) (by simp)) (a := ⟨w.heap.size, 2, none⟩) (.int .i64 0) (by simp)) (a := ⟨w.heap.size, 3, none⟩) (.string ⟨#[]⟩) (by simp)).drew.cell 3
          have K4 := (U1.set4 (.bool false) (.string ⟨#[]⟩) (.int .i64 0) (.string ⟨#[]⟩)).drew
          have hq5 := (below_set4 hq7 (g := w.heap.size) (Nat.le_refl _) (.bool false) (.string ⟨#[]⟩) (.int .i64 0) (.string ⟨#[]⟩)).drew
          simp at V2
          clear h0 HY
          go_wp2_with fail
          refine wp_region_plan (fun W => W.cell? ⟨w.heap.size + 1, 3, none⟩ = some (.string (bs ver))) [(false, 0), (false, 1), (false, 2), (false, 3), (false, 4), (false, 5), (false, 6), (false, 7), (false, 8), (false, 9), (false, 10), (true, 11), (false, 12)] (by kernel_rfl) (by kernel_rfl) (by simpa using c3) ?_
          simp only [planOps, List.map, List.getD_cons_zero, List.getD_cons_succ]
          iterate 11 ((first | refine plan_quiet (v := ?_) rfl rfl (fun w' hw' => ?_) ?_ | refine plan_calm (v := ?_) (tt_of) rfl (fun w' hw' => ?_) ?_); rotate_left; (focus (go_simp <;> with_reducible rfl)); simp only [Act.put, List.setIfInBounds_toArray, List.set_cons_zero, List.set_cons_succ])
          refine plan_loud rfl (fun K hK => ?_)
          go_simp
          refine hK _ _ (by simpa using V2) ?_
          clear hK K
          (try simp only [Act.put, List.setIfInBounds_toArray, List.set_cons_zero, List.set_cons_succ])
          iterate 1 ((first | refine plan_quiet (v := ?_) rfl rfl (fun w' hw' => ?_) ?_ | refine plan_calm (v := ?_) (tt_of) rfl (fun w' hw' => ?_) ?_); rotate_left; (focus (go_simp <;> with_reducible rfl)); simp only [Act.put, List.setIfInBounds_toArray, List.set_cons_zero, List.set_cons_succ])
          refine plan_end ?_
          go_wp2_with fail
          generalize ((((W7.setCell ⟨w.heap.size, 0, none⟩ (.bool false)).setCell ⟨w.heap.size, 1, none⟩ (.string ⟨#[]⟩)).setCell ⟨w.heap.size, 2, none⟩ (.int .i64 0)).setCell ⟨w.heap.size, 3, none⟩ (.string ⟨#[]⟩)).drew = W5 at K4 hq5 ⊢
          have e0 := K4.cell 0
          have e1 := K4.cell 1
          have e2 := K4.cell 2
          have e3 := K4.cell 3
          simp at e0 e1 e2 e3
          refine bodyPost_ret (v := .tuple #[.agg #[.bool false, .string ⟨#[]⟩, .int .i64 0, .string ⟨#[]⟩], .iface 55 (.agg #[.int .i64 ((s.length - ver.length : Nat) : Int), .int .i64 ee])]) (by simp [results, Tryd.results12, go_sem, e0, e1, e2, e3]) rfl ?_
          rw [HV.out]
          exact ⟨rfl, hq5⟩
end Go.Proofs.YtfpdlmddakgilaaDoor

/- The walk of the program's check of an entry behind others. Printed by gen_enck.py. The walk of the program's check of an entry behind others. Printed by gen_enck2.py. The walks of both CheckAlls on entries. -/
import Derived.Test.YtpheifdpjcppdaaGreatDoorEnI
import Derived.Test.YtpheifdpjcppdaaGreatDoorMapU
namespace Go.Proofs.YtpheifdpjcppdaaGreatDoor
open Go.RowKit Go.WideMaps Go.Maps
abbrev tM : TypeId := 102
abbrev tC : TypeId := 75
/-- A look-up, in whatever world holds the map. -/
theorem nlook_all {w : World} {b n : Nat} {m : List UInt8 → Option Int} (h : NMap w b n m) (key : List UInt8) (hkl : key.length ≤ 1000000000) :
    ∃ (c : Int) (D : DataW Unit), w.ownsMap Tryz.prog 9 (plainElem Tryz.prog 3) b n D ∧ (∀ y, m key = some y → c = y) ∧
      ∀ W : World, W.ownsMap Tryz.prog 9 (plainElem Tryz.prog 3) b n D → (Instr.lookup 73 (.map (some b)) (.string (bs key)) true).run Tryz.prog W = .ok (.tuple #[.int .i64 c, .bool (m key).isSome]) W := by
  obtain ⟨D, ho, hI, hD⟩ := h
  have hk := keyOf_string_mk Tryz.underlying9 (s := bs key) (by rw [bs_size]; unfold maxLen; omega)
  have hp0 : plainElem (H := Unit) Tryz.prog 3 (.int .i64 0) = some (.lit (.int .i64 0), []) := plainElem_int Tryz.underlying3 (by decide)
  have one : ∀ W : World, W.ownsMap Tryz.prog 9 (plainElem Tryz.prog 3) b n D → ∃ c : Int, D.atKey (.string key) (.lit (.int .i64 0)) = .lit (.int .i64 c) ∧ (Instr.lookup 73 (.map (some b)) (.string (bs key)) true).run Tryz.prog W = .ok (.tuple #[.int .i64 c, .bool (m key).isSome]) W := fun W hW => by
    obtain ⟨v, ps, hrun, hv⟩ := hW.look_ok keyS Tryz.underlying73 (zeroI W) hp0 hk
    obtain ⟨c, rfl, hc, _⟩ := plainElem_int_inv Tryz.underlying3 hv
    exact ⟨c, congrArg Prod.fst hc, by rw [← (hD key).1]; exact hrun⟩
  obtain ⟨c, hc, _⟩ := one w ho
  refine ⟨c, D, ho, fun y hy => ?_, fun W hW => ?_⟩
  · have := (hD key).2 y hy
    rw [hc] at this
    exact (Lit.int.inj (DataW.lit.inj this)).2
  · obtain ⟨c', hc', hr⟩ := one W hW
    rw [hc] at hc'
    rw [(Lit.int.inj (DataW.lit.inj hc')).2]; exact hr
set_option maxRecDepth 20000 in
set_option maxHeartbeats 8000000 in
theorem common_any (e : En) (dv : Value) (w : World) (A : Option Addr) (n cap : Nat) (h : dv = .slice A n cap) :
    Calls Tryz.prog 58 #[entV e dv] w fun r w' => r = .returned (.agg #[.int .i64 e.mode, .int .i64 e.uid, .int .i64 e.gid, .string (bs e.owner), .string (bs e.group), .int .i64 e.mtime]) ∧ Below w.heap.size w w' := by
  subst h
  obtain ⟨path, kind, mode, uid, gid, owner, group, mtime, link, data⟩ := e
  simp only [entV]
  go_enter Tryz.func58, Tryz.ntmps58
  go_upto_region 1 with fail
  have bE := (Blk.new w tE #[.string (bs path), .int .i64 kind, .int .i64 mode, .int .i64 uid, .int .i64 gid, .string (bs owner), .string (bs group), .int .i64 mtime, .string (bs link), .slice A n cap]).alloc (.cells #[.int .i64 0, .int .i64 0, .int .i64 0, .string ⟨#[]⟩, .string ⟨#[]⟩, .int .i64 0] tM)
  have bF := Blk.new (w.alloc (.cells #[.string (bs path), .int .i64 kind, .int .i64 mode, .int .i64 uid, .int .i64 gid, .string (bs owner), .string (bs group), .int .i64 mtime, .string (bs link), .slice A n cap] tE)) tM #[.int .i64 0, .int .i64 0, .int .i64 0, .string ⟨#[]⟩, .string ⟨#[]⟩, .int .i64 0]
  have hs : (w.alloc (.cells #[.string (bs path), .int .i64 kind, .int .i64 mode, .int .i64 uid, .int .i64 gid, .string (bs owner), .string (bs group), .int .i64 mtime, .string (bs link), .slice A n cap] tE)).heap.size = w.heap.size + 1 := by simp
  rw [hs] at bF
  have hq := ((Below.refl w.heap.size w).alloc (Nat.le_refl _) (.cells #[.string (bs path), .int .i64 kind, .int .i64 mode, .int .i64 uid, .int .i64 gid, .string (bs owner), .string (bs group), .int .i64 mtime, .string (bs link), .slice A n cap] tE)).alloc (by rw [hs]; omega) (.cells #[.int .i64 0, .int .i64 0, .int .i64 0, .string ⟨#[]⟩, .string ⟨#[]⟩, .int .i64 0] tM)
  generalize (w.alloc (.cells #[.string (bs path), .int .i64 kind, .int .i64 mode, .int .i64 uid, .int .i64 gid, .string (bs owner), .string (bs group), .int .i64 mtime, .string (bs link), .slice A n cap] tE)).alloc (.cells #[.int .i64 0, .int .i64 0, .int .i64 0, .string ⟨#[]⟩, .string ⟨#[]⟩, .int .i64 0] tM) = W at bE bF hq ⊢
  have hg2 : w.heap.size ≤ w.heap.size + 1 := by omega
  generalize w.heap.size + 1 = g2 at bF hg2 ⊢
  generalize hg : w.heap.size = g at bE hg2 ⊢
  have a2 := bE.cell 2
  have a3 := bE.cell 3
  have a4 := bE.cell 4
  have a5 := bE.cell 5
  have a6 := bE.cell 6
  have a7 := bE.cell 7
  have b0 := bF.cell 0
  have b1 := bF.cell 1
  have b2 := bF.cell 2
  have b3 := bF.cell 3
  have b4 := bF.cell 4
  have b5 := bF.cell 5
  have f0 := bF.free 0
  have f1 := bF.free 1
  have f2 := bF.free 2
  have f3 := bF.free 3
  have f4 := bF.free 4
  have f5 := bF.free 5
  simp at a2 a3 a4 a5 a6 a7 b0 b1 b2 b3 b4 b5
  go_wp2_with fail
  have hgg : w.heap.size ≤ g2 := by rw [hg]; exact hg2
  have K := ((((((bF.set (u := .int .i64 mode) 0).set (u := .int .i64 uid) 1).set (u := .int .i64 gid) 2).set (u := .string (bs owner)) 3).set (u := .string (bs group)) 4).set (u := .int .i64 mtime) 5)
  simp at K
  have hq2 := ((((((hq.setCell (p := ⟨g2, 0, none⟩) hgg (.int .i64 mode)).setCell (p := ⟨g2, 1, none⟩) hgg (.int .i64 uid)).setCell (p := ⟨g2, 2, none⟩) hgg (.int .i64 gid)).setCell (p := ⟨g2, 3, none⟩) hgg (.string (bs owner))).setCell (p := ⟨g2, 4, none⟩) hgg (.string (bs group))).setCell (p := ⟨g2, 5, none⟩) hgg (.int .i64 mtime))
  clear bE bF hq a2 a3 a4 a5 a6 a7 b0 b1 b2 b3 b4 b5 f0 f1 f2 f3 f4 f5
  generalize ((((((W.setCell ⟨g2, 0, none⟩ (.int .i64 mode)).setCell ⟨g2, 1, none⟩ (.int .i64 uid)).setCell ⟨g2, 2, none⟩ (.int .i64 gid)).setCell ⟨g2, 3, none⟩ (.string (bs owner))).setCell ⟨g2, 4, none⟩ (.string (bs group))).setCell ⟨g2, 5, none⟩ (.int .i64 mtime)) = W2 at K hq2 ⊢
  have k0 := K.cell 0
  have k1 := K.cell 1
  have k2 := K.cell 2
  have k3 := K.cell 3
  have k4 := K.cell 4
  have k5 := K.cell 5
  simp at k0 k1 k2 k3 k4 k5
  refine bodyPost_ret (v := .agg #[.int .i64 mode, .int .i64 uid, .int .i64 gid, .string (bs owner), .string (bs group), .int .i64 mtime]) (by simp [results, Tryz.results58, go_sem, k0, k1, k2, k3, k4, k5]) rfl ?_
  exact ⟨rfl, hq2⟩
/-- The checker in memory. -/
structure CK (w : World) (cp m1 m2 n1 n2 : Nat) (v : Value) (f1 f2 : List UInt8 → Option Int) : Prop where
  blk : Blk w cp tC #[v, .map (some m1), .map (some m2)]
  at_ : NMap w m1 n1 f1
  ab : NMap w m2 n2 f2
theorem CK.below {w w' : World} {cp m1 m2 n1 n2 : Nat} {v : Value} {f1 f2 : List UInt8 → Option Int} (h : CK w cp m1 m2 n1 n2 v f1 f2) (k : Below w.heap.size w w') : CK w' cp m1 m2 n1 n2 v f1 f2 :=
  ⟨h.blk.below k h.blk.lt, h.at_.below k, h.ab.below k⟩
end Go.Proofs.YtpheifdpjcppdaaGreatDoor
namespace Go.Proofs.YtpheifdpjcppdaaGreatDoor
open Go.RowKit Go.WideMaps Go.Maps
/-- Does a path that stands above bear what is no directory? -/
def upBad (a : List En) (p : List UInt8) : Bool := match findE a p with | some x => !decide (x.kind = 2) | none => false
theorem nest_up {a : List En} (h : Uniq a) (e : En) : nestE a e = ((upsL e.path).any (upBad a) || ((a.any fun x => (upsL x.path).contains e.path) && !decide (e.kind = 2))) := nest_maps h e
theorem common_ifs (e x : En) (W : World) : (if e.mode = x.mode then if e.uid = x.uid then if e.gid = x.gid then if (bs e.owner).toList = (bs x.owner).toList then if (bs e.group).toList = (bs x.group).toList then if e.mtime = x.mtime then Result.ok (Next.value (Value.bool false)) W else Result.ok (Next.value (Value.bool true)) W else Result.ok (Next.value (Value.bool true)) W else Result.ok (Next.value (Value.bool true)) W else Result.ok (Next.value (Value.bool true)) W else Result.ok (Next.value (Value.bool true)) W else Result.ok (Next.value (Value.bool true)) W) = Result.ok (Next.value (Value.bool (!alikeE e x))) W := by
  simp only [toList_bs, alikeE]
  by_cases h1 : e.mode = x.mode <;> by_cases h2 : e.uid = x.uid <;> by_cases h3 : e.gid = x.gid <;> by_cases h4 : e.owner = x.owner <;> by_cases h5 : e.group = x.group <;> by_cases h6 : e.mtime = x.mtime <;> simp [h1, h2, h3, h4, h5, h6]
set_option maxRecDepth 20000 in
set_option maxHeartbeats 16000000 in
theorem pbad_any (l : List En) (dv : Value) (X : Nat → Prop) (w : World) (i : Nat) (hi : i < l.length) (A : Option Addr) (cap cp m1 m2 n1 n2 : Nat) (f1 f2 : List UInt8 → Option Int)
    (hsl : Sl 10 Rent X w (.slice A l.length cap) l) (hdv : Sl 1 Rbyte X w dv l[i].data) (hCK : CK w cp m1 m2 n1 n2 (.slice A l.length cap) f1 f2) (hAt : AtM f1 l i) (hAb : AbM f2 (l.take i)) (hU : Uniq (l.take i)) (hL : LB l) :
    Calls Tryz.prog 32 #[.pointer (some ⟨cp, 0, none⟩), entV l[i] dv] w fun e w' => e = .returned (.int .i64 (badE (l.take i) l[i])) ∧ Below w.heap.size w w' := by
  obtain ⟨_, _, hv, hc1, hc2⟩ := hsl.form
  injection hv with hv1 hv2 hv3
  subst hv1 hv3
  unfold maxLen at hc2
  obtain ⟨hL1, hL2⟩ := hL
  have HLB := Lib.hid hL2
  clear hL2 hv2
  obtain ⟨b, off, rfl, _, _⟩ := hsl.ent (by omega)
  obtain ⟨Ad, capd, rfl, _, _⟩ := hdv.form
  have hEB := HLB.out _ (List.getElem_mem hi)
  obtain ⟨e, He⟩ : ∃ e, Hid (l[i] = e) := ⟨_, Lib.hid rfl⟩
  rw [He.out] at hdv hEB ⊢
  have HX : Hid (badE (l.take i) e = if chkE e = 0 then (if hasE (l.take i) e.path = true then 8 else if e.kind = 4 ∧ linkE (l.take i) e ≠ 0 then linkE (l.take i) e else if ((upsL e.path).any (upBad (l.take i)) || (((l.take i).any fun x => (upsL x.path).contains e.path) && !decide (e.kind = 2))) = true then 9 else 0) else chkE e) := Lib.hid (by rw [← nest_up hU]; rfl)
  generalize badE (l.take i) e = res at HX
  clear hU
  have HAt := Lib.hid hAt
  have HAb := Lib.hid (hAb e.path)
  clear hAt hAb
  obtain ⟨lp, _, _, ll⟩ := id hEB
  simp only [entV]
  go_enter Tryz.func32, Tryz.ntmps32
  go_upto_region 1 with fail
  have bE := Blk.new w tE #[.string (bs e.path), .int .i64 e.kind, .int .i64 e.mode, .int .i64 e.uid, .int .i64 e.gid, .string (bs e.owner), .string (bs e.group), .int .i64 e.mtime, .string (bs e.link), .slice Ad e.data.length capd]
  have hq := (Below.refl w.heap.size w).alloc (Nat.le_refl _) (.cells #[.string (bs e.path), .int .i64 e.kind, .int .i64 e.mode, .int .i64 e.uid, .int .i64 e.gid, .string (bs e.owner), .string (bs e.group), .int .i64 e.mtime, .string (bs e.link), .slice Ad e.data.length capd] tE)
  have hsl1 := Below.sl good_ent hq hsl
  have hdv1 := Below.sl good_byte hq hdv
  have ck1 := hCK.below hq
  clear hsl hdv hCK
  generalize w.alloc (.cells #[.string (bs e.path), .int .i64 e.kind, .int .i64 e.mode, .int .i64 e.uid, .int .i64 e.gid, .string (bs e.owner), .string (bs e.group), .int .i64 e.mtime, .string (bs e.link), .slice Ad e.data.length capd] tE) = W1 at bE hq hsl1 hdv1 ck1 ⊢
  generalize hg : w.heap.size = g at bE ⊢
  have d0 := bE.cell 0
  have d1 := bE.cell 1
  have d2 := bE.cell 2
  have d3 := bE.cell 3
  have d4 := bE.cell 4
  have d5 := bE.cell 5
  have d6 := bE.cell 6
  have d7 := bE.cell 7
  have d8 := bE.cell 8
  have d9 := bE.cell 9
  simp at d0 d1 d2 d3 d4 d5 d6 d7 d8 d9
  go_wp2_with fail
  refine (pechk_any e _ X _ hdv1 hEB).mono ?_
  rintro r W2 ⟨rfl, hb2⟩
  have b2 := bE.below hb2 bE.lt
  have q2 := hq.trans (hb2.mono hq.size)
  have hsl2 := Below.sl good_ent hb2 hsl1
  have ck2 := ck1.below hb2
  clear hq bE hb2 hsl1 hdv1 ck1 d0 d1 d2 d3 d4 d5 d6 d7 d8 d9
  by_cases hz : chkE e = 0
  rotate_left
  · have HV := Lib.hid (show res = chkE e by rw [HX.out, if_neg hz])
    have hzb : (chkE e != 0) = true := by simpa using hz
    clear HX
    generalize chkE e = ce at HV hzb ⊢
    go_wp2_with fail
    go_ret
    exact ⟨by rw [HV.out]; rfl, by first | exact q2 | (rw [← hg]; exact q2)⟩
  have HX := Lib.hid (HX.out.trans (if_pos hz))
  rw [hz]
  clear hz
  obtain ⟨x1, D1, o1, _, lk1⟩ := nlook_all ck2.at_ e.path lp
  have hkn : (f1 e.path).isSome = hasE (l.take i) e.path := AtM.known HAt.out e.path
  rw [hkn] at lk1
  clear hkn
  have k0 := ck2.blk.cell 0
  have k1 := ck2.blk.cell 1
  have k2 := ck2.blk.cell 2
  have d0 := b2.cell 0
  have d1 := b2.cell 1
  have d8 := b2.cell 8
  simp at k0 k1 k2 d0 d1 d8
  have r1 := lk1 W2.drew o1.drew
  clear lk1 o1
  cases hh : hasE (l.take i) e.path with
  | true =>
    rw [hh] at r1
    have HV := Lib.hid (show res = 8 by rw [HX.out, if_pos hh])
    clear hh HX
    go_upto_region 4 with fail
    refine wp_region_plan (fun W => W.cell? ⟨cp, 1, none⟩ = some (.map (some m1)) ∧ W.cell? ⟨g, 0, none⟩ = some (.string (bs e.path)) ∧ (Instr.lookup 73 (.map (some m1)) (.string (bs e.path)) true).run Tryz.prog W = .ok (.tuple #[.int .i64 x1, .bool true]) W) [(false, 0), (false, 1), (false, 2), (false, 3), (false, 4), (false, 5), (false, 6), (false, 7), (false, 8), (false, 9), (false, 10), (false, 11)] (by kernel_rfl) (by kernel_rfl) (⟨by simpa using k1, by simpa using d0, r1⟩) ?_
    simp only [planOps, List.map, List.getD_cons_zero, List.getD_cons_succ]
    iterate 12 ((first | refine plan_quiet (v := ?_) rfl rfl (fun w' hw' => ?_) ?_ | refine plan_calm (v := ?_) (tt_of) rfl (fun w' hw' => ?_) ?_); rotate_left; (focus (go_simp <;> (first | with_reducible rfl | (rw [if_neg (by simp [undef])]; try rfl) | omega))); simp only [Act.put, List.setIfInBounds_toArray, List.set_cons_zero, List.set_cons_succ])
    refine plan_end ?_
    go_wp2_with fail
    go_ret
    exact ⟨by rw [HV.out]; rfl, by first | exact q2.drew | (rw [← hg]; exact q2.drew)⟩
  | false =>
    rw [hh] at r1
    have HX := Lib.hid (HX.out.trans (if_neg (by rw [hh]; simp)))
    clear hh
    go_upto_region 4 with fail
    refine wp_region_plan (fun W => W.cell? ⟨cp, 1, none⟩ = some (.map (some m1)) ∧ W.cell? ⟨g, 0, none⟩ = some (.string (bs e.path)) ∧ (Instr.lookup 73 (.map (some m1)) (.string (bs e.path)) true).run Tryz.prog W = .ok (.tuple #[.int .i64 x1, .bool false]) W) [(false, 0), (false, 1), (false, 2), (false, 3), (false, 4), (false, 5), (false, 6), (false, 7), (false, 8), (false, 9), (false, 10), (false, 11)] (by kernel_rfl) (by kernel_rfl) (⟨by simpa using k1, by simpa using d0, r1⟩) ?_
    simp only [planOps, List.map, List.getD_cons_zero, List.getD_cons_succ]
    iterate 12 ((first | refine plan_quiet (v := ?_) rfl rfl (fun w' hw' => ?_) ?_ | refine plan_calm (v := ?_) (tt_of) rfl (fun w' hw' => ?_) ?_); rotate_left; (focus (go_simp <;> (first | with_reducible rfl | (rw [if_neg (by simp [undef])]; try rfl) | omega))); simp only [Act.put, List.setIfInBounds_toArray, List.set_cons_zero, List.set_cons_succ])
    refine plan_end ?_
    have b3 := (Kept.of_below ((Below.refl _ W2).drew) nowhere).blk b2 (fun h => h)
    have q3 := q2.drew
    have hsl3 := hsl2.keep good_ent ((Kept.refl X W2).drew)
    have ck3 := ck2.below ((Below.refl _ W2).drew)
    clear b2 q2 hsl2 ck2 k0 k1 k2 d0 d1 d8 r1
    generalize W2.drew = W3 at b3 q3 hsl3 ck3 ⊢
    have d1 := b3.cell 1
    simp at d1
    go_upto_if 34 with fail
    go_cut [] (fun wx => Below w.heap.size w wx ∧ Below W3.heap.size W3 wx ∧ Hid (res = if ((upsL e.path).any (upBad (l.take i)) || (((l.take i).any fun x => (upsL x.path).contains e.path) && !decide (e.kind = 2))) = true then 9 else 0))
    case first => as_aux_lemma =>
      by_cases h4 : e.kind = 4
      rotate_left
      · have e4 : (e.kind == 4) = false := by simpa using h4
        have HV := Lib.hid (HX.out.trans (if_neg (fun h => h4 h.1)))
        clear HX h4
        go_wp2_with fail
        go_meet
        exact ⟨by first | exact q3 | (rw [← hg]; exact q3), Below.refl _ _, HV⟩
      have e4 : (e.kind == 4) = true := by simpa using h4
      have HX := Lib.hid (show res = if linkE (l.take i) e ≠ 0 then linkE (l.take i) e else if ((upsL e.path).any (upBad (l.take i)) || (((l.take i).any fun x => (upsL x.path).contains e.path) && !decide (e.kind = 2))) = true then 9 else 0 by rw [HX.out]; simp [h4])
      have HLK : Hid (linkE (l.take i) e = match findE (l.take i) e.link with | none => 15 | some x => if x.kind = 1 then (if alikeE e x = true then 0 else 1) else 15) := Lib.hid rfl
      clear h4
      generalize linkE (l.take i) e = lk at HX HLK
      obtain ⟨x2, D2, o2, v2, lk2⟩ := nlook_all ck3.at_ e.link ll
      have r2 := lk2 W3.drew o2.drew
      have k1 := ck3.blk.cell 1
      have d8 := b3.cell 8
      simp at k1 d8
      have hb4 : Below W3.heap.size W3 W3.drew := (Below.refl _ _).drew
      have b4 := (Kept.of_below hb4 nowhere).blk b3 (fun h => h)
      have q4 := q3.trans (hb4.mono q3.size)
      have hsl4 := hsl3.keep good_ent ((Kept.refl X W3).drew)
      have ck4 := ck3.below hb4
      clear lk2 o2
      rcases HAt.out e.link with ⟨z1, z2⟩ | ⟨j, hj, hji, z1, z2, z3, z4⟩
      · have hfn := find_none_of _ _ z2
        have HV := Lib.hid (show res = 15 by rw [HX.out, HLK.out, hfn]; simp)
        rw [z1] at r2
        simp only [Option.isSome_none] at r2
        clear HX HLK z1 z2 hfn v2
        go_upto_region 8 with fail
        refine wp_region_plan (fun W => W.cell? ⟨cp, 1, none⟩ = some (.map (some m1)) ∧ W.cell? ⟨g, 8, none⟩ = some (.string (bs e.link)) ∧ (Instr.lookup 73 (.map (some m1)) (.string (bs e.link)) true).run Tryz.prog W = .ok (.tuple #[.int .i64 x2, .bool false]) W) [(false, 0), (false, 1), (false, 2), (false, 3), (false, 4), (false, 5), (false, 6), (false, 7), (false, 8), (false, 9), (false, 10), (false, 11)] (by kernel_rfl) (by kernel_rfl) (⟨by simpa using k1, by simpa using d8, r2⟩) ?_
        simp only [planOps, List.map, List.getD_cons_zero, List.getD_cons_succ]
        iterate 12 ((first | refine plan_quiet (v := ?_) rfl rfl (fun w' hw' => ?_) ?_ | refine plan_calm (v := ?_) (tt_of) rfl (fun w' hw' => ?_) ?_); rotate_left; (focus (go_simp <;> (first | with_reducible rfl | (rw [if_neg (by simp [undef])]; try rfl) | omega))); simp only [Act.put, List.setIfInBounds_toArray, List.set_cons_zero, List.set_cons_succ])
        refine plan_end ?_
        go_wp2_with fail
        go_ret
        exact ⟨by rw [HV.out]; rfl, by first | exact q4 | (rw [← hg]; exact q4)⟩
      · have hx2 := v2 _ z1
        subst hx2
        rw [z1] at r2
        simp only [Option.isSome_some] at r2
        have HLK := Lib.hid (show lk = if l[j].kind = 1 then (if alikeE e l[j] = true then 0 else 1) else 15 by rw [HLK.out, z3])
        clear z1 z2 z3 z4 v2
        go_upto_region 8 with fail
        refine wp_region_plan (fun W => W.cell? ⟨cp, 1, none⟩ = some (.map (some m1)) ∧ W.cell? ⟨g, 8, none⟩ = some (.string (bs e.link)) ∧ (Instr.lookup 73 (.map (some m1)) (.string (bs e.link)) true).run Tryz.prog W = .ok (.tuple #[.int .i64 j, .bool true]) W) [(false, 0), (false, 1), (false, 2), (false, 3), (false, 4), (false, 5), (false, 6), (false, 7), (false, 8), (false, 9), (false, 10), (false, 11)] (by kernel_rfl) (by kernel_rfl) (⟨by simpa using k1, by simpa using d8, r2⟩) ?_
        simp only [planOps, List.map, List.getD_cons_zero, List.getD_cons_succ]
        iterate 12 ((first | refine plan_quiet (v := ?_) rfl rfl (fun w' hw' => ?_) ?_ | refine plan_calm (v := ?_) (tt_of) rfl (fun w' hw' => ?_) ?_); rotate_left; (focus (go_simp <;> (first | with_reducible rfl | (rw [if_neg (by simp [undef])]; try rfl) | omega))); simp only [Act.put, List.setIfInBounds_toArray, List.set_cons_zero, List.set_cons_succ])
        refine plan_end ?_
        clear r2 k1 d8 b3 hsl3 ck3
        generalize W3.drew = W4 at hb4 b4 q4 hsl4 ck4 ⊢
        have k0 := ck4.blk.cell 0
        simp at k0
        obtain ⟨b', off', hbo, _, hcj⟩ := hsl4.ent (by omega)
        injection hbo with hbo
        injection hbo with hbo1 hbo2
        subst hbo1 hbo2
        obtain ⟨dx, hatx, hdx⟩ := hcj j hj
        obtain ⟨Ax, capx, rfl, _, _⟩ := hdx.form
        clear hcj
        generalize l[j] = x at hatx hdx HLK
        obtain ⟨c0, c1, c2, c3, c4, c5, c6, c7, c8, c9⟩ := hatx
        have j1 : (0 : Int) ≤ (j : Int) := by omega
        have j2 : (j : Int) < (l.length : Int) := by omega
        by_cases hx1 : x.kind = 1
        rotate_left
        · have e1 : (x.kind == 1) = false := by simpa using hx1
          have e1' : (x.kind != 1) = true := by simpa using hx1
          have HV := Lib.hid (show res = 15 by rw [HX.out, HLK.out, if_neg hx1]; simp)
          clear HX HLK hx1
          go_wp2_with fail
          go_ret
          exact ⟨by rw [HV.out]; rfl, by first | exact q4 | (rw [← hg]; exact q4)⟩
        have e1 : (x.kind == 1) = true := by simpa using hx1
        have e1' : (x.kind != 1) = false := by simpa using hx1
        have HLK := Lib.hid (HLK.out.trans (if_pos hx1))
        clear hx1
        have d0 := b4.cell 0
        have d1 := b4.cell 1
        have d2 := b4.cell 2
        have d3 := b4.cell 3
        have d4 := b4.cell 4
        have d5 := b4.cell 5
        have d6 := b4.cell 6
        have d7 := b4.cell 7
        have d8 := b4.cell 8
        have d9 := b4.cell 9
        simp at d0 d1 d2 d3 d4 d5 d6 d7 d8 d9
        go_upto_region 11 with fail
        refine wp_region_plan (fun W => (W.cell? ⟨b, off + j * 10, none⟩ = some (.string (bs x.path)) ∧ W.cell? ⟨b, off + j * 10 + 1, none⟩ = some (.int .i64 x.kind) ∧ W.cell? ⟨b, off + j * 10 + 2, none⟩ = some (.int .i64 x.mode) ∧ W.cell? ⟨b, off + j * 10 + 3, none⟩ = some (.int .i64 x.uid) ∧ W.cell? ⟨b, off + j * 10 + 4, none⟩ = some (.int .i64 x.gid) ∧ W.cell? ⟨b, off + j * 10 + 5, none⟩ = some (.string (bs x.owner)) ∧ W.cell? ⟨b, off + j * 10 + 6, none⟩ = some (.string (bs x.group)) ∧ W.cell? ⟨b, off + j * 10 + 7, none⟩ = some (.int .i64 x.mtime) ∧ W.cell? ⟨b, off + j * 10 + 8, none⟩ = some (.string (bs x.link)) ∧ W.cell? ⟨b, off + j * 10 + 9, none⟩ = some (.slice Ax x.data.length capx)) ∧ (W.cell? ⟨g, 0, none⟩ = some (.string (bs e.path)) ∧ W.cell? ⟨g, 1, none⟩ = some (.int .i64 e.kind) ∧ W.cell? ⟨g, 2, none⟩ = some (.int .i64 e.mode) ∧ W.cell? ⟨g, 3, none⟩ = some (.int .i64 e.uid) ∧ W.cell? ⟨g, 4, none⟩ = some (.int .i64 e.gid) ∧ W.cell? ⟨g, 5, none⟩ = some (.string (bs e.owner)) ∧ W.cell? ⟨g, 6, none⟩ = some (.string (bs e.group)) ∧ W.cell? ⟨g, 7, none⟩ = some (.int .i64 e.mtime) ∧ W.cell? ⟨g, 8, none⟩ = some (.string (bs e.link)) ∧ W.cell? ⟨g, 9, none⟩ = some (.slice Ad e.data.length capd)) ∧ W.cell? ⟨cp, 0, none⟩ = some (.slice (some ⟨b, off, none⟩) l.length cap)) [(false, 0), (false, 2), (false, 3), (false, 4), (false, 5), (false, 6), (false, 7), (false, 8), (true, 1), (true, 9), (false, 10)] (by kernel_rfl) (by kernel_rfl) (⟨⟨by simpa using c0, by simpa using c1, by simpa using c2, by simpa using c3, by simpa using c4, by simpa using c5, by simpa using c6, by simpa using c7, by simpa using c8, by simpa using c9⟩, ⟨by simpa using d0, by simpa using d1, by simpa using d2, by simpa using d3, by simpa using d4, by simpa using d5, by simpa using d6, by simpa using d7, by simpa using d8, by simpa using d9⟩, by simpa using k0⟩) ?_
        simp only [planOps, List.map, List.getD_cons_zero, List.getD_cons_succ]
        iterate 8 ((first | refine plan_quiet (v := ?_) rfl rfl (fun w' hw' => ?_) ?_ | refine plan_calm (v := ?_) (tt_of) rfl (fun w' hw' => ?_) ?_); rotate_left; (focus (go_simp <;> (first | with_reducible rfl | (rw [if_neg (by simp [undef])]; try rfl) | omega))); simp only [Act.put, List.setIfInBounds_toArray, List.set_cons_zero, List.set_cons_succ])
        refine plan_loud rfl (fun K hK => ?_)
        go_simp
        refine (common_any e _ _ _ _ _ rfl).mono ?_
        rintro r W5 ⟨rfl, hb5⟩
        have hb5' : Below W4.heap.size W4 W5 := ((Below.refl _ W4).drew).trans hb5
        have kx := Kept.of_below hb5' nowhere
        refine hK _ _ (⟨⟨kx.cell c0 (fun h => h), kx.cell c1 (fun h => h), kx.cell c2 (fun h => h), kx.cell c3 (fun h => h), kx.cell c4 (fun h => h), kx.cell c5 (fun h => h), kx.cell c6 (fun h => h), kx.cell c7 (fun h => h), kx.cell c8 (fun h => h), kx.cell c9 (fun h => h)⟩, ⟨kx.cell d0 (fun h => h), kx.cell d1 (fun h => h), kx.cell d2 (fun h => h), kx.cell d3 (fun h => h), kx.cell d4 (fun h => h), kx.cell d5 (fun h => h), kx.cell d6 (fun h => h), kx.cell d7 (fun h => h), kx.cell d8 (fun h => h), kx.cell d9 (fun h => h)⟩, kx.cell k0 (fun h => h)⟩) ?_
        clear hK K
        (try simp only [Act.put, List.setIfInBounds_toArray, List.set_cons_zero, List.set_cons_succ])
        refine plan_loud rfl (fun K hK => ?_)
        have b5 := kx.blk b4 (fun h => h)
        have q5 := q4.trans (hb5'.mono q4.size)
        have hb6 := hb4.trans (hb5'.mono hb4.size)
        have hsl5 := Below.sl good_ent hb5' hsl4
        have ck5 := ck4.below hb5'
        have c0 := kx.cell c0 (fun h => h)
        have d0 := kx.cell d0 (fun h => h)
        have c1 := kx.cell c1 (fun h => h)
        have d1 := kx.cell d1 (fun h => h)
        have c2 := kx.cell c2 (fun h => h)
        have d2 := kx.cell d2 (fun h => h)
        have c3 := kx.cell c3 (fun h => h)
        have d3 := kx.cell d3 (fun h => h)
        have c4 := kx.cell c4 (fun h => h)
        have d4 := kx.cell d4 (fun h => h)
        have c5 := kx.cell c5 (fun h => h)
        have d5 := kx.cell d5 (fun h => h)
        have c6 := kx.cell c6 (fun h => h)
        have d6 := kx.cell d6 (fun h => h)
        have c7 := kx.cell c7 (fun h => h)
        have d7 := kx.cell d7 (fun h => h)
        have c8 := kx.cell c8 (fun h => h)
        have d8 := kx.cell d8 (fun h => h)
        have c9 := kx.cell c9 (fun h => h)
        have d9 := kx.cell d9 (fun h => h)
        have k0 := kx.cell k0 (fun h => h)
        clear kx hb5 hb5' b4 q4 hb4 hsl4 ck4
        go_simp
        refine (common_any x _ _ _ _ _ rfl).mono ?_
        rintro r W6 ⟨rfl, hb7⟩
        have kx := Kept.of_below hb7 nowhere
        obtain ⟨al, HAL⟩ : ∃ al, Hid (alikeE e x = al) := ⟨_, Lib.hid rfl⟩
        have hcm : ∀ W : World, (if e.mode = x.mode then if e.uid = x.uid then if e.gid = x.gid then if (bs e.owner).toList = (bs x.owner).toList then if (bs e.group).toList = (bs x.group).toList then if e.mtime = x.mtime then Result.ok (Next.value (Value.bool false)) W else Result.ok (Next.value (Value.bool true)) W else Result.ok (Next.value (Value.bool true)) W else Result.ok (Next.value (Value.bool true)) W else Result.ok (Next.value (Value.bool true)) W else Result.ok (Next.value (Value.bool true)) W else Result.ok (Next.value (Value.bool true)) W) = Result.ok (Next.value (Value.bool (!al))) W := fun W => by rw [common_ifs, HAL.out]
        refine hK _ _ (⟨⟨kx.cell c0 (fun h => h), kx.cell c1 (fun h => h), kx.cell c2 (fun h => h), kx.cell c3 (fun h => h), kx.cell c4 (fun h => h), kx.cell c5 (fun h => h), kx.cell c6 (fun h => h), kx.cell c7 (fun h => h), kx.cell c8 (fun h => h), kx.cell c9 (fun h => h)⟩, ⟨kx.cell d0 (fun h => h), kx.cell d1 (fun h => h), kx.cell d2 (fun h => h), kx.cell d3 (fun h => h), kx.cell d4 (fun h => h), kx.cell d5 (fun h => h), kx.cell d6 (fun h => h), kx.cell d7 (fun h => h), kx.cell d8 (fun h => h), kx.cell d9 (fun h => h)⟩, kx.cell k0 (fun h => h)⟩) ?_
        clear hK K
        (try simp only [Act.put, List.setIfInBounds_toArray, List.set_cons_zero, List.set_cons_succ])
        iterate 1 ((first | refine plan_quiet (v := ?_) rfl rfl (fun w' hw' => ?_) ?_ | refine plan_calm (v := ?_) (tt_of) rfl (fun w' hw' => ?_) ?_); rotate_left; (focus (go_simp <;> (first | with_reducible rfl | (rw [if_neg (by simp [undef])]; try rfl) | omega))); simp only [Act.put, List.setIfInBounds_toArray, List.set_cons_zero, List.set_cons_succ])
        refine plan_end ?_
        have q6 := q5.trans (hb7.mono q5.size)
        have hb8 := hb6.trans (hb7.mono hb6.size)
        clear c0 c1 c2 c3 c4 c5 c6 c7 c8 c9 d0 d1 d2 d3 d4 d5 d6 d7 d8 d9 k0 kx
        clear hcm
        have HLK := Lib.hid (show lk = if al = true then 0 else 1 by rw [HLK.out, HAL.out])
        cases al with
        | true =>
          have HV := Lib.hid (show res = if ((upsL e.path).any (upBad (l.take i)) || (((l.take i).any fun x => (upsL x.path).contains e.path) && !decide (e.kind = 2))) = true then 9 else 0 by rw [HX.out, HLK.out]; simp)
          clear HX HLK HAL
          go_wp2_with fail
          go_meet
          exact ⟨by first | exact q6 | (rw [← hg]; exact q6), hb8, HV⟩
        | false =>
          have HV := Lib.hid (show res = 1 by rw [HX.out, HLK.out]; simp)
          clear HX HLK HAL
          go_wp2_with fail
          go_ret
          exact ⟨by rw [HV.out]; rfl, by first | exact q6 | (rw [← hg]; exact q6)⟩
    case rest => as_aux_lemma =>
      obtain ⟨q4, hb4, HN⟩ := hcut
      clear HX d1
      have b4 := b3.below hb4 b3.lt
      have hsl4 := Below.sl good_ent hb4 hsl3
      have ck4 := ck3.below hb4
      clear b3 hsl3 ck3 q3 hb4
      have d0 := b4.cell 0
      simp at d0
      have hul : (upsL e.path).length ≤ e.path.length := up_len e.path []
      obtain ⟨b', off', hbo, _, hcj⟩ := hsl4.ent (by omega)
      injection hbo with hbo
      injection hbo with hbo1 hbo2
      subst hbo1 hbo2
      have HUK := Lib.hid (fun x (hx : x ∈ upsL e.path) => (ups_mem x e.path).1 hx)
      go_wp2_with fail
      refine (parents_any e.path _ lp).mono ?_
      rintro r W5 ⟨⟨v5, rfl, hs5⟩, hb5⟩
      have b5 := b4.below hb5 b4.lt
      have q5 := q4.trans (hb5.mono q4.size)
      have hsl5 := Below.sl good_ent hb5 hsl4
      have ck5 := ck4.below hb5
      clear b4 q4 hsl4 ck4 hb5 d0 hcj
      obtain ⟨P, HP⟩ : ∃ P, Hid (upsL e.path = P) := ⟨_, Lib.hid rfl⟩
      rw [HP.out] at hs5 hul
      have HUP : Hid (∀ x ∈ P, x.length ≤ 1000000000) := Lib.hid fun x hx => by
        obtain ⟨t, ht⟩ := HUK.out x (by rw [HP.out]; exact hx)
        have := congrArg List.length ht
        simp at this
        omega
      have HN := Lib.hid (show res = if ((P.drop 0).any (upBad (l.take i)) || (((l.take i).any fun x => (upsL x.path).contains e.path) && !decide (e.kind = 2))) = true then 9 else 0 by rw [HN.out, HP.out]; rfl)
      clear HUK HP
      obtain ⟨A5, cap5, rfl, hd1, hd2⟩ := hs5.form
      unfold maxLen at hd2
      go_wp2_with fail
      go_loopg [73] P.length (fun G s73 wr => ∃ k : Nat, k ≤ P.length ∧ G = P.length - k ∧ s73 = .int .i64 k ∧ W5 = wr ∧ Hid (res = if ((P.drop k).any (upBad (l.take i)) || (((l.take i).any fun x => (upsL x.path).contains e.path) && !decide (e.kind = 2))) = true then 9 else 0))
      case atStart => exact ⟨0, Nat.zero_le _, rfl, rfl, rfl, HN⟩
      case round =>
        clear HN
        obtain ⟨k, hk, rfl, rfl, rfl, HE⟩ := hrel
        by_cases hlt : k < P.length
        · obtain ⟨_, _, _, bp, offp, rfl, hc⟩ := hs5.text (by omega)
          have ck := hc k hlt
          have hpl := HUP.out _ (List.getElem_mem hlt)
          have HE := Lib.hid (show res = if ((upBad (l.take i) P[k] || (P.drop (k + 1)).any (upBad (l.take i))) || (((l.take i).any fun x => (upsL x.path).contains e.path) && !decide (e.kind = 2))) = true then 9 else 0 by rw [HE.out, any_drop _ _ k hlt])
          clear hc
          generalize P[k] = p at ck hpl HE
          have k0 := ck5.blk.cell 0
          have k1 := ck5.blk.cell 1
          simp at k0 k1
          have i1 : (0 : Int) ≤ (k : Int) := by omega
          have i2 : (k : Int) < (P.length : Int) := by omega
          have hm := ck5.at_
          rcases HAt.out p with ⟨z1, z2⟩ | ⟨j, hj, hji, z1, z2, z3, z4⟩
          · have hub : upBad (l.take i) p = false := by rw [upBad, find_none_of _ _ z2]
            have HV := Lib.hid (show res = if ((P.drop (k + 1)).any (upBad (l.take i)) || (((l.take i).any fun x => (upsL x.path).contains e.path) && !decide (e.kind = 2))) = true then 9 else 0 by rw [HE.out, hub, Bool.false_or])
            clear HE hub z2
            go_wp2_with (at_lookup; refine wpList_nlook _ rfl _ _ rfl _ _ f1 rfl hm p rfl hpl ?_; rintro vl -; rw [z1])
            go_roundg (P.length - (k + 1))
            case measure => omega
            case rel => exact ⟨k + 1, by omega, rfl, by simp, rfl, HV⟩
          · obtain ⟨b', off', hbo, _, hcj⟩ := hsl5.ent (by omega)
            injection hbo with hbo
            injection hbo with hbo1 hbo2
            subst hbo1 hbo2
            obtain ⟨dx, ⟨_, c1, _, _, _, _, _, _, _, _⟩, _⟩ := hcj j hj
            have hub : upBad (l.take i) p = !decide (l[j].kind = 2) := by rw [upBad, z3]
            have HE := Lib.hid (show res = if ((!decide (l[j].kind = 2) || (P.drop (k + 1)).any (upBad (l.take i))) || (((l.take i).any fun x => (upsL x.path).contains e.path) && !decide (e.kind = 2))) = true then 9 else 0 by rw [HE.out, hub])
            clear hcj hub z2 z3 z4
            generalize l[j].kind = xk at c1 HE
            have j1 : (0 : Int) ≤ (j : Int) := by omega
            have j2 : (j : Int) < (l.length : Int) := by omega
            by_cases hx : xk = 2
            · have g1 : (xk == 2) = true := by simpa using hx
              have g2 : (xk != 2) = false := by simpa using hx
              have HV := Lib.hid (show res = if ((P.drop (k + 1)).any (upBad (l.take i)) || (((l.take i).any fun x => (upsL x.path).contains e.path) && !decide (e.kind = 2))) = true then 9 else 0 by rw [HE.out]; simp [hx])
              clear HE hx
              go_wp2_with (at_lookup; refine wpList_nlook _ rfl _ _ rfl _ _ f1 rfl hm p rfl hpl ?_; intro vl hvl; obtain rfl := hvl _ z1; rw [z1])
              go_roundg (P.length - (k + 1))
              case measure => omega
              case rel => exact ⟨k + 1, by omega, rfl, by simp, rfl, HV⟩
            · have g1 : (xk == 2) = false := by simpa using hx
              have g2 : (xk != 2) = true := by simpa using hx
              have HV := Lib.hid (show res = 9 by rw [HE.out]; simp [hx])
              clear HE hx
              go_wp2_with (at_lookup; refine wpList_nlook _ rfl _ _ rfl _ _ f1 rfl hm p rfl hpl ?_; intro vl hvl; obtain rfl := hvl _ z1; rw [z1])
              go_ret
              exact ⟨by rw [HV.out]; rfl, by first | exact q5 | (rw [← hg]; exact q5)⟩
        · have hke : k = P.length := by omega
          subst hke
          have HE := Lib.hid (show res = if (((l.take i).any fun x => (upsL x.path).contains e.path) && !decide (e.kind = 2)) = true then 9 else 0 by rw [HE.out, List.drop_length]; rfl)
          obtain ⟨x2, D2, o2, _, lk2⟩ := nlook_all ck5.ab e.path lp
          rw [HAb.out] at lk2
          have r2 := lk2 W5.drew o2.drew
          have k2 := ck5.blk.cell 2
          have d0 := b5.cell 0
          have d1 := b5.cell 1
          simp at k2 d0 d1
          clear lk2 o2
          generalize ((l.take i).any fun x => (upsL x.path).contains e.path) = ab at r2 HE
          cases ab with
          | false =>
            have HV := Lib.hid (show res = 0 by rw [HE.out]; simp)
            clear HE
            go_upto_region 20 with fail
            refine wp_region_plan (fun W => W.cell? ⟨cp, 2, none⟩ = some (.map (some m2)) ∧ W.cell? ⟨g, 0, none⟩ = some (.string (bs e.path)) ∧ (Instr.lookup 73 (.map (some m2)) (.string (bs e.path)) true).run Tryz.prog W = .ok (.tuple #[.int .i64 x2, .bool false]) W) [(false, 0), (false, 1), (false, 2), (false, 3), (false, 4), (false, 5), (false, 6), (false, 7), (false, 8), (false, 9), (false, 10), (false, 11)] (by kernel_rfl) (by kernel_rfl) (⟨by simpa using k2, by simpa using d0, r2⟩) ?_
            simp only [planOps, List.map, List.getD_cons_zero, List.getD_cons_succ]
            iterate 12 ((first | refine plan_quiet (v := ?_) rfl rfl (fun w' hw' => ?_) ?_ | refine plan_calm (v := ?_) (tt_of) rfl (fun w' hw' => ?_) ?_); rotate_left; (focus (go_simp <;> (first | with_reducible rfl | (rw [if_neg (by simp [undef])]; try rfl) | omega))); simp only [Act.put, List.setIfInBounds_toArray, List.set_cons_zero, List.set_cons_succ])
            refine plan_end ?_
            go_wp2_with fail
            go_ret
            exact ⟨by rw [HV.out]; rfl, by first | exact q5.drew | (rw [← hg]; exact q5.drew)⟩
          | true =>
            by_cases hek : e.kind = 2
            · have g1 : (e.kind == 2) = true := by simpa using hek
              have g2 : (e.kind != 2) = false := by simpa using hek
              have HV := Lib.hid (show res = 0 by rw [HE.out]; simp [hek])
              clear HE hek
              go_upto_region 20 with fail
              refine wp_region_plan (fun W => W.cell? ⟨cp, 2, none⟩ = some (.map (some m2)) ∧ W.cell? ⟨g, 0, none⟩ = some (.string (bs e.path)) ∧ (Instr.lookup 73 (.map (some m2)) (.string (bs e.path)) true).run Tryz.prog W = .ok (.tuple #[.int .i64 x2, .bool true]) W) [(false, 0), (false, 1), (false, 2), (false, 3), (false, 4), (false, 5), (false, 6), (false, 7), (false, 8), (false, 9), (false, 10), (false, 11)] (by kernel_rfl) (by kernel_rfl) (⟨by simpa using k2, by simpa using d0, r2⟩) ?_
              simp only [planOps, List.map, List.getD_cons_zero, List.getD_cons_succ]
              iterate 12 ((first | refine plan_quiet (v := ?_) rfl rfl (fun w' hw' => ?_) ?_ | refine plan_calm (v := ?_) (tt_of) rfl (fun w' hw' => ?_) ?_); rotate_left; (focus (go_simp <;> (first | with_reducible rfl | (rw [if_neg (by simp [undef])]; try rfl) | omega))); simp only [Act.put, List.setIfInBounds_toArray, List.set_cons_zero, List.set_cons_succ])
              refine plan_end ?_
              go_wp2_with fail
              go_ret
              exact ⟨by rw [HV.out]; rfl, by first | exact q5.drew | (rw [← hg]; exact q5.drew)⟩
            · have g1 : (e.kind == 2) = false := by simpa using hek
              have g2 : (e.kind != 2) = true := by simpa using hek
              have HV := Lib.hid (show res = 9 by rw [HE.out]; simp [hek])
              clear HE hek
              go_upto_region 20 with fail
              refine wp_region_plan (fun W => W.cell? ⟨cp, 2, none⟩ = some (.map (some m2)) ∧ W.cell? ⟨g, 0, none⟩ = some (.string (bs e.path)) ∧ (Instr.lookup 73 (.map (some m2)) (.string (bs e.path)) true).run Tryz.prog W = .ok (.tuple #[.int .i64 x2, .bool true]) W) [(false, 0), (false, 1), (false, 2), (false, 3), (false, 4), (false, 5), (false, 6), (false, 7), (false, 8), (false, 9), (false, 10), (false, 11)] (by kernel_rfl) (by kernel_rfl) (⟨by simpa using k2, by simpa using d0, r2⟩) ?_
              simp only [planOps, List.map, List.getD_cons_zero, List.getD_cons_succ]
              iterate 12 ((first | refine plan_quiet (v := ?_) rfl rfl (fun w' hw' => ?_) ?_ | refine plan_calm (v := ?_) (tt_of) rfl (fun w' hw' => ?_) ?_); rotate_left; (focus (go_simp <;> (first | with_reducible rfl | (rw [if_neg (by simp [undef])]; try rfl) | omega))); simp only [Act.put, List.setIfInBounds_toArray, List.set_cons_zero, List.set_cons_succ])
              refine plan_end ?_
              go_wp2_with fail
              go_ret
              exact ⟨by rw [HV.out]; rfl, by first | exact q5.drew | (rw [← hg]; exact q5.drew)⟩
end Go.Proofs.YtpheifdpjcppdaaGreatDoor
namespace Go.Proofs.YtpheifdpjcppdaaGreatDoor
open Go.RowKit Go.WideMaps Go.Maps
theorem wf_nat {n : Nat} (h : n ≤ 1000000000000000) : (Lit.int .i64 (n : Int)).wf = true := by
  simp [Lit.wf, IntKind.min, IntKind.max, IntKind.signed, IntKind.bits]; omega
set_option maxRecDepth 20000 in
set_option maxHeartbeats 8000000 in
theorem rchkall_any (l : List En) (v : Value) (X : Nat → Prop) (w : World) (hsl : Sl 10 Rent X w v l) (hL : LB l) :
    Calls Tryz.prog 14 #[v] w fun e w' => e = .returned (.tuple #[.int .i64 (chkL l).1, .int .i64 (chkL l).2]) ∧ Below w.heap.size w w' := by
  obtain ⟨A, cap, rfl, hc1, hc2⟩ := hsl.form
  unfold maxLen at hc2
  have hL1 := hL.1
  have HLL := Lib.hid hL
  clear hL
  have HT : Hid (chkL l = if 4096 < l.length then (4096, 4) else goE (l.take 0) (l.drop 0)) := Lib.hid rfl
  obtain ⟨res, hres⟩ : ∃ r, chkL l = r := ⟨_, rfl⟩
  rw [hres] at HT ⊢
  clear hres
  go_enter Tryz.func14, Tryz.ntmps14
  by_cases h4 : 4096 < l.length
  · have HV : Hid (res = (4096, 4)) := Lib.hid (by rw [HT.out, if_pos h4])
    have hb : decide ((4096 : Int) < (l.length : Int)) = true := by simp; omega
    clear h4 HT
    go_wp2_with fail
    go_ret2
    exact ⟨by rw [HV.out]; rfl, Below.refl _ _⟩
  · have HV : Hid (res = goE (l.take 0) (l.drop 0)) := Lib.hid (by rw [HT.out, if_neg h4])
    have hb : decide ((4096 : Int) < (l.length : Int)) = false := by simp; omega
    clear h4 HT
    go_wp2_with fail
    clear hb
    go_loopg [4] l.length (fun G s4 wr => ∃ k : Nat, k ≤ l.length ∧ G = l.length - k ∧ s4 = .int .i64 k ∧ Below w.heap.size w wr ∧ Hid (res = goE (l.take k) (l.drop k)))
    case atStart => exact ⟨0, Nat.zero_le _, rfl, rfl, Below.refl _ _, HV⟩
    case round =>
      clear HV
      obtain ⟨k, hk, rfl, rfl, hbw, HE⟩ := hrel
      by_cases hlt : k < l.length
      · have hslr := hsl.keep good_ent (Kept.of_below hbw X)
        have HST := Lib.hid (HE.out.trans (goE_step l k hlt))
        have i2 : (k : Int) < (l.length : Int) := by omega
        clear HE
        go_wp2_with fail
        refine (rbad_any l _ X _ k hlt hslr HLL.out).mono ?_
        rintro e w2 ⟨rfl, hb2⟩
        have q2 := hbw.trans (hb2.mono hbw.size)
        generalize badE (l.take k) l[k] = z at HST ⊢
        by_cases hz : z = 0
        · have hzb : (z != 0) = false := by simpa using hz
          have HV := Lib.hid (HST.out.trans (if_pos hz))
          clear hz HST
          go_wp2_with fail
          go_roundg (l.length - (k + 1))
          case measure => omega
          case rel => exact ⟨k + 1, by omega, rfl, by simp, q2, HV⟩
        · have hzb : (z != 0) = true := by simpa using hz
          have HV := Lib.hid (HST.out.trans (if_neg hz))
          clear hz HST
          go_wp2_with fail
          go_ret2
          exact ⟨by rw [HV.out]; rfl, q2⟩
      · have HV : Hid (res = (0, 0)) := Lib.hid (by rw [HE.out, List.drop_eq_nil_of_le (by omega)]; rfl)
        have hke : k = l.length := by omega
        subst hke
        clear HE
        go_wp2_with fail
        go_ret2
        exact ⟨by rw [HV.out]; rfl, hbw⟩
theorem path_short {e : En} {a : List En} (h : badE a e = 0) : e.path.length ≤ 200 ∧ hasE a e.path = false := by
  rw [badE] at h
  split at h
  · rename_i hz
    constructor
    · rw [chkE] at hz
      split at hz
      · cases hz
      · rename_i hp
        have hp : pathOk e.path = true := by simpa using hp
        rw [pathOk] at hp
        simp at hp
        omega
    · split at h
      · cases h
      · rename_i hh; simpa using hh
  · rename_i hz; exact absurd h hz
theorem Sl.text_off {X : Nat → Prop} {w : World} {v : Value} {l : List (List UInt8)} {m n : Nat} {f : List UInt8 → Option Int} (h : Sl 1 Rtext X w v l) (hm : NMap w m n f) : Sl 1 Rtext (fun b => b = m) w v l := by
  obtain ⟨A, cap, hv, h1, h2, h3, h4, h5⟩ := h
  refine ⟨A, cap, hv, h1, h2, h3, fun hl => ?_, h5⟩
  obtain ⟨b, off, hA, hX, hc⟩ := h4 hl
  refine ⟨b, off, hA, fun e => ?_, fun j hj => ?_⟩
  · have hpos : 0 < l.length := List.length_pos_iff.2 hl
    obtain ⟨cs, hcs, hR⟩ := hc 0 hpos
    have hR : cs = [.string (bs l[0])] := hR
    subst hR
    have hcell := hcs 0 _ rfl
    obtain ⟨es, c, hbk⟩ := hm.blk
    subst e
    simp [World.cell?, hbk] at hcell
  · obtain ⟨cs, hcs, hR⟩ := hc j hj
    exact ⟨cs, hcs, hR⟩
/-- The paths above an entry join those that are known. -/
theorem AbM.step {m : List UInt8 → Option Int} {a : List En} {e : En} (h : ∀ p, (m p).isSome = ((a.any fun x => (upsL x.path).contains p) || (upsL e.path).contains p)) : AbM m (a ++ [e]) := fun p => by
  rw [h p, List.any_append]
  simp
set_option maxRecDepth 20000 in
set_option maxHeartbeats 16000000 in
theorem pchkall_any (l : List En) (v : Value) (X : Nat → Prop) (w : World) (hsl : Sl 10 Rent X w v l) (hL : LB l) :
    Calls Tryz.prog 15 #[v] w fun e w' => e = .returned (.tuple #[.int .i64 (chkL l).1, .int .i64 (chkL l).2]) ∧ Below w.heap.size w w' := by
  obtain ⟨A, cap, rfl, hc1, hc2⟩ := hsl.form
  unfold maxLen at hc2
  have hL1 := hL.1
  have HLL := Lib.hid hL
  clear hL
  have HT : Hid (chkL l = if 4096 < l.length then (4096, 4) else goE (l.take 0) (l.drop 0)) := Lib.hid rfl
  obtain ⟨res, hres⟩ : ∃ r, chkL l = r := ⟨_, rfl⟩
  rw [hres] at HT ⊢
  clear hres
  go_enter Tryz.func15, Tryz.ntmps15
  by_cases h4 : 4096 < l.length
  · have HV : Hid (res = (4096, 4)) := Lib.hid (by rw [HT.out, if_pos h4])
    have hb : decide ((4096 : Int) < (l.length : Int)) = true := by simp; omega
    clear h4 HT
    go_wp2_with fail
    go_ret2
    exact ⟨by rw [HV.out]; rfl, Below.refl _ _⟩
  · have HV : Hid (res = goE (l.take 0) (l.drop 0)) := Lib.hid (by rw [HT.out, if_neg h4])
    have hb : decide ((4096 : Int) < (l.length : Int)) = false := by simp; omega
    have hl4 : l.length ≤ 4096 := by omega
    clear h4 HT
    have hmm := @run_makeMap Tryz.prog
    go_upto_region 4 with fail
    have M1 := NMap.made w
    have e1 : (w.alloc (.map #[] 0)).heap.size = w.heap.size + 1 := by simp
    have M2 := NMap.made (w.alloc (.map #[] 0))
    rw [e1] at M2
    have e2 : ((w.alloc (.map #[] 0)).alloc (.map #[] 0)).heap.size = w.heap.size + 1 + 1 := by simp
    have M1 := M1.below ((Below.refl _ (w.alloc (.map #[] 0))).alloc (Nat.le_refl _) (.map #[] 0))
    have bC := Blk.new ((w.alloc (.map #[] 0)).alloc (.map #[] 0)) tC #[.slice A l.length cap, .map (some w.heap.size), .map (some (w.heap.size + 1))]
    rw [e2] at bC
    have hb3 := (Below.refl _ ((w.alloc (.map #[] 0)).alloc (.map #[] 0))).alloc (Nat.le_refl _) (.cells #[.slice A l.length cap, .map (some w.heap.size), .map (some (w.heap.size + 1))] tC)
    have ck0 : CK _ _ _ _ 0 0 _ _ _ := ⟨bC, M1.below hb3, M2.below hb3⟩
    have q0 := (((Below.refl w.heap.size w).alloc (Nat.le_refl _) (.map #[] 0)).alloc (by rw [e1]; omega) (.map #[] 0)).alloc (by rw [e2]; omega) (.cells #[.slice A l.length cap, .map (some w.heap.size), .map (some (w.heap.size + 1))] tC)
    have g1 : w.heap.size ≤ w.heap.size := Nat.le_refl _
    have g2 : w.heap.size ≤ w.heap.size + 1 := by omega
    have g12 : w.heap.size ≠ w.heap.size + 1 := by omega
    clear hmm M1 M2 bC hb3 e1 e2
    generalize ((w.alloc (.map #[] 0)).alloc (.map #[] 0)).alloc (.cells #[.slice A l.length cap, .map (some w.heap.size), .map (some (w.heap.size + 1))] tC) = W0 at ck0 q0 ⊢
    generalize w.heap.size + 1 + 1 = cp at ck0 ⊢
    generalize w.heap.size + 1 = m2 at ck0 g2 g12 ⊢
    generalize hm1 : w.heap.size = m1 at ck0 g12 ⊢
    have g1 : w.heap.size ≤ m1 := by omega
    have hU0 : Hid (Uniq (l.take 0)) := Lib.hid (fun i j hi => by simp at hi)
    have hA0 : Hid (AtM (fun _ => none) l 0) := Lib.hid (AtM.nil l)
    have hB0 : Hid (AbM (fun _ => none) (l.take 0)) := Lib.hid (by simpa using AbM.nil)
    go_wp2_with fail
    go_loopg [20] l.length (fun G s20 wr => ∃ (k n1 n2 : Nat) (f1 f2 : List UInt8 → Option Int), k ≤ l.length ∧ G = l.length - k ∧ s20 = .int .i64 k ∧ n1 ≤ k ∧ n2 ≤ k * 200 ∧ Below w.heap.size w wr ∧ CK wr cp m1 m2 n1 n2 (.slice A l.length cap) f1 f2 ∧ Hid (AtM f1 l k) ∧ Hid (AbM f2 (l.take k)) ∧ Hid (Uniq (l.take k)) ∧ Hid (res = goE (l.take k) (l.drop k)))
    case atStart => exact ⟨0, 0, 0, _, _, Nat.zero_le _, rfl, rfl, Nat.le_refl _, Nat.le_refl _, q0, ck0, hA0, hB0, hU0, HV⟩
    case round =>
      clear HV q0 ck0 hA0 hB0 hU0 hb
      obtain ⟨k, n1, n2, f1, f2, hk, rfl, rfl, hn1, hn2, hbw, ck, HA, HB, HU, HE⟩ := hrel
      by_cases hlt : k < l.length
      rotate_left
      · have HV : Hid (res = (0, 0)) := Lib.hid (by rw [HE.out, List.drop_eq_nil_of_le (by omega)]; rfl)
        have hke : k = l.length := by omega
        subst hke
        clear HE
        go_wp2_with fail
        go_ret2
        exact ⟨by rw [HV.out]; rfl, by first | exact hbw | (rw [← hm1]; exact hbw)⟩
      have hslr := hsl.keep good_ent (Kept.of_below hbw X)
      have HST := Lib.hid (HE.out.trans (goE_step l k hlt))
      obtain ⟨b, off, rfl, _, hc⟩ := hslr.ent (by omega)
      obtain ⟨dv, hat, hdv⟩ := hc k hlt
      obtain ⟨Ad, capd, rfl, _, _⟩ := hdv.form
      have htk := List.take_succ_eq_append_getElem hlt
      have HAP := Lib.hid (fun hn => HA.out.put hlt hn)
      have hPB := fun (W : World) (hs : Sl 10 Rent X W (.slice (some ⟨b, off, none⟩) l.length cap) l) (hd : Sl 1 Rbyte X W (.slice Ad (l[k]'hlt).data.length capd) (l[k]'hlt).data) (hc : CK W cp m1 m2 n1 n2 (.slice (some ⟨b, off, none⟩) l.length cap) f1 f2) => pbad_any l _ X W k hlt (some ⟨b, off, none⟩) cap cp m1 m2 n1 n2 f1 f2 hs hd hc HA.out HB.out HU.out HLL.out
      have hEB := HLL.out.2 _ (List.getElem_mem hlt)
      obtain ⟨e, He⟩ : ∃ e, Hid (l[k] = e) := ⟨_, Lib.hid rfl⟩
      rw [He.out] at hat hdv hPB hEB htk HAP HST
      have HTK := Lib.hid htk
      have HPB := Lib.hid hPB
      obtain ⟨c0, c1, c2, c3, c4, c5, c6, c7, c8, c9⟩ := hat
      have i1 : (0 : Int) ≤ (k : Int) := by omega
      have i2 : (k : Int) < (l.length : Int) := by omega
      obtain ⟨lp, _, _, _⟩ := hEB
      clear HE hc htk hPB
      go_upto_region 7 with fail
      have bE := Blk.new wr tE #[.string (bs e.path), .int .i64 e.kind, .int .i64 e.mode, .int .i64 e.uid, .int .i64 e.gid, .string (bs e.owner), .string (bs e.group), .int .i64 e.mtime, .string (bs e.link), .slice Ad e.data.length capd]
      have hq : Below wr.heap.size wr (wr.alloc (.cells #[.string (bs e.path), .int .i64 e.kind, .int .i64 e.mode, .int .i64 e.uid, .int .i64 e.gid, .string (bs e.owner), .string (bs e.group), .int .i64 e.mtime, .string (bs e.link), .slice Ad e.data.length capd] tE)) := (Below.refl _ _).alloc (Nat.le_refl _) _
      have hsl1 := Below.sl good_ent hq hslr
      have hdv1 := Below.sl good_byte hq hdv
      have ck1 := ck.below hq
      have q1 := hbw.trans (hq.mono hbw.size)
      clear hslr hdv ck hq hbw c0 c1 c2 c3 c4 c5 c6 c7 c8 c9
      generalize wr.alloc (.cells #[.string (bs e.path), .int .i64 e.kind, .int .i64 e.mode, .int .i64 e.uid, .int .i64 e.gid, .string (bs e.owner), .string (bs e.group), .int .i64 e.mtime, .string (bs e.link), .slice Ad e.data.length capd] tE) = W1 at bE hsl1 hdv1 ck1 q1 ⊢
      generalize wr.heap.size = g at bE ⊢
      have d0 := bE.cell 0
      have d1 := bE.cell 1
      have d2 := bE.cell 2
      have d3 := bE.cell 3
      have d4 := bE.cell 4
      have d5 := bE.cell 5
      have d6 := bE.cell 6
      have d7 := bE.cell 7
      have d8 := bE.cell 8
      have d9 := bE.cell 9
      simp at d0 d1 d2 d3 d4 d5 d6 d7 d8 d9
      go_wp2_with fail
      refine (HPB.out W1 hsl1 hdv1 ck1).mono ?_
      rintro r W2 ⟨rfl, hb2⟩
      have b2 := bE.below hb2 bE.lt
      have ck2 := ck1.below hb2
      have q2 := q1.trans (hb2.mono q1.size)
      clear bE ck1 q1 hb2 hsl1 hdv1 HPB d0 d1 d2 d3 d4 d5 d6 d7 d8 d9
      have HPS := Lib.hid (fun h : badE (l.take k) e = 0 => path_short h)
      generalize badE (l.take k) e = z at HST HPS ⊢
      by_cases hz : z = 0
      rotate_left
      · have hzb : (z != 0) = true := by simpa using hz
        have HV := Lib.hid (HST.out.trans (if_neg hz))
        clear hz HST HPS
        go_wp2_with fail
        go_ret2
        exact ⟨by rw [HV.out]; rfl, by first | exact q2 | (rw [← hm1]; exact q2)⟩
      have hzb : (z != 0) = false := by simpa using hz
      have HV := Lib.hid (HST.out.trans (if_pos hz))
      obtain ⟨hp200, hno⟩ := HPS.out hz
      have HNO := Lib.hid hno
      clear hz HST HPS hno
      have k1 := ck2.blk.cell 1
      have d0 := b2.cell 0
      simp at k1 d0
      go_upto_region 10 with fail
      refine wp_region_plan (fun W => W.cell? ⟨cp, 1, none⟩ = some (.map (some m1)) ∧ W.cell? ⟨g, 0, none⟩ = some (.string (bs e.path))) [(false, 0), (false, 1), (false, 2), (false, 3), (false, 4), (false, 5), (false, 6), (true, 7)] (by kernel_rfl) (by kernel_rfl) (⟨by simpa using k1, by simpa using d0⟩) ?_
      simp only [planOps, List.map, List.getD_cons_zero, List.getD_cons_succ]
      iterate 7 ((first | refine plan_quiet (v := ?_) rfl rfl (fun w' hw' => ?_) ?_ | refine plan_calm (v := ?_) (tt_of) rfl (fun w' hw' => ?_) ?_); rotate_left; (focus (go_simp <;> (first | with_reducible rfl | (rw [if_neg (by simp [undef])]; try rfl) | omega))); simp only [Act.put, List.setIfInBounds_toArray, List.set_cons_zero, List.set_cons_succ])
      refine plan_loud rfl (fun K hK => ?_)
      have b0 : Below W2.heap.size W2 W2.drew := (Below.refl _ W2).drew
      have b3 := (Kept.of_below b0 nowhere).blk b2 (fun h => h)
      have ck3 := ck2.below b0
      have q3 := q2.drew
      clear b0 b2 ck2 q2 k1 d0
      generalize W2.drew = W3 at b3 ck3 q3 ⊢
      refine wp_nput _ _ _ _ rfl m1 n1 f1 rfl ck3.at_ (by omega) e.path rfl (by omega) k rfl (wf_nat (by omega)) ?_
      intro w4 hM4 hk4
      have b4 := hk4.blk b3 (fun h => b3.apartM ck3.at_ h)
      have ck4 : CK w4 cp m1 m2 (n1 + 1) n2 (.slice (some ⟨b, off, none⟩) l.length cap) (putM f1 e.path k) f2 := ⟨hk4.blk ck3.blk (fun h => ck3.blk.apartM ck3.at_ h), hM4, ck3.ab.keep hk4 (fun h => g12 h.symm)⟩
      have q4 := q3.trans (hk4.below q3.size (fun k _ h => by rw [h]; exact g1))
      clear b3 ck3 q3 hM4 hk4
      have k1 := ck4.blk.cell 1
      have d0 := b4.cell 0
      simp at k1 d0
      refine hK _ _ (⟨k1, d0⟩) ?_
      clear hK K
      (try simp only [Act.put, List.setIfInBounds_toArray, List.set_cons_zero, List.set_cons_succ])
      refine plan_end ?_
      have HA4 : Hid (AtM (putM f1 e.path k) l (k + 1)) := Lib.hid (HAP.out HNO.out)
      generalize putM f1 e.path k = f1' at ck4 HA4
      clear HAP
      go_wp2_with fail
      refine (parents_any e.path _ lp).mono ?_
      rintro r W5 ⟨⟨v5, rfl, hs5⟩, hb5⟩
      have q5 := q4.trans (hb5.mono q4.size)
      have ck5 := ck4.below hb5
      clear b4 q4 ck4 hb5 k1 d0
      have hul : (upsL e.path).length ≤ 200 := Nat.le_trans (up_len e.path []) hp200
      have HUK := Lib.hid (fun x (hx : x ∈ upsL e.path) => (ups_mem x e.path).1 hx)
      obtain ⟨P, HP⟩ : ∃ P, Hid (upsL e.path = P) := ⟨_, Lib.hid rfl⟩
      rw [HP.out] at hs5 hul
      have HUP : Hid (∀ x ∈ P, x.length ≤ 1000) := Lib.hid fun x hx => by
        obtain ⟨t, ht⟩ := HUK.out x (by rw [HP.out]; exact hx)
        have := congrArg List.length ht
        simp at this
        omega
      have HF : Hid (∀ p, (f2 p).isSome = (((l.take k).any fun x => (upsL x.path).contains p) || (P.take 0).contains p)) := Lib.hid fun p => by rw [HB.out p]; simp
      clear HUK HB
      have hs5 := hs5.text_off ck5.ab
      obtain ⟨A5, cap5, rfl, hd1, hd2⟩ := hs5.form
      unfold maxLen at hd2
      go_wp2_with fail
      go_loopg [43] P.length (fun G s43 wx => ∃ (j n3 : Nat) (f3 : List UInt8 → Option Int), j ≤ P.length ∧ G = P.length - j ∧ s43 = .int .i64 j ∧ n3 ≤ n2 + j ∧ Below w.heap.size w wx ∧ CK wx cp m1 m2 (n1 + 1) n3 (.slice (some ⟨b, off, none⟩) l.length cap) f1' f3 ∧ Sl 1 Rtext (fun b => b = m2) wx (.slice A5 P.length cap5) P ∧ Hid (∀ p, (f3 p).isSome = (((l.take k).any fun x => (upsL x.path).contains p) || (P.take j).contains p)))
      case atStart => exact ⟨0, n2, f2, Nat.zero_le _, rfl, rfl, Nat.le_refl _, q5, ck5, hs5, HF⟩
      case round =>
        clear HF q5 ck5 hs5
        obtain ⟨j, n3, f3, hj, rfl, rfl, hn3, q5, ck5, hs5, HF⟩ := hrel
        by_cases hjl : j < P.length
        · obtain ⟨_, _, _, bp, offp, rfl, hc⟩ := hs5.text (by omega)
          have ckp := hc j hjl
          have hpl := HUP.out _ (List.getElem_mem hjl)
          have HFS : Hid (∀ p, (((l.take k).any fun x => (upsL x.path).contains p) || (P.take (j + 1)).contains p) = ((((l.take k).any fun x => (upsL x.path).contains p) || (P.take j).contains p) || decide (p = P[j]))) := Lib.hid fun p => by
            rw [List.take_succ_eq_append_getElem hjl, Bool.or_assoc]
            congr 1
            rw [Bool.eq_iff_iff, List.contains_iff_mem, List.mem_append, List.mem_singleton, Bool.or_eq_true, List.contains_iff_mem, decide_eq_true_iff]
          clear hc
          generalize P[j] = p at ckp hpl HFS
          have k2 := ck5.blk.cell 2
          simp at k2
          have j1 : (0 : Int) ≤ (j : Int) := by omega
          have j2 : (j : Int) < (P.length : Int) := by omega
          have hwf : (Lit.int .i64 (k : Int)).wf = true := wf_nat (by omega)
          have hma := ck5.ab
          go_wp2_with (at_mapUpdate; refine wpList_nput _ rfl _ _ _ rfl m2 n3 f3 rfl hma (by omega) p rfl (by omega) k rfl hwf ?_; intro w6 hM6 hk6)
          have ck6 : CK w6 cp m1 m2 (n1 + 1) (n3 + 1) (.slice (some ⟨b, off, none⟩) l.length cap) f1' (putM f3 p k) := ⟨hk6.blk ck5.blk (fun h => ck5.blk.apartM ck5.ab h), ck5.at_.keep hk6 g12, hM6⟩
          have q6 := q5.trans (hk6.below q5.size (fun k _ h => by rw [h]; exact g2))
          have hs6 := hs5.keep good_text hk6
          have HF6 : Hid (∀ y, (putM f3 p k y).isSome = (((l.take k).any fun x => (upsL x.path).contains y) || (P.take (j + 1)).contains y)) := Lib.hid fun y => by
            rw [HFS.out y, ← HF.out y, putM]
            by_cases h : y = p
            · simp [h]
            · simp [h]
          generalize putM f3 p k = f4 at ck6 HF6
          clear hM6 hk6 ck5 q5 hs5 HF HFS hma k2 ckp
          go_wp2_with fail
          go_roundg (P.length - (j + 1))
          case measure => omega
          case rel => exact ⟨j + 1, n3 + 1, f4, by omega, rfl, by simp, by omega, q6, ck6, hs6, HF6⟩
        · have hje : j = P.length := by omega
          subst hje
          have HB6 : Hid (AbM f3 (l.take (k + 1))) := Lib.hid (by rw [HTK.out]; exact AbM.step fun p => by rw [HF.out p, HP.out, List.take_length])
          have HU6 : Hid (Uniq (l.take (k + 1))) := Lib.hid (by rw [HTK.out]; exact HU.out.snoc HNO.out)
          clear HF hs5
          go_wp2_with fail
          go_roundg (l.length - (k + 1))
          case measure => omega
          case rel => exact ⟨k + 1, n1 + 1, n3, f1', f3, by omega, rfl, by simp, by omega, by omega, q5, ck5, HA4, HB6, HU6, HV⟩
end Go.Proofs.YtpheifdpjcppdaaGreatDoor

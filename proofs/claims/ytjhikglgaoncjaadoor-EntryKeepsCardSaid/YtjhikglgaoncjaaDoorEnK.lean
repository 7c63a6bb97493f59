/- The walk of the program's check of an entry behind others. Printed by gen_enck2.py. -/
import Derived.Test.YtjhikglgaoncjaaDoorEnJ
namespace Go.Proofs.YtjhikglgaoncjaaDoor
open Go.RowKit Go.WideMaps Go.Maps
/-- Does a path that stands above bear what is no directory? -/
def upBad (a : List En) (p : List UInt8) : Bool := match findE a p with | some x => !decide (x.kind = 2) | none => false
theorem nest_up {a : List En} (h : Uniq a) (e : En) : nestE a e = ((upsL e.path).any (upBad a) || ((a.any fun x => (upsL x.path).contains e.path) && !decide (e.kind = 2))) := nest_maps h e
theorem common_ifs (e x : En) (W : World) : (if e.mode = x.mode then if e.uid = x.uid then if e.gid = x.gid then if (bs e.owner).toList = (bs x.owner).toList then if (bs e.group).toList = (bs x.group).toList then if e.mtime = x.mtime then Result.ok (Next.value (Value.bool false)) W else Result.ok (Next.value (Value.bool true)) W else Result.ok (Next.value (Value.bool true)) W else Result.ok (Next.value (Value.bool true)) W else Result.ok (Next.value (Value.bool true)) W else Result.ok (Next.value (Value.bool true)) W else Result.ok (Next.value (Value.bool true)) W) = Result.ok (Next.value (Value.bool (!alikeE e x))) W := by
  simp only [toList_bs, alikeE]
  by_cases h1 : e.mode = x.mode <;> by_cases h2 : e.uid = x.uid <;> by_cases h3 : e.gid = x.gid <;> by_cases h4 : e.owner = x.owner <;> by_cases h5 : e.group = x.group <;> by_cases h6 : e.mtime = x.mtime <;> simp [h1, h2, h3, h4, h5, h6]
set_option maxRecDepth 20000 in
set_option maxHeartbeats 16000000 in
theorem pbad_any (l : List En) (dv : Value) (X : Nat → Prop) (w : World) (i : Nat) (hi : i < l.length) (A : Option Addr) (cap cp m1 m2 n1 n2 : Nat) (f1 f2 : List UInt8 → Option Int)
    (hsl : Sl 10 Rent X w (.slice A l.length cap) l) (hdv : Sl 1 Rbyte X w dv l[i].data) (hCK : CK w cp m1 m2 n1 n2 (.slice A l.length cap) f1 f2) (hAt : AtM f1 l i) (hAb : AbM f2 (l.take i)) (hU : Uniq (l.take i)) (hL : LB l) :
    Calls Tryd.prog 25 #[.pointer (some ⟨cp, 0, none⟩), entV l[i] dv] w fun e w' => e = .returned (.int .i64 (badE (l.take i) l[i])) ∧ Below w.heap.size w w' := by
  obtain ⟨_, _, hv, hc1, hc2⟩ := hsl.form
  injection hv with hv1 hv2 hv3
  subst hv1 hv3
  unfold maxLen at hc2
  obtain ⟨hL1, hL2⟩ := hL
  have HLB := Lib.hid hL2
  clear hL2 hv2
  obtain ⟨b, off, rfl, _, _⟩ := hsl.ent (by omega)
  obtain ⟨Ad, capd, rfl, _, _⟩ := hdv.form
  have hEB := HLB.out _ (List.getElem_mem hi)
  obtain ⟨e, He⟩ : ∃ e, Hid (l[i] = e) := ⟨_, Lib.hid rfl⟩
  rw [He.out] at hdv hEB ⊢
  have HX : Hid (badE (l.take i) e = if chkE e = 0 then (if hasE (l.take i) e.path = true then 8 else if e.kind = 4 ∧ linkE (l.take i) e ≠ 0 then linkE (l.take i) e else if ((upsL e.path).any (upBad (l.take i)) || (((l.take i).any fun x => (upsL x.path).contains e.path) && !decide (e.kind = 2))) = true then 9 else 0) else chkE e) := Lib.hid (by rw [← nest_up hU]; rfl)
  generalize badE (l.take i) e = res at HX
  clear hU
  have HAt := Lib.hid hAt
  have HAb := Lib.hid (hAb e.path)
  clear hAt hAb
  obtain ⟨lp, _, _, ll⟩ := id hEB
  simp only [entV]
  go_enter Tryd.func25, Tryd.ntmps25
  go_upto_region 1 with fail
  have bE := Blk.new w tE #[.string (bs e.path), .int .i64 e.kind, .int .i64 e.mode, .int .i64 e.uid, .int .i64 e.gid, .string (bs e.owner), .string (bs e.group), .int .i64 e.mtime, .string (bs e.link), .slice Ad e.data.length capd]
  have hq := (Below.refl w.heap.size w).alloc (Nat.le_refl _) (.cells #[.string (bs e.path), .int .i64 e.kind, .int .i64 e.mode, .int .i64 e.uid, .int .i64 e.gid, .string (bs e.owner), .string (bs e.group), .int .i64 e.mtime, .string (bs e.link), .slice Ad e.data.length capd] tE)
  have hsl1 := Below.sl good_ent hq hsl
  have hdv1 := Below.sl good_byte hq hdv
  have ck1 := hCK.below hq
  clear hsl hdv hCK
  generalize w.alloc (.cells #[.string (bs e.path), .int .i64 e.kind, .int .i64 e.mode, .int .i64 e.uid, .int .i64 e.gid, .string (bs e.owner), .string (bs e.group), .int .i64 e.mtime, .string (bs e.link), .slice Ad e.data.length capd] tE) = W1 at bE hq hsl1 hdv1 ck1 ⊢
  generalize hg : w.heap.size = g at bE ⊢
  have d0 := bE.cell 0
  have d1 := bE.cell 1
  have d2 := bE.cell 2
  have d3 := bE.cell 3
  have d4 := bE.cell 4
  have d5 := bE.cell 5
  have d6 := bE.cell 6
  have d7 := bE.cell 7
  have d8 := bE.cell 8
  have d9 := bE.cell 9
  simp at d0 d1 d2 d3 d4 d5 d6 d7 d8 d9
  go_wp2_with fail
  refine (pechk_any e _ X _ hdv1 hEB).mono ?_
  rintro r W2 ⟨rfl, hb2⟩
  have b2 := bE.below hb2 bE.lt
  have q2 := hq.trans (hb2.mono hq.size)
  have hsl2 := Below.sl good_ent hb2 hsl1
  have ck2 := ck1.below hb2
  clear hq bE hb2 hsl1 hdv1 ck1 d0 d1 d2 d3 d4 d5 d6 d7 d8 d9
  by_cases hz : chkE e = 0
  rotate_left
  · have HV := Lib.hid (show res = chkE e by rw [HX.out, if_neg hz])
    have hzb : (chkE e != 0) = true := by simpa using hz
    clear HX
    generalize chkE e = ce at HV hzb ⊢
    go_wp2_with fail
    go_ret
    exact ⟨by rw [HV.out]; rfl, by first | exact q2 | (rw [← hg]; exact q2)⟩
  have HX := Lib.hid (HX.out.trans (if_pos hz))
  rw [hz]
  clear hz
  obtain ⟨x1, D1, o1, _, lk1⟩ := nlook_all ck2.at_ e.path lp
  have hkn : (f1 e.path).isSome = hasE (l.take i) e.path := AtM.known HAt.out e.path
  rw [hkn] at lk1
  clear hkn
  have k0 := ck2.blk.cell 0
  have k1 := ck2.blk.cell 1
  have k2 := ck2.blk.cell 2
  have d0 := b2.cell 0
  have d1 := b2.cell 1
  have d8 := b2.cell 8
  simp at k0 k1 k2 d0 d1 d8
  have r1 := lk1 W2.drew o1.drew
  clear lk1 o1
  cases hh : hasE (l.take i) e.path with
  | true =>
    rw [hh] at r1
    have HV := Lib.hid (show res = 8 by rw [HX.out, if_pos hh])
    clear hh HX
    go_upto_region 4 with fail
    refine wp_region_plan (fun W => W.cell? ⟨cp, 1, none⟩ = some (.map (some m1)) ∧ W.cell? ⟨g, 0, none⟩ = some (.string (bs e.path)) ∧ (Instr.lookup 46 (.map (some m1)) (.string (bs e.path)) true).run Tryd.prog W = .ok (.tuple #[.int .i64 x1, .bool true]) W) [(false, 0), (false, 1), (false, 2), (false, 3), (false, 4), (false, 5), (false, 6), (false, 7), (false, 8), (false, 9), (false, 10), (false, 11)] (by kernel_rfl) (by kernel_rfl) (⟨by simpa using k1, by simpa using d0, r1⟩) ?_
    simp only [planOps, List.map, List.getD_cons_zero, List.getD_cons_succ]
    iterate 12 ((first | refine plan_quiet (v := ?_) rfl rfl (fun w' hw' => ?_) ?_ | refine plan_calm (v := ?_) (tt_of) rfl (fun w' hw' => ?_) ?_); rotate_left; (focus (go_simp <;> (first | with_reducible rfl | (rw [if_neg (by simp [undef])]; try rfl)))); simp only [Act.put, List.setIfInBounds_toArray, List.set_cons_zero, List.set_cons_succ])
    refine plan_end ?_
    go_wp2_with fail
    go_ret
    exact ⟨by rw [HV.out]; rfl, by first | exact q2.drew | (rw [← hg]; exact q2.drew)⟩
  | false =>
    rw [hh] at r1
    have HX := Lib.hid (HX.out.trans (if_neg (by rw [hh]; simp)))
    clear hh
    go_upto_region 4 with fail
    refine wp_region_plan (fun W => W.cell? ⟨cp, 1, none⟩ = some (.map (some m1)) ∧ W.cell? ⟨g, 0, none⟩ = some (.string (bs e.path)) ∧ (Instr.lookup 46 (.map (some m1)) (.string (bs e.path)) true).run Tryd.prog W = .ok (.tuple #[.int .i64 x1, .bool false]) W) [(false, 0), (false, 1), (false, 2), (false, 3), (false, 4), (false, 5), (false, 6), (false, 7), (false, 8), (false, 9), (false, 10), (false, 11)] (by kernel_rfl) (by kernel_rfl) (⟨by simpa using k1, by simpa using d0, r1⟩) ?_
    simp only [planOps, List.map, List.getD_cons_zero, List.getD_cons_succ]
    iterate 12 ((first | refine plan_quiet (v := ?_) rfl rfl (fun w' hw' => ?_) ?_ | refine plan_calm (v := ?_) (tt_of) rfl (fun w' hw' => ?_) ?_); rotate_left; (focus (go_simp <;> (first | with_reducible rfl | (rw [if_neg (by simp [undef])]; try rfl)))); simp only [Act.put, List.setIfInBounds_toArray, List.set_cons_zero, List.set_cons_succ])
    refine plan_end ?_
    have b3 := (Kept.of_below ((Below.refl _ W2).drew) nowhere).blk b2 (fun h => h)
    have q3 := q2.drew
    have hsl3 := hsl2.keep good_ent ((Kept.refl X W2).drew)
    have ck3 := ck2.below ((Below.refl _ W2).drew)
    clear b2 q2 hsl2 ck2 k0 k1 k2 d0 d1 d8 r1
    generalize W2.drew = W3 at b3 q3 hsl3 ck3 ⊢
    have d1 := b3.cell 1
    simp at d1
    go_upto_if 34 with fail
    go_cut [] (fun wx => Below w.heap.size w wx ∧ Below W3.heap.size W3 wx ∧ Hid (res = if ((upsL e.path).any (upBad (l.take i)) || (((l.take i).any fun x => (upsL x.path).contains e.path) && !decide (e.kind = 2))) = true then 9 else 0))
    case first => as_aux_lemma =>
      by_cases h4 : e.kind = 4
      rotate_left
      · have e4 : (e.kind == 4) = false := by simpa using h4
        have HV := Lib.hid (HX.out.trans (if_neg (fun h => h4 h.1)))
        clear HX h4
        go_wp2_with fail
        go_meet
        exact ⟨by first | exact q3 | (rw [← hg]; exact q3), Below.refl _ _, HV⟩
      have e4 : (e.kind == 4) = true := by simpa using h4
      have HX := Lib.hid (show res = if linkE (l.take i) e ≠ 0 then linkE (l.take i) e else if ((upsL e.path).any (upBad (l.take i)) || (((l.take i).any fun x => (upsL x.path).contains e.path) && !decide (e.kind = 2))) = true then 9 else 0 by rw [HX.out]; simp [h4])
      have HLK : Hid (linkE (l.take i) e = match findE (l.take i) e.link with | none => 15 | some x => if x.kind = 1 then (if alikeE e x = true then 0 else 1) else 15) := Lib.hid rfl
      clear h4
      generalize linkE (l.take i) e = lk at HX HLK
      obtain ⟨x2, D2, o2, v2, lk2⟩ := nlook_all ck3.at_ e.link ll
      have r2 := lk2 W3.drew o2.drew
      have k1 := ck3.blk.cell 1
      have d8 := b3.cell 8
      simp at k1 d8
      have hb4 : Below W3.heap.size W3 W3.drew := (Below.refl _ _).drew
      have b4 := (Kept.of_below hb4 nowhere).blk b3 (fun h => h)
      have q4 := q3.trans (hb4.mono q3.size)
      have hsl4 := hsl3.keep good_ent ((Kept.refl X W3).drew)
      have ck4 := ck3.below hb4
      clear lk2 o2
      rcases HAt.out e.link with ⟨z1, z2⟩ | ⟨j, hj, hji, z1, z2, z3, z4⟩
      · have hfn := find_none_of _ _ z2
        have HV := Lib.hid (show res = 15 by rw [HX.out, HLK.out, hfn]; simp)
        rw [z1] at r2
        simp only [Option.isSome_none] at r2
        clear HX HLK z1 z2 hfn v2
        go_upto_region 8 with fail
        refine wp_region_plan (fun W => W.cell? ⟨cp, 1, none⟩ = some (.map (some m1)) ∧ W.cell? ⟨g, 8, none⟩ = some (.string (bs e.link)) ∧ (Instr.lookup 46 (.map (some m1)) (.string (bs e.link)) true).run Tryd.prog W = .ok (.tuple #[.int .i64 x2, .bool false]) W) [(false, 0), (false, 1), (false, 2), (false, 3), (false, 4), (false, 5), (false, 6), (false, 7), (false, 8), (false, 9), (false, 10), (false, 11)] (by kernel_rfl) (by kernel_rfl) (⟨by simpa using k1, by simpa using d8, r2⟩) ?_
        simp only [planOps, List.map, List.getD_cons_zero, List.getD_cons_succ]
        iterate 12 ((first | refine plan_quiet (v := ?_) rfl rfl (fun w' hw' => ?_) ?_ | refine plan_calm (v := ?_) (tt_of) rfl (fun w' hw' => ?_) ?_); rotate_left; (focus (go_simp <;> (first | with_reducible rfl | (rw [if_neg (by simp [undef])]; try rfl)))); simp only [Act.put, List.setIfInBounds_toArray, List.set_cons_zero, List.set_cons_succ])
        refine plan_end ?_
        go_wp2_with fail
        go_ret
        exact ⟨by rw [HV.out]; rfl, by first | exact q4 | (rw [← hg]; exact q4)⟩
      · have hx2 := v2 _ z1
        subst hx2
        rw [z1] at r2
        simp only [Option.isSome_some] at r2
        have HLK := Lib.hid (show lk = if l[j].kind = 1 then (if alikeE e l[j] = true then 0 else 1) else 15 by rw [HLK.out, z3])
        clear z1 z2 z3 z4 v2
        go_upto_region 8 with fail
        refine wp_region_plan (fun W => W.cell? ⟨cp, 1, none⟩ = some (.map (some m1)) ∧ W.cell? ⟨g, 8, none⟩ = some (.string (bs e.link)) ∧ (Instr.lookup 46 (.map (some m1)) (.string (bs e.link)) true).run Tryd.prog W = .ok (.tuple #[.int .i64 j, .bool true]) W) [(false, 0), (false, 1), (false, 2), (false, 3), (false, 4), (false, 5), (false, 6), (false, 7), (false, 8), (false, 9), (false, 10), (false, 11)] (by kernel_rfl) (by kernel_rfl) (⟨by simpa using k1, by simpa using d8, r2⟩) ?_
        simp only [planOps, List.map, List.getD_cons_zero, List.getD_cons_succ]
        iterate 12 ((first | refine plan_quiet (v := ?_) rfl rfl (fun w' hw' => ?_) ?_ | refine plan_calm (v := ?_) (tt_of) rfl (fun w' hw' => ?_) ?_); rotate_left; (focus (go_simp <;> (first | with_reducible rfl | (rw [if_neg (by simp [undef])]; try rfl)))); simp only [Act.put, List.setIfInBounds_toArray, List.set_cons_zero, List.set_cons_succ])
        refine plan_end ?_
        clear r2 k1 d8 b3 hsl3 ck3
        generalize W3.drew = W4 at hb4 b4 q4 hsl4 ck4 ⊢
        have k0 := ck4.blk.cell 0
        simp at k0
        obtain ⟨b', off', hbo, _, hcj⟩ := hsl4.ent (by omega)
        injection hbo with hbo
        injection hbo with hbo1 hbo2
        subst hbo1 hbo2
        obtain ⟨dx, hatx, hdx⟩ := hcj j hj
        obtain ⟨Ax, capx, rfl, _, _⟩ := hdx.form
        clear hcj
        generalize l[j] = x at hatx hdx HLK
        obtain ⟨c0, c1, c2, c3, c4, c5, c6, c7, c8, c9⟩ := hatx
        have j1 : (0 : Int) ≤ (j : Int) := by omega
        have j2 : (j : Int) < (l.length : Int) := by omega
        by_cases hx1 : x.kind = 1
        rotate_left
        · have e1 : (x.kind == 1) = false := by simpa using hx1
          have e1' : (x.kind != 1) = true := by simpa using hx1
          have HV := Lib.hid (show res = 15 by rw [HX.out, HLK.out, if_neg hx1]; simp)
          clear HX HLK hx1
          go_wp2_with fail
          go_ret
          exact ⟨by rw [HV.out]; rfl, by first | exact q4 | (rw [← hg]; exact q4)⟩
        have e1 : (x.kind == 1) = true := by simpa using hx1
        have e1' : (x.kind != 1) = false := by simpa using hx1
        have HLK := Lib.hid (HLK.out.trans (if_pos hx1))
        clear hx1
        have d0 := b4.cell 0
        have d1 := b4.cell 1
        have d2 := b4.cell 2
        have d3 := b4.cell 3
        have d4 := b4.cell 4
        have d5 := b4.cell 5
        have d6 := b4.cell 6
        have d7 := b4.cell 7
        have d8 := b4.cell 8
        have d9 := b4.cell 9
        simp at d0 d1 d2 d3 d4 d5 d6 d7 d8 d9
        go_upto_region 11 with fail
        refine wp_region_plan (fun W => (W.cell? ⟨b, off + j * 10, none⟩ = some (.string (bs x.path)) ∧ W.cell? ⟨b, off + j * 10 + 1, none⟩ = some (.int .i64 x.kind) ∧ W.cell? ⟨b, off + j * 10 + 2, none⟩ = some (.int .i64 x.mode) ∧ W.cell? ⟨b, off + j * 10 + 3, none⟩ = some (.int .i64 x.uid) ∧ W.cell? ⟨b, off + j * 10 + 4, none⟩ = some (.int .i64 x.gid) ∧ W.cell? ⟨b, off + j * 10 + 5, none⟩ = some (.string (bs x.owner)) ∧ W.cell? ⟨b, off + j * 10 + 6, none⟩ = some (.string (bs x.group)) ∧ W.cell? ⟨b, off + j * 10 + 7, none⟩ = some (.int .i64 x.mtime) ∧ W.cell? ⟨b, off + j * 10 + 8, none⟩ = some (.string (bs x.link)) ∧ W.cell? ⟨b, off + j * 10 + 9, none⟩ = some (.slice Ax x.data.length capx)) ∧ (W.cell? ⟨g, 0, none⟩ = some (.string (bs e.path)) ∧ W.cell? ⟨g, 1, none⟩ = some (.int .i64 e.kind) ∧ W.cell? ⟨g, 2, none⟩ = some (.int .i64 e.mode) ∧ W.cell? ⟨g, 3, none⟩ = some (.int .i64 e.uid) ∧ W.cell? ⟨g, 4, none⟩ = some (.int .i64 e.gid) ∧ W.cell? ⟨g, 5, none⟩ = some (.string (bs e.owner)) ∧ W.cell? ⟨g, 6, none⟩ = some (.string (bs e.group)) ∧ W.cell? ⟨g, 7, none⟩ = some (.int .i64 e.mtime) ∧ W.cell? ⟨g, 8, none⟩ = some (.string (bs e.link)) ∧ W.cell? ⟨g, 9, none⟩ = some (.slice Ad e.data.length capd)) ∧ W.cell? ⟨cp, 0, none⟩ = some (.slice (some ⟨b, off, none⟩) l.length cap)) [(false, 0), (false, 2), (false, 3), (false, 4), (false, 5), (false, 6), (false, 7), (false, 8), (true, 1), (true, 9), (false, 10)] (by kernel_rfl) (by kernel_rfl) (⟨⟨by simpa using c0, by simpa using c1, by simpa using c2, by simpa using c3, by simpa using c4, by simpa using c5, by simpa using c6, by simpa using c7, by simpa using c8, by simpa using c9⟩, ⟨by simpa using d0, by simpa using d1, by simpa using d2, by simpa using d3, by simpa using d4, by simpa using d5, by simpa using d6, by simpa using d7, by simpa using d8, by simpa using d9⟩, by simpa using k0⟩) ?_
        simp only [planOps, List.map, List.getD_cons_zero, List.getD_cons_succ]
        iterate 8 ((first | refine plan_quiet (v := ?_) rfl rfl (fun w' hw' => ?_) ?_ | refine plan_calm (v := ?_) (tt_of) rfl (fun w' hw' => ?_) ?_); rotate_left; (focus (go_simp <;> (first | with_reducible rfl | (rw [if_neg (by simp [undef])]; try rfl)))); simp only [Act.put, List.setIfInBounds_toArray, List.set_cons_zero, List.set_cons_succ])
        refine plan_loud rfl (fun K hK => ?_)
        go_simp
        refine (common_any e _ _ _ _ _ rfl).mono ?_
        rintro r W5 ⟨rfl, hb5⟩
        have hb5' : Below W4.heap.size W4 W5 := ((Below.refl _ W4).drew).trans hb5
        have kx := Kept.of_below hb5' nowhere
        refine hK _ _ (⟨⟨kx.cell c0 (fun h => h), kx.cell c1 (fun h => h), kx.cell c2 (fun h => h), kx.cell c3 (fun h => h), kx.cell c4 (fun h => h), kx.cell c5 (fun h => h), kx.cell c6 (fun h => h), kx.cell c7 (fun h => h), kx.cell c8 (fun h => h), kx.cell c9 (fun h => h)⟩, ⟨kx.cell d0 (fun h => h), kx.cell d1 (fun h => h), kx.cell d2 (fun h => h), kx.cell d3 (fun h => h), kx.cell d4 (fun h => h), kx.cell d5 (fun h => h), kx.cell d6 (fun h => h), kx.cell d7 (fun h => h), kx.cell d8 (fun h => h), kx.cell d9 (fun h => h)⟩, kx.cell k0 (fun h => h)⟩) ?_
        clear hK K
        (try simp only [Act.put, List.setIfInBounds_toArray, List.set_cons_zero, List.set_cons_succ])
        refine plan_loud rfl (fun K hK => ?_)
        have b5 := kx.blk b4 (fun h => h)
        have q5 := q4.trans (hb5'.mono q4.size)
        have hb6 := hb4.trans (hb5'.mono hb4.size)
        have hsl5 := Below.sl good_ent hb5' hsl4
        have ck5 := ck4.below hb5'
        have c0 := kx.cell c0 (fun h => h)
        have d0 := kx.cell d0 (fun h => h)
        have c1 := kx.cell c1 (fun h => h)
        have d1 := kx.cell d1 (fun h => h)
        have c2 := kx.cell c2 (fun h => h)
        have d2 := kx.cell d2 (fun h => h)
        have c3 := kx.cell c3 (fun h => h)
        have d3 := kx.cell d3 (fun h => h)
        have c4 := kx.cell c4 (fun h => h)
        have d4 := kx.cell d4 (fun h => h)
        have c5 := kx.cell c5 (fun h => h)
        have d5 := kx.cell d5 (fun h => h)
        have c6 := kx.cell c6 (fun h => h)
        have d6 := kx.cell d6 (fun h => h)
        have c7 := kx.cell c7 (fun h => h)
        have d7 := kx.cell d7 (fun h => h)
        have c8 := kx.cell c8 (fun h => h)
        have d8 := kx.cell d8 (fun h => h)
        have c9 := kx.cell c9 (fun h => h)
        have d9 := kx.cell d9 (fun h => h)
        have k0 := kx.cell k0 (fun h => h)
        clear kx hb5 hb5' b4 q4 hb4 hsl4 ck4
        go_simp
        refine (common_any x _ _ _ _ _ rfl).mono ?_
        rintro r W6 ⟨rfl, hb7⟩
        have kx := Kept.of_below hb7 nowhere
        obtain ⟨al, HAL⟩ : ∃ al, Hid (alikeE e x = al) := ⟨_, Lib.hid rfl⟩
        have hcm : ∀ W : World, (if e.mode = x.mode then if e.uid = x.uid then if e.gid = x.gid then if (bs e.owner).toList = (bs x.owner).toList then if (bs e.group).toList = (bs x.group).toList then if e.mtime = x.mtime then Result.ok (Next.value (Value.bool false)) W else Result.ok (Next.value (Value.bool true)) W else Result.ok (Next.value (Value.bool true)) W else Result.ok (Next.value (Value.bool true)) W else Result.ok (Next.value (Value.bool true)) W else Result.ok (Next.value (Value.bool true)) W else Result.ok (Next.value (Value.bool true)) W) = Result.ok (Next.value (Value.bool (!al))) W := fun W => by rw [common_ifs, HAL.out]
        refine hK _ _ (⟨⟨kx.cell c0 (fun h => h), kx.cell c1 (fun h => h), kx.cell c2 (fun h => h), kx.cell c3 (fun h => h), kx.cell c4 (fun h => h), kx.cell c5 (fun h => h), kx.cell c6 (fun h => h), kx.cell c7 (fun h => h), kx.cell c8 (fun h => h), kx.cell c9 (fun h => h)⟩, ⟨kx.cell d0 (fun h => h), kx.cell d1 (fun h => h), kx.cell d2 (fun h => h), kx.cell d3 (fun h => h), kx.cell d4 (fun h => h), kx.cell d5 (fun h => h), kx.cell d6 (fun h => h), kx.cell d7 (fun h => h), kx.cell d8 (fun h => h), kx.cell d9 (fun h => h)⟩, kx.cell k0 (fun h => h)⟩) ?_
        clear hK K
        (try simp only [Act.put, List.setIfInBounds_toArray, List.set_cons_zero, List.set_cons_succ])
        iterate 1 ((first | refine plan_quiet (v := ?_) rfl rfl (fun w' hw' => ?_) ?_ | refine plan_calm (v := ?_) (tt_of) rfl (fun w' hw' => ?_) ?_); rotate_left; (focus (go_simp <;> (first | with_reducible rfl | (rw [if_neg (by simp [undef])]; try rfl)))); simp only [Act.put, List.setIfInBounds_toArray, List.set_cons_zero, List.set_cons_succ])
        refine plan_end ?_
        have q6 := q5.trans (hb7.mono q5.size)
        have hb8 := hb6.trans (hb7.mono hb6.size)
        clear c0 c1 c2 c3 c4 c5 c6 c7 c8 c9 d0 d1 d2 d3 d4 d5 d6 d7 d8 d9 k0 kx
        clear hcm
        have HLK := Lib.hid (show lk = if al = true then 0 else 1 by rw [HLK.out, HAL.out])
        cases al with
        | true =>
          have HV := Lib.hid (show res = if ((upsL e.path).any (upBad (l.take i)) || (((l.take i).any fun x => (upsL x.path).contains e.path) && !decide (e.kind = 2))) = true then 9 else 0 by rw [HX.out, HLK.out]; simp)
          clear HX HLK HAL
          go_wp2_with fail
          go_meet
          exact ⟨by first | exact q6 | (rw [← hg]; exact q6), hb8, HV⟩
        | false =>
          have HV := Lib.hid (show res = 1 by rw [HX.out, HLK.out]; simp)
          clear HX HLK HAL
          go_wp2_with fail
          go_ret
          exact ⟨by rw [HV.out]; rfl, by first | exact q6 | (rw [← hg]; exact q6)⟩
    case rest => as_aux_lemma =>
      obtain ⟨q4, hb4, HN⟩ := hcut
      clear HX d1
      have b4 := b3.below hb4 b3.lt
      have hsl4 := Below.sl good_ent hb4 hsl3
      have ck4 := ck3.below hb4
      clear b3 hsl3 ck3 q3 hb4
      have d0 := b4.cell 0
      simp at d0
      have hul : (upsL e.path).length ≤ e.path.length := up_len e.path []
      obtain ⟨b', off', hbo, _, hcj⟩ := hsl4.ent (by omega)
      injection hbo with hbo
      injection hbo with hbo1 hbo2
      subst hbo1 hbo2
      have HUK := Lib.hid (fun x (hx : x ∈ upsL e.path) => (ups_mem x e.path).1 hx)
      go_wp2_with fail
      refine (parents_any e.path _ lp).mono ?_
      rintro r W5 ⟨⟨v5, rfl, hs5⟩, hb5⟩
      have b5 := b4.below hb5 b4.lt
      have q5 := q4.trans (hb5.mono q4.size)
      have hsl5 := Below.sl good_ent hb5 hsl4
      have ck5 := ck4.below hb5
      clear b4 q4 hsl4 ck4 hb5 d0 hcj
      obtain ⟨P, HP⟩ : ∃ P, Hid (upsL e.path = P) := ⟨_, Lib.hid rfl⟩
      rw [HP.out] at hs5 hul
      have HUP : Hid (∀ x ∈ P, x.length ≤ 1000000000) := Lib.hid fun x hx => by
        obtain ⟨t, ht⟩ := HUK.out x (by rw [HP.out]; exact hx)
        have := congrArg List.length ht
        simp at this
        omega
      have HN := Lib.hid (show res = if ((P.drop 0).any (upBad (l.take i)) || (((l.take i).any fun x => (upsL x.path).contains e.path) && !decide (e.kind = 2))) = true then 9 else 0 by rw [HN.out, HP.out]; rfl)
      clear HUK HP
      obtain ⟨A5, cap5, rfl, hd1, hd2⟩ := hs5.form
      unfold maxLen at hd2
      go_wp2_with fail
      go_loopg [73] P.length (fun G s73 wr => ∃ k : Nat, k ≤ P.length ∧ G = P.length - k ∧ s73 = .int .i64 k ∧ W5 = wr ∧ Hid (res = if ((P.drop k).any (upBad (l.take i)) || (((l.take i).any fun x => (upsL x.path).contains e.path) && !decide (e.kind = 2))) = true then 9 else 0))
      case atStart => exact ⟨0, Nat.zero_le _, rfl, rfl, rfl, HN⟩
      case round =>
        clear HN
        obtain ⟨k, hk, rfl, rfl, rfl, HE⟩ := hrel
        by_cases hlt : k < P.length
        · obtain ⟨_, _, _, bp, offp, rfl, hc⟩ := hs5.text (by omega)
          have ck := hc k hlt
          have hpl := HUP.out _ (List.getElem_mem hlt)
          have HE := Lib.hid (show res = if ((upBad (l.take i) P[k] || (P.drop (k + 1)).any (upBad (l.take i))) || (((l.take i).any fun x => (upsL x.path).contains e.path) && !decide (e.kind = 2))) = true then 9 else 0 by rw [HE.out, any_drop _ _ k hlt])
          clear hc
          generalize P[k] = p at ck hpl HE
          have k0 := ck5.blk.cell 0
          have k1 := ck5.blk.cell 1
          simp at k0 k1
          have i1 : (0 : Int) ≤ (k : Int) := by omega
          have i2 : (k : Int) < (P.length : Int) := by omega
          have hm := ck5.at_
          rcases HAt.out p with ⟨z1, z2⟩ | ⟨j, hj, hji, z1, z2, z3, z4⟩
          · have hub : upBad (l.take i) p = false := by rw [upBad, find_none_of _ _ z2]
            have HV := Lib.hid (show res = if ((P.drop (k + 1)).any (upBad (l.take i)) || (((l.take i).any fun x => (upsL x.path).contains e.path) && !decide (e.kind = 2))) = true then 9 else 0 by rw [HE.out, hub, Bool.false_or])
            clear HE hub z2
            go_wp2_with (at_lookup; refine wpList_nlook _ rfl _ _ rfl _ _ f1 rfl hm p rfl hpl ?_; rintro vl -; rw [z1])
            go_roundg (P.length - (k + 1))
            case measure => omega
            case rel => exact ⟨k + 1, by omega, rfl, by simp, rfl, HV⟩
          · obtain ⟨b', off', hbo, _, hcj⟩ := hsl5.ent (by omega)
            injection hbo with hbo
            injection hbo with hbo1 hbo2
            subst hbo1 hbo2
            obtain ⟨dx, ⟨_, c1, _, _, _, _, _, _, _, _⟩, _⟩ := hcj j hj
            have hub : upBad (l.take i) p = !decide (l[j].kind = 2) := by rw [upBad, z3]
            have HE := Lib.hid (show res = if ((!decide (l[j].kind = 2) || (P.drop (k + 1)).any (upBad (l.take i))) || (((l.take i).any fun x => (upsL x.path).contains e.path) && !decide (e.kind = 2))) = true then 9 else 0 by rw [HE.out, hub])
            clear hcj hub z2 z3 z4
            generalize l[j].kind = xk at c1 HE
            have j1 : (0 : Int) ≤ (j : Int) := by omega
            have j2 : (j : Int) < (l.length : Int) := by omega
            by_cases hx : xk = 2
            · have g1 : (xk == 2) = true := by simpa using hx
              have g2 : (xk != 2) = false := by simpa using hx
              have HV := Lib.hid (show res = if ((P.drop (k + 1)).any (upBad (l.take i)) || (((l.take i).any fun x => (upsL x.path).contains e.path) && !decide (e.kind = 2))) = true then 9 else 0 by rw [HE.out]; simp [hx])
              clear HE hx
              go_wp2_with (at_lookup; refine wpList_nlook _ rfl _ _ rfl _ _ f1 rfl hm p rfl hpl ?_; intro vl hvl; obtain rfl := hvl _ z1; rw [z1])
              go_roundg (P.length - (k + 1))
              case measure => omega
              case rel => exact ⟨k + 1, by omega, rfl, by simp, rfl, HV⟩
            · have g1 : (xk == 2) = false := by simpa using hx
              have g2 : (xk != 2) = true := by simpa using hx
              have HV := Lib.hid (show res = 9 by rw [HE.out]; simp [hx])
              clear HE hx
              go_wp2_with (at_lookup; refine wpList_nlook _ rfl _ _ rfl _ _ f1 rfl hm p rfl hpl ?_; intro vl hvl; obtain rfl := hvl _ z1; rw [z1])
              go_ret
              exact ⟨by rw [HV.out]; rfl, by first | exact q5 | (rw [← hg]; exact q5)⟩
        · have hke : k = P.length := by omega
          subst hke
          have HE := Lib.hid (show res = if (((l.take i).any fun x => (upsL x.path).contains e.path) && !decide (e.kind = 2)) = true then 9 else 0 by rw [HE.out, List.drop_length]; rfl)
          obtain ⟨x2, D2, o2, _, lk2⟩ := nlook_all ck5.ab e.path lp
          rw [HAb.out] at lk2
          have r2 := lk2 W5.drew o2.drew
          have k2 := ck5.blk.cell 2
          have d0 := b5.cell 0
          have d1 := b5.cell 1
          simp at k2 d0 d1
          clear lk2 o2
          generalize ((l.take i).any fun x => (upsL x.path).contains e.path) = ab at r2 HE
          cases ab with
          | false =>
            have HV := Lib.hid (show res = 0 by rw [HE.out]; simp)
            clear HE
            go_upto_region 20 with fail
            refine wp_region_plan (fun W => W.cell? ⟨cp, 2, none⟩ = some (.map (some m2)) ∧ W.cell? ⟨g, 0, none⟩ = some (.string (bs e.path)) ∧ (Instr.lookup 46 (.map (some m2)) (.string (bs e.path)) true).run Tryd.prog W = .ok (.tuple #[.int .i64 x2, .bool false]) W) [(false, 0), (false, 1), (false, 2), (false, 3), (false, 4), (false, 5), (false, 6), (false, 7), (false, 8), (false, 9), (false, 10), (false, 11)] (by kernel_rfl) (by kernel_rfl) (⟨by simpa using k2, by simpa using d0, r2⟩) ?_
            simp only [planOps, List.map, List.getD_cons_zero, List.getD_cons_succ]
            iterate 12 ((first | refine plan_quiet (v := ?_) rfl rfl (fun w' hw' => ?_) ?_ | refine plan_calm (v := ?_) (tt_of) rfl (fun w' hw' => ?_) ?_); rotate_left; (focus (go_simp <;> (first | with_reducible rfl | (rw [if_neg (by simp [undef])]; try rfl)))); simp only [Act.put, List.setIfInBounds_toArray, List.set_cons_zero, List.set_cons_succ])
            refine plan_end ?_
            go_wp2_with fail
            go_ret
            exact ⟨by rw [HV.out]; rfl, by first | exact q5.drew | (rw [← hg]; exact q5.drew)⟩
          | true =>
            by_cases hek : e.kind = 2
            · have g1 : (e.kind == 2) = true := by simpa using hek
              have g2 : (e.kind != 2) = false := by simpa using hek
              have HV := Lib.hid (show res = 0 by rw [HE.out]; simp [hek])
              clear HE hek
              go_upto_region 20 with fail
              refine wp_region_plan (fun W => W.cell? ⟨cp, 2, none⟩ = some (.map (some m2)) ∧ W.cell? ⟨g, 0, none⟩ = some (.string (bs e.path)) ∧ (Instr.lookup 46 (.map (some m2)) (.string (bs e.path)) true).run Tryd.prog W = .ok (.tuple #[.int .i64 x2, .bool true]) W) [(false, 0), (false, 1), (false, 2), (false, 3), (false, 4), (false, 5), (false, 6), (false, 7), (false, 8), (false, 9), (false, 10), (false, 11)] (by kernel_rfl) (by kernel_rfl) (⟨by simpa using k2, by simpa using d0, r2⟩) ?_
              simp only [planOps, List.map, List.getD_cons_zero, List.getD_cons_succ]
              iterate 12 ((first | refine plan_quiet (v := ?_) rfl rfl (fun w' hw' => ?_) ?_ | refine plan_calm (v := ?_) (tt_of) rfl (fun w' hw' => ?_) ?_); rotate_left; (focus (go_simp <;> (first | with_reducible rfl | (rw [if_neg (by simp [undef])]; try rfl)))); simp only [Act.put, List.setIfInBounds_toArray, List.set_cons_zero, List.set_cons_succ])
              refine plan_end ?_
              go_wp2_with fail
              go_ret
              exact ⟨by rw [HV.out]; rfl, by first | exact q5.drew | (rw [← hg]; exact q5.drew)⟩
            · have g1 : (e.kind == 2) = false := by simpa using hek
              have g2 : (e.kind != 2) = true := by simpa using hek
              have HV := Lib.hid (show res = 9 by rw [HE.out]; simp [hek])
              clear HE hek
              go_upto_region 20 with fail
              refine wp_region_plan (fun W => W.cell? ⟨cp, 2, none⟩ = some (.map (some m2)) ∧ W.cell? ⟨g, 0, none⟩ = some (.string (bs e.path)) ∧ (Instr.lookup 46 (.map (some m2)) (.string (bs e.path)) true).run Tryd.prog W = .ok (.tuple #[.int .i64 x2, .bool true]) W) [(false, 0), (false, 1), (false, 2), (false, 3), (false, 4), (false, 5), (false, 6), (false, 7), (false, 8), (false, 9), (false, 10), (false, 11)] (by kernel_rfl) (by kernel_rfl) (⟨by simpa using k2, by simpa using d0, r2⟩) ?_
              simp only [planOps, List.map, List.getD_cons_zero, List.getD_cons_succ]
              iterate 12 ((first | refine plan_quiet (v := ?_) rfl rfl (fun w' hw' => ?_) ?_ | refine plan_calm (v := ?_) (tt_of) rfl (fun w' hw' => ?_) ?_); rotate_left; (focus (go_simp <;> (first | with_reducible rfl | (rw [if_neg (by simp [undef])]; try rfl)))); simp only [Act.put, List.setIfInBounds_toArray, List.set_cons_zero, List.set_cons_succ])
              refine plan_end ?_
              go_wp2_with fail
              go_ret
              exact ⟨by rw [HV.out]; rfl, by first | exact q5.drew | (rw [← hg]; exact q5.drew)⟩
end Go.Proofs.YtjhikglgaoncjaaDoor

/- The walks of the document's bad and CheckAll on entries. Printed by gen_enbad2.py. -/
import Derived.Test.YtpheifdpjcppdaaGreatDoorEnGH
namespace Go.Proofs.YtpheifdpjcppdaaGreatDoor
open Go.RowKit
theorem alike_comm (a b : En) : alikeE a b = alikeE b a := by
  simp only [alikeE, eq_comm]
theorem fndE_has (l : List En) (p : List UInt8) : decide ((0 : Int) ≤ fndE p l 0) = hasE l p := by
  rw [has_find]
  rcases fndE_get p l 0 with ⟨h1, h2⟩ | ⟨j, _, h1, h2⟩
  · rw [h1, h2]; rfl
  · rw [h1, h2]; simp
theorem Sl.take {α : Type} {sz : Nat} {R : Rel α} {X : Nat → Prop} {w : World} {b off n cap : Nat} {l : List α} (h : Sl sz R X w (.slice (some ⟨b, off, none⟩) n cap) l) (k : Nat) (hk : k ≤ l.length) : Sl sz R X w (.slice (some ⟨b, off, none⟩) k cap) (l.take k) := by
  obtain ⟨A', cap', hv, h1, h2, h3, h4, h5⟩ := h
  injection hv with e1 e2 e3
  subst e1 e2 e3
  have hl : (l.take k).length = k := by rw [List.length_take]; omega
  refine ⟨_, cap, by rw [hl], by rw [hl]; omega, h2, h3, fun hne => ?_, fun b' off' hA i hi => ?_⟩
  · have hl0 : l ≠ [] := fun e => hne (by rw [e]; simp)
    obtain ⟨b', off', hA, hX, hc⟩ := h4 hl0
    refine ⟨b', off', hA, hX, fun j hj => ?_⟩
    rw [hl] at hj
    have := hc j (by omega)
    rwa [List.getElem_take]
  · refine h5 b' off' hA i ?_
    rw [hl] at hi
    exact Nat.lt_of_lt_of_le hi (Nat.mul_le_mul_right _ hk)
/-- The nesting, as the document asks it. -/
def nestR (a : List En) (e : En) : Bool := a.any fun x => (aboveL x.path e.path && !decide (x.kind = 2)) || (aboveL e.path x.path && !decide (e.kind = 2))
theorem nest_is (a : List En) (e : En) : nestR a e = nestE a e := by
  rw [nestR, nestE]
  congr 1
  funext x
  rw [above_is, above_is]
theorem any_drop {α : Type} (p : α → Bool) (l : List α) (k : Nat) (h : k < l.length) : (l.drop k).any p = (p l[k] || (l.drop (k + 1)).any p) := by
  rw [List.drop_eq_getElem_cons h, List.any_cons]
/-- Entries that can be looked at. -/
def LB (l : List En) : Prop := l.length ≤ 1000000 ∧ ∀ e ∈ l, EB e
set_option maxRecDepth 20000 in
set_option maxHeartbeats 16000000 in
theorem rbad_any (l : List En) (v : Value) (X : Nat → Prop) (w : World) (k : Nat) (hk : k < l.length) (hsl : Sl 10 Rent X w v l) (hL : LB l) :
    Calls Tryz.prog 31 #[v, .int .i64 k] w fun e w' => e = .returned (.int .i64 (badE (l.take k) l[k])) ∧ Below w.heap.size w w' := by
  obtain ⟨A, cap, rfl, hc1, hc2⟩ := hsl.form
  unfold maxLen at hc2
  obtain ⟨hL1, hL2⟩ := hL
  have HLB := Lib.hid hL2
  clear hL2
  obtain ⟨b, off, rfl, hXb, hc⟩ := hsl.ent (by omega)
  have HC := Lib.hid hc
  obtain ⟨dv, hat, hdv⟩ := hc k hk
  obtain ⟨Ad, capd, rfl, _, _⟩ := hdv.form
  have hEB := HLB.out _ (List.getElem_mem hk)
  obtain ⟨e, He⟩ : ∃ e, Hid (l[k] = e) := ⟨_, Lib.hid rfl⟩
  rw [He.out] at hat hdv hEB ⊢
  obtain ⟨c0, c1, c2, c3, c4, c5, c6, c7, c8, c9⟩ := hat
  have HX : Hid (badE (l.take k) e = if chkE e = 0 then (if hasE (l.take k) e.path = true then 8 else if e.kind = 4 ∧ linkE (l.take k) e ≠ 0 then linkE (l.take k) e else if nestR (l.take k) e = true then 9 else 0) else chkE e) := Lib.hid (by rw [nest_is]; rfl)
  generalize badE (l.take k) e = res at HX
  obtain ⟨ep, HEP⟩ : ∃ x, Hid (e.path = x) := ⟨_, Lib.hid rfl⟩
  have i1 : (0 : Int) ≤ (k : Int) := by omega
  have i2 : (k : Int) < (l.length : Int) := by omega
  have i3 : (k : Int) ≤ (cap : Int) := by omega
  clear hc
  go_enter Tryz.func31, Tryz.ntmps31
  go_upto_region 2 with fail
  have bE := Blk.new w tE #[.string (bs e.path), .int .i64 e.kind, .int .i64 e.mode, .int .i64 e.uid, .int .i64 e.gid, .string (bs e.owner), .string (bs e.group), .int .i64 e.mtime, .string (bs e.link), .slice Ad e.data.length capd]
  have hq := (Below.refl w.heap.size w).alloc (Nat.le_refl _) (.cells #[.string (bs e.path), .int .i64 e.kind, .int .i64 e.mode, .int .i64 e.uid, .int .i64 e.gid, .string (bs e.owner), .string (bs e.group), .int .i64 e.mtime, .string (bs e.link), .slice Ad e.data.length capd] tE)
  have hsl1 := Below.sl good_ent hq hsl
  have hdv1 := Below.sl good_byte hq hdv
  clear hsl hdv c0 c1 c2 c3 c4 c5 c6 c7 c8 c9
  generalize w.alloc (.cells #[.string (bs e.path), .int .i64 e.kind, .int .i64 e.mode, .int .i64 e.uid, .int .i64 e.gid, .string (bs e.owner), .string (bs e.group), .int .i64 e.mtime, .string (bs e.link), .slice Ad e.data.length capd] tE) = W1 at bE hq hsl1 hdv1 ⊢
  generalize hg : w.heap.size = g at bE ⊢
  have d0 := bE.cell 0
  have d1 := bE.cell 1
  have d2 := bE.cell 2
  have d3 := bE.cell 3
  have d4 := bE.cell 4
  have d5 := bE.cell 5
  have d6 := bE.cell 6
  have d7 := bE.cell 7
  have d8 := bE.cell 8
  have d9 := bE.cell 9
  simp at d0 d1 d2 d3 d4 d5 d6 d7 d8 d9
  go_wp2_with fail
  refine (rechk_any e _ X _ hdv1 hEB).mono ?_
  rintro r W2 ⟨rfl, hb2⟩
  have b2 := bE.below hb2 bE.lt
  have q2 := hq.trans (hb2.mono hq.size)
  have hsl2 := Below.sl good_ent hb2 hsl1
  have hdv2 := Below.sl good_byte hb2 hdv1
  clear hq bE hb2 hsl1 hdv1 d0 d1 d2 d3 d4 d5 d6 d7 d8 d9
  by_cases hz : chkE e = 0
  rotate_left
  · have HV := Lib.hid (show res = chkE e by rw [HX.out, if_neg hz])
    have hzb : (chkE e != 0) = true := by simpa using hz
    clear HX
    generalize chkE e = ce at HV hzb ⊢
    go_wp2_with fail
    go_ret
    exact ⟨by rw [HV.out]; rfl, by first | exact q2 | (rw [← hg]; exact q2)⟩
  have HX := Lib.hid (HX.out.trans (if_pos hz))
  rw [hz]
  clear hz
  have htk := hsl2.take k (by omega)
  have RF : ∀ x : List UInt8, Hid (∀ W, Sl 10 Rent X W (.slice (some ⟨b, off, none⟩) k cap) (l.take k) → Calls Tryz.prog 55 #[.slice (some ⟨b, off, none⟩) k cap, .string (bs x)] W fun e w' => e = .returned (.int .i64 (fndE x (l.take k) 0)) ∧ W = w') := fun x => Lib.hid fun W h => rfind_any _ x _ X W h
  have RP := RF e.path
  have RL := RF e.link
  clear RF
  have hfs := fndE_has (l.take k) e.path
  generalize fndE e.path (l.take k) 0 = z at RP hfs
  have d0 := b2.cell 0
  have d8 := b2.cell 8
  simp at d0 d8
  have hsd := htk.keep good_ent ((Kept.refl X W2).drew)
  cases hh : hasE (l.take k) e.path with
  | true =>
    rw [hh] at hfs
    have HV := Lib.hid (show res = 8 by rw [HX.out, if_pos hh])
    clear hh HX RL
    go_upto_region 5 with fail
    refine wp_region_plan (fun W => W.cell? ⟨g, 0, none⟩ = some (.string (bs e.path)) ∧ Sl 10 Rent X W (.slice (some ⟨b, off, none⟩) k cap) (l.take k)) [(false, 0), (false, 1), (false, 2), (false, 3), (false, 4), (false, 5), (false, 6)] (by kernel_rfl) (by kernel_rfl) (⟨by simpa using d0, hsd⟩) ?_
    simp only [planOps, List.map, List.getD_cons_zero, List.getD_cons_succ]
    iterate 7 ((first | refine plan_quiet (v := ?_) rfl rfl (fun w' hw' => ?_) ?_ | refine plan_calm (v := ?_) (tt_of) rfl (fun w' hw' => ?_) ?_); rotate_left; (focus (go_simp <;> (first | with_reducible rfl | (rw [if_neg (by simp [undef])]; try rfl) | (refine (RP.out _ hw'.2).mono ?_; rintro e w2 ⟨rfl, rfl⟩; constructor <;> with_reducible rfl)))); simp only [Act.put, List.setIfInBounds_toArray, List.set_cons_zero, List.set_cons_succ])
    refine plan_end ?_
    go_wp2_with fail
    go_ret
    exact ⟨by rw [HV.out]; rfl, by first | exact q2.drew | (rw [← hg]; exact q2.drew)⟩
  | false =>
    rw [hh] at hfs
    have HX := Lib.hid (HX.out.trans (if_neg (by rw [hh]; simp)))
    clear hh
    go_upto_region 5 with fail
    refine wp_region_plan (fun W => W.cell? ⟨g, 0, none⟩ = some (.string (bs e.path)) ∧ Sl 10 Rent X W (.slice (some ⟨b, off, none⟩) k cap) (l.take k)) [(false, 0), (false, 1), (false, 2), (false, 3), (false, 4), (false, 5), (false, 6)] (by kernel_rfl) (by kernel_rfl) (⟨by simpa using d0, hsd⟩) ?_
    simp only [planOps, List.map, List.getD_cons_zero, List.getD_cons_succ]
    iterate 7 ((first | refine plan_quiet (v := ?_) rfl rfl (fun w' hw' => ?_) ?_ | refine plan_calm (v := ?_) (tt_of) rfl (fun w' hw' => ?_) ?_); rotate_left; (focus (go_simp <;> (first | with_reducible rfl | (rw [if_neg (by simp [undef])]; try rfl) | (refine (RP.out _ hw'.2).mono ?_; rintro e w2 ⟨rfl, rfl⟩; constructor <;> with_reducible rfl)))); simp only [Act.put, List.setIfInBounds_toArray, List.set_cons_zero, List.set_cons_succ])
    refine plan_end ?_
    have b3 := (Kept.of_below ((Below.refl _ W2).drew) nowhere).blk b2 (fun h => h)
    have q3 := q2.drew
    have hsl3 := hsl2.keep good_ent ((Kept.refl X W2).drew)
    have hdv3 := hdv2.keep good_byte ((Kept.refl X W2).drew)
    clear b2 q2 hsl2 hdv2 htk hsd d0 d8 RP hfs
    generalize W2.drew = W3 at b3 q3 hsl3 hdv3 ⊢
    have d1 := b3.cell 1
    simp at d1
    go_upto_if 27 with fail
    go_cut [] (fun wx => Below w.heap.size w wx ∧ Below W3.heap.size W3 wx ∧ Hid (res = if nestR (l.take k) e = true then 9 else 0))
    case first => as_aux_lemma =>
      by_cases h4 : e.kind = 4
      rotate_left
      · have e4 : (e.kind == 4) = false := by simpa using h4
        have HV := Lib.hid (HX.out.trans (if_neg (fun h => h4 h.1)))
        clear HX RL h4
        go_wp2_with fail
        go_meet
        exact ⟨by first | exact q3 | (rw [← hg]; exact q3), Below.refl _ _, HV⟩
      have e4 : (e.kind == 4) = true := by simpa using h4
      have HX := Lib.hid (show res = if linkE (l.take k) e ≠ 0 then linkE (l.take k) e else if nestR (l.take k) e = true then 9 else 0 by rw [HX.out]; simp [h4])
      have HLK : Hid (linkE (l.take k) e = match findE (l.take k) e.link with | none => 15 | some x => if x.kind = 1 then (if alikeE e x = true then 0 else 1) else 15) := Lib.hid rfl
      have d8 := b3.cell 8
      simp at d8
      have hsd := (hsl3.take k (by omega)).keep good_ent ((Kept.refl X W3).drew)
      have HGT := Lib.hid (fndE_get e.link (l.take k) 0)
      generalize fndE e.link (l.take k) 0 = z at RL HGT
      clear h4
      generalize linkE (l.take k) e = lk at HX HLK
      go_upto_region 8 with fail
      refine wp_region_plan (fun W => W.cell? ⟨g, 8, none⟩ = some (.string (bs e.link)) ∧ Sl 10 Rent X W (.slice (some ⟨b, off, none⟩) k cap) (l.take k)) [(false, 0), (false, 1), (false, 2), (false, 3), (false, 4), (false, 5), (false, 6)] (by kernel_rfl) (by kernel_rfl) (⟨by simpa using d8, hsd⟩) ?_
      simp only [planOps, List.map, List.getD_cons_zero, List.getD_cons_succ]
      iterate 7 ((first | refine plan_quiet (v := ?_) rfl rfl (fun w' hw' => ?_) ?_ | refine plan_calm (v := ?_) (tt_of) rfl (fun w' hw' => ?_) ?_); rotate_left; (focus (go_simp <;> (first | with_reducible rfl | (rw [if_neg (by simp [undef])]; try rfl) | (refine (RL.out _ hw'.2).mono ?_; rintro e w2 ⟨rfl, rfl⟩; constructor <;> with_reducible rfl)))); simp only [Act.put, List.setIfInBounds_toArray, List.set_cons_zero, List.set_cons_succ])
      refine plan_end ?_
      have hb4 : Below W3.heap.size W3 W3.drew := (Below.refl _ _).drew
      have b4 := (Kept.of_below hb4 nowhere).blk b3 (fun h => h)
      have q4 := q3.trans (hb4.mono q3.size)
      have hsl4 := hsl3.keep good_ent ((Kept.refl X W3).drew)
      have hdv4 := hdv3.keep good_byte ((Kept.refl X W3).drew)
      clear b3 hsl3 hdv3 hsd d1 d8 RL
      generalize W3.drew = W4 at hb4 b4 q4 hsl4 hdv4 ⊢
      rcases HGT.out with ⟨z1, z2⟩ | ⟨j, hj, z1, z2⟩
      · have HV := Lib.hid (show res = 15 by rw [HX.out, HLK.out, z2]; simp)
        subst z1
        clear HX HLK HGT z2
        go_wp2_with fail
        go_ret
        exact ⟨by rw [HV.out]; rfl, by first | exact q4 | (rw [← hg]; exact q4)⟩
      · have hjk : j < k := by rw [List.length_take] at hj; omega
        have hjl : j < l.length := by omega
        rw [Nat.zero_add] at z1
        subst z1
        rw [List.getElem_take] at z2
        obtain ⟨b', off', hbo, _, hcj⟩ := hsl4.ent (by omega)
        injection hbo with hbo
        injection hbo with hbo1 hbo2
        subst hbo1 hbo2
        obtain ⟨dx, hatx, hdx⟩ := hcj j hjl
        obtain ⟨Ax, capx, rfl, _, _⟩ := hdx.form
        have HLK := Lib.hid (show lk = if l[j].kind = 1 then (if alikeE e l[j] = true then 0 else 1) else 15 by rw [HLK.out, z2])
        clear z2 hcj HGT
        generalize l[j] = x at hatx hdx HLK
        obtain ⟨c0, c1, c2, c3, c4, c5, c6, c7, c8, c9⟩ := hatx
        have j1 : (0 : Int) ≤ (j : Int) := by omega
        have j2 : (j : Int) < (l.length : Int) := by omega
        by_cases hx1 : x.kind = 1
        rotate_left
        · have e1 : (x.kind == 1) = false := by simpa using hx1
          have e1' : (x.kind != 1) = true := by simpa using hx1
          have HV := Lib.hid (show res = 15 by rw [HX.out, HLK.out, if_neg hx1]; simp)
          clear HX HLK hx1
          go_wp2_with fail
          go_ret
          exact ⟨by rw [HV.out]; rfl, by first | exact q4 | (rw [← hg]; exact q4)⟩
        have e1 : (x.kind == 1) = true := by simpa using hx1
        have e1' : (x.kind != 1) = false := by simpa using hx1
        have HLK := Lib.hid (HLK.out.trans (if_pos hx1))
        clear hx1
        have d0 := b4.cell 0
        have d1 := b4.cell 1
        have d2 := b4.cell 2
        have d3 := b4.cell 3
        have d4 := b4.cell 4
        have d5 := b4.cell 5
        have d6 := b4.cell 6
        have d7 := b4.cell 7
        have d8 := b4.cell 8
        have d9 := b4.cell 9
        simp at d0 d1 d2 d3 d4 d5 d6 d7 d8 d9
        go_upto_region 11 with fail
        refine wp_region_plan (fun W => (W.cell? ⟨b, off + j * 10, none⟩ = some (.string (bs x.path)) ∧ W.cell? ⟨b, off + j * 10 + 1, none⟩ = some (.int .i64 x.kind) ∧ W.cell? ⟨b, off + j * 10 + 2, none⟩ = some (.int .i64 x.mode) ∧ W.cell? ⟨b, off + j * 10 + 3, none⟩ = some (.int .i64 x.uid) ∧ W.cell? ⟨b, off + j * 10 + 4, none⟩ = some (.int .i64 x.gid) ∧ W.cell? ⟨b, off + j * 10 + 5, none⟩ = some (.string (bs x.owner)) ∧ W.cell? ⟨b, off + j * 10 + 6, none⟩ = some (.string (bs x.group)) ∧ W.cell? ⟨b, off + j * 10 + 7, none⟩ = some (.int .i64 x.mtime) ∧ W.cell? ⟨b, off + j * 10 + 8, none⟩ = some (.string (bs x.link)) ∧ W.cell? ⟨b, off + j * 10 + 9, none⟩ = some (.slice Ax x.data.length capx)) ∧ W.cell? ⟨g, 0, none⟩ = some (.string (bs e.path)) ∧ W.cell? ⟨g, 1, none⟩ = some (.int .i64 e.kind) ∧ W.cell? ⟨g, 2, none⟩ = some (.int .i64 e.mode) ∧ W.cell? ⟨g, 3, none⟩ = some (.int .i64 e.uid) ∧ W.cell? ⟨g, 4, none⟩ = some (.int .i64 e.gid) ∧ W.cell? ⟨g, 5, none⟩ = some (.string (bs e.owner)) ∧ W.cell? ⟨g, 6, none⟩ = some (.string (bs e.group)) ∧ W.cell? ⟨g, 7, none⟩ = some (.int .i64 e.mtime) ∧ W.cell? ⟨g, 8, none⟩ = some (.string (bs e.link)) ∧ W.cell? ⟨g, 9, none⟩ = some (.slice Ad e.data.length capd)) [(false, 0), (false, 1), (false, 2), (false, 3), (false, 4), (true, 5), (false, 6)] (by kernel_rfl) (by kernel_rfl) (⟨⟨by simpa using c0, by simpa using c1, by simpa using c2, by simpa using c3, by simpa using c4, by simpa using c5, by simpa using c6, by simpa using c7, by simpa using c8, by simpa using c9⟩, by simpa using d0, by simpa using d1, by simpa using d2, by simpa using d3, by simpa using d4, by simpa using d5, by simpa using d6, by simpa using d7, by simpa using d8, by simpa using d9⟩) ?_
        simp only [planOps, List.map, List.getD_cons_zero, List.getD_cons_succ]
        iterate 5 ((first | refine plan_quiet (v := ?_) rfl rfl (fun w' hw' => ?_) ?_ | refine plan_calm (v := ?_) (tt_of) rfl (fun w' hw' => ?_) ?_); rotate_left; (focus (go_simp <;> (first | with_reducible rfl | (rw [if_neg (by simp [undef])]; try rfl) | omega))); simp only [Act.put, List.setIfInBounds_toArray, List.set_cons_zero, List.set_cons_succ])
        refine plan_loud rfl (fun K hK => ?_)
        go_simp
        refine (alike_any x e _ _ _ _ _ _ _ _ _ rfl rfl).mono ?_
        rintro r W5 ⟨rfl, hb5⟩
        have hb5' : Below W4.heap.size W4 W5 := ((Below.refl _ W4).drew).trans hb5
        have x0 := hb5'.cell (p := ⟨b, off + j * 10, none⟩) (World.block_lt_of_cell? _ _ c0)
        have b5 := (Kept.of_below hb5' nowhere).blk b4 (fun h => h)
        have kx := Kept.of_below hb5' nowhere
        have e0 := b5.cell 0
        have e1 := b5.cell 1
        have e2 := b5.cell 2
        have e3 := b5.cell 3
        have e4 := b5.cell 4
        have e5 := b5.cell 5
        have e6 := b5.cell 6
        have e7 := b5.cell 7
        have e8 := b5.cell 8
        have e9 := b5.cell 9
        simp at e0 e1 e2 e3 e4 e5 e6 e7 e8 e9
        refine hK _ _ (⟨⟨kx.cell c0 (fun h => h), kx.cell c1 (fun h => h), kx.cell c2 (fun h => h), kx.cell c3 (fun h => h), kx.cell c4 (fun h => h), kx.cell c5 (fun h => h), kx.cell c6 (fun h => h), kx.cell c7 (fun h => h), kx.cell c8 (fun h => h), kx.cell c9 (fun h => h)⟩, e0, e1, e2, e3, e4, e5, e6, e7, e8, e9⟩) ?_
        clear hK K
        (try simp only [Act.put, List.setIfInBounds_toArray, List.set_cons_zero, List.set_cons_succ])
        iterate 1 ((first | refine plan_quiet (v := ?_) rfl rfl (fun w' hw' => ?_) ?_ | refine plan_calm (v := ?_) (tt_of) rfl (fun w' hw' => ?_) ?_); rotate_left; (focus (go_simp <;> (first | with_reducible rfl | (rw [if_neg (by simp [undef])]; try rfl) | omega))); simp only [Act.put, List.setIfInBounds_toArray, List.set_cons_zero, List.set_cons_succ])
        refine plan_end ?_
        have q5 := q4.trans (hb5'.mono q4.size)
        have hb6 := hb4.trans (hb5'.mono hb4.size)
        clear c0 c1 c2 c3 c4 c5 c6 c7 c8 c9 d0 d1 d2 d3 d4 d5 d6 d7 d8 d9 e0 e1 e2 e3 e4 e5 e6 e7 e8 e9
        rw [alike_comm x e]
        cases hal : alikeE e x with
        | true =>
          have HV := Lib.hid (show res = if nestR (l.take k) e = true then 9 else 0 by rw [HX.out, HLK.out, if_pos hal]; simp)
          clear HX HLK hal
          go_wp2_with fail
          go_meet
          exact ⟨by first | exact q5 | (rw [← hg]; exact q5), hb6, HV⟩
        | false =>
          have hl1 : lk = 1 := by rw [HLK.out, if_neg (by rw [hal]; simp)]
          have HV := Lib.hid (show res = 1 by rw [HX.out, hl1]; simp)
          clear hl1
          clear HX HLK hal
          go_wp2_with fail
          go_ret
          exact ⟨by rw [HV.out]; rfl, by first | exact q5 | (rw [← hg]; exact q5)⟩
    case rest => as_aux_lemma =>
      obtain ⟨q4, hb4, HN⟩ := hcut
      have HP : Hid (res = if ((l.take k).drop 0).any (fun x => (aboveL x.path e.path && !decide (x.kind = 2)) || (aboveL e.path x.path && !decide (e.kind = 2))) = true then 9 else 0) := HN
      clear HN HX RL d1
      go_wp2_with fail
      go_loopg [8] k (fun G s8 wr => ∃ j : Nat, j ≤ k ∧ G = k - j ∧ s8 = .int .i64 j ∧ Below w.heap.size w wr ∧ Below W3.heap.size W3 wr ∧ Hid (res = if ((l.take k).drop j).any (fun x => (aboveL x.path e.path && !decide (x.kind = 2)) || (aboveL e.path x.path && !decide (e.kind = 2))) = true then 9 else 0))
      case atStart => exact ⟨0, Nat.zero_le _, rfl, rfl, by first | exact q4 | (rw [← hg]; exact q4), hb4, HP⟩
      case round =>
        clear HP q4 hb4
        obtain ⟨j, hj, rfl, rfl, q4, hb4, HE⟩ := hrel
        by_cases hlt : j < k
        rotate_left
        · have hjk : j = k := by omega
          have HV := Lib.hid (show res = 0 by rw [HE.out, List.drop_eq_nil_of_le (by rw [List.length_take]; omega)]; rfl)
          clear HE
          subst hjk
          go_wp2_with fail
          go_ret
          exact ⟨by rw [HV.out]; rfl, by first | exact q4 | (rw [← hg]; exact q4)⟩
        have hjt : j < (l.take k).length := by rw [List.length_take]; omega
        have hjl : j < l.length := by omega
        have hslr := Below.sl good_ent hb4 hsl3
        obtain ⟨b', off', hbo, _, hcj⟩ := hslr.ent (by omega)
        injection hbo with hbo
        injection hbo with hbo1 hbo2
        subst hbo1 hbo2
        obtain ⟨dx, ⟨c0, c1, _, _, _, _, _, _, _, _⟩, _⟩ := hcj j hjl
        have HST := HE.out
        rw [any_drop _ _ j hjt, List.getElem_take] at HST
        have hbx := HLB.out _ (List.getElem_mem hjl)
        have HE := Lib.hid HST
        clear hcj HST hslr
        generalize l[j] = x at c0 c1 HE hbx
        obtain ⟨hx1, _, _, _⟩ := hbx
        obtain ⟨he1, _, _, _⟩ := id hEB
        have be := b3.below hb4 b3.lt
        have d0 := be.cell 0
        have d1 := be.cell 1
        simp at d0 d1
        have RA : Hid (∀ W, Calls Tryz.prog 56 #[.string (bs x.path), .string (bs e.path)] W fun r w' => r = .returned (.bool (aboveL x.path e.path)) ∧ W = w') := Lib.hid fun W => above_any _ _ W hx1 he1
        have RB : Hid (∀ W, Calls Tryz.prog 56 #[.string (bs e.path), .string (bs x.path)] W fun r w' => r = .returned (.bool (aboveL e.path x.path)) ∧ W = w') := Lib.hid fun W => above_any _ _ W he1 hx1
        have j1 : (0 : Int) ≤ (j : Int) := by omega
        have j2 : (j : Int) < (l.length : Int) := by omega
        have j3 : decide ((j : Int) < (k : Int)) = true := by simp; omega
        have hbd : Below W3.heap.size W3 wr.drew := hb4.drew
        generalize aboveL x.path e.path = a1 at RA HE
        generalize aboveL e.path x.path = a2 at RB HE
        generalize x.path = xp at c0 RA RB
        obtain ⟨xk, HXK⟩ : ∃ y, Hid (x.kind = y) := ⟨_, Lib.hid rfl⟩
        obtain ⟨ek, HEK⟩ : ∃ y, Hid (e.kind = y) := ⟨_, Lib.hid rfl⟩
        rw [HXK.out] at c1
        rw [HEK.out] at d1
        have HE := Lib.hid (show res = if ((a1 && !decide (xk = 2)) || (a2 && !decide (ek = 2)) || ((l.take k).drop (j + 1)).any (fun x => (aboveL x.path e.path && !decide (x.kind = 2)) || (aboveL e.path x.path && !decide (e.kind = 2)))) = true then 9 else 0 by rw [HE.out, HXK.out, HEK.out])
        clear HXK HEK
        cases a1 with
        | false =>
          cases a2 with
          | false =>
            have HV := Lib.hid (show res = if ((l.take k).drop (j + 1)).any (fun x => (aboveL x.path e.path && !decide (x.kind = 2)) || (aboveL e.path x.path && !decide (e.kind = 2))) = true then 9 else 0 by rw [HE.out]; simp)
            clear HE
            go_upto_region 16 with fail
            refine wp_region_plan (fun W => W.cell? ⟨b, off + j * 10, none⟩ = some (.string (bs xp)) ∧ W.cell? ⟨b, off + j * 10 + 1, none⟩ = some (.int .i64 xk) ∧ W.cell? ⟨g, 0, none⟩ = some (.string (bs e.path)) ∧ W.cell? ⟨g, 1, none⟩ = some (.int .i64 ek)) [(false, 0), (false, 1), (false, 2), (false, 3), (false, 4), (false, 5), (false, 6), (false, 7), (false, 8), (false, 9), (false, 10), (false, 11), (false, 12), (false, 13), (false, 14), (false, 15), (false, 16), (false, 17), (false, 18), (false, 19), (false, 20), (false, 21), (false, 22), (false, 23), (false, 24), (false, 25), (false, 26), (false, 27), (false, 28), (false, 29), (false, 30)] (by kernel_rfl) (by kernel_rfl) (⟨by simpa using c0, by simpa using c1, by simpa using d0, by simpa using d1⟩) ?_
            simp only [planOps, List.map, List.getD_cons_zero, List.getD_cons_succ]
            iterate 31 ((first | refine plan_quiet_guarded (v := ?_) rfl (fun w' hw' => ?_) ?_ | refine plan_calm_guarded (v := ?_) (tt_of) (fun w' hw' => ?_) ?_); rotate_left; (focus (go_simp <;> (first | with_reducible rfl | (rw [if_neg (by simp [undef])]; try rfl) | (with_reducible refine (RA.out _).mono ?_; rintro e w2 ⟨rfl, rfl⟩; constructor <;> with_reducible rfl) | (with_reducible refine (RB.out _).mono ?_; rintro e w2 ⟨rfl, rfl⟩; constructor <;> with_reducible rfl)))); simp only [Act.put, List.setIfInBounds_toArray, List.set_cons_zero, List.set_cons_succ])
            refine plan_end ?_
            go_wp2_with fail
            go_roundg (k - (j + 1))
            case measure => omega
            case rel => exact ⟨j + 1, by omega, rfl, by simp, by first | exact q4.drew | (rw [← hg]; exact q4.drew), hbd, HV⟩
          | true =>
            by_cases hek : ek = 2
            · have f1 : (ek == 2) = true := by simpa using hek
              have f2 : (ek != 2) = false := by simpa using hek
              have HV := Lib.hid (show res = if ((l.take k).drop (j + 1)).any (fun x => (aboveL x.path e.path && !decide (x.kind = 2)) || (aboveL e.path x.path && !decide (e.kind = 2))) = true then 9 else 0 by rw [HE.out]; simp [hek])
              clear HE hek
              go_upto_region 16 with fail
              refine wp_region_plan (fun W => W.cell? ⟨b, off + j * 10, none⟩ = some (.string (bs xp)) ∧ W.cell? ⟨b, off + j * 10 + 1, none⟩ = some (.int .i64 xk) ∧ W.cell? ⟨g, 0, none⟩ = some (.string (bs e.path)) ∧ W.cell? ⟨g, 1, none⟩ = some (.int .i64 ek)) [(false, 0), (false, 1), (false, 2), (false, 3), (false, 4), (false, 5), (false, 6), (false, 7), (false, 8), (false, 9), (false, 10), (false, 11), (false, 12), (false, 13), (false, 14), (false, 15), (false, 16), (false, 17), (false, 18), (false, 19), (false, 20), (false, 21), (false, 22), (false, 23), (false, 24), (false, 25), (false, 26), (false, 27), (false, 28), (false, 29), (false, 30)] (by kernel_rfl) (by kernel_rfl) (⟨by simpa using c0, by simpa using c1, by simpa using d0, by simpa using d1⟩) ?_
              simp only [planOps, List.map, List.getD_cons_zero, List.getD_cons_succ]
              iterate 31 ((first | refine plan_quiet_guarded (v := ?_) rfl (fun w' hw' => ?_) ?_ | refine plan_calm_guarded (v := ?_) (tt_of) (fun w' hw' => ?_) ?_); rotate_left; (focus (go_simp <;> (first | with_reducible rfl | (rw [if_neg (by simp [undef])]; try rfl) | (with_reducible refine (RA.out _).mono ?_; rintro e w2 ⟨rfl, rfl⟩; constructor <;> with_reducible rfl) | (with_reducible refine (RB.out _).mono ?_; rintro e w2 ⟨rfl, rfl⟩; constructor <;> with_reducible rfl)))); simp only [Act.put, List.setIfInBounds_toArray, List.set_cons_zero, List.set_cons_succ])
              refine plan_end ?_
              go_wp2_with fail
              go_roundg (k - (j + 1))
              case measure => omega
              case rel => exact ⟨j + 1, by omega, rfl, by simp, by first | exact q4.drew | (rw [← hg]; exact q4.drew), hbd, HV⟩
            · have f1 : (ek == 2) = false := by simpa using hek
              have f2 : (ek != 2) = true := by simpa using hek
              have HV := Lib.hid (show res = 9 by rw [HE.out]; simp [hek])
              clear HE hek
              go_upto_region 16 with fail
              refine wp_region_plan (fun W => W.cell? ⟨b, off + j * 10, none⟩ = some (.string (bs xp)) ∧ W.cell? ⟨b, off + j * 10 + 1, none⟩ = some (.int .i64 xk) ∧ W.cell? ⟨g, 0, none⟩ = some (.string (bs e.path)) ∧ W.cell? ⟨g, 1, none⟩ = some (.int .i64 ek)) [(false, 0), (false, 1), (false, 2), (false, 3), (false, 4), (false, 5), (false, 6), (false, 7), (false, 8), (false, 9), (false, 10), (false, 11), (false, 12), (false, 13), (false, 14), (false, 15), (false, 16), (false, 17), (false, 18), (false, 19), (false, 20), (false, 21), (false, 22), (false, 23), (false, 24), (false, 25), (false, 26), (false, 27), (false, 28), (false, 29), (false, 30)] (by kernel_rfl) (by kernel_rfl) (⟨by simpa using c0, by simpa using c1, by simpa using d0, by simpa using d1⟩) ?_
              simp only [planOps, List.map, List.getD_cons_zero, List.getD_cons_succ]
              iterate 31 ((first | refine plan_quiet_guarded (v := ?_) rfl (fun w' hw' => ?_) ?_ | refine plan_calm_guarded (v := ?_) (tt_of) (fun w' hw' => ?_) ?_); rotate_left; (focus (go_simp <;> (first | with_reducible rfl | (rw [if_neg (by simp [undef])]; try rfl) | (with_reducible refine (RA.out _).mono ?_; rintro e w2 ⟨rfl, rfl⟩; constructor <;> with_reducible rfl) | (with_reducible refine (RB.out _).mono ?_; rintro e w2 ⟨rfl, rfl⟩; constructor <;> with_reducible rfl)))); simp only [Act.put, List.setIfInBounds_toArray, List.set_cons_zero, List.set_cons_succ])
              refine plan_end ?_
              go_wp2_with fail
              go_ret
              exact ⟨by rw [HV.out]; rfl, by first | exact q4.drew | (rw [← hg]; exact q4.drew)⟩
        | true =>
          by_cases hxk : xk = 2
          · have g1 : (xk == 2) = true := by simpa using hxk
            have g2 : (xk != 2) = false := by simpa using hxk
            cases a2 with
            | false =>
              have HV := Lib.hid (show res = if ((l.take k).drop (j + 1)).any (fun x => (aboveL x.path e.path && !decide (x.kind = 2)) || (aboveL e.path x.path && !decide (e.kind = 2))) = true then 9 else 0 by rw [HE.out]; simp [hxk])
              clear HE hxk
              go_upto_region 16 with fail
              refine wp_region_plan (fun W => W.cell? ⟨b, off + j * 10, none⟩ = some (.string (bs xp)) ∧ W.cell? ⟨b, off + j * 10 + 1, none⟩ = some (.int .i64 xk) ∧ W.cell? ⟨g, 0, none⟩ = some (.string (bs e.path)) ∧ W.cell? ⟨g, 1, none⟩ = some (.int .i64 ek)) [(false, 0), (false, 1), (false, 2), (false, 3), (false, 4), (false, 5), (false, 6), (false, 7), (false, 8), (false, 9), (false, 10), (false, 11), (false, 12), (false, 13), (false, 14), (false, 15), (false, 16), (false, 17), (false, 18), (false, 19), (false, 20), (false, 21), (false, 22), (false, 23), (false, 24), (false, 25), (false, 26), (false, 27), (false, 28), (false, 29), (false, 30)] (by kernel_rfl) (by kernel_rfl) (⟨by simpa using c0, by simpa using c1, by simpa using d0, by simpa using d1⟩) ?_
              simp only [planOps, List.map, List.getD_cons_zero, List.getD_cons_succ]
              iterate 31 ((first | refine plan_quiet_guarded (v := ?_) rfl (fun w' hw' => ?_) ?_ | refine plan_calm_guarded (v := ?_) (tt_of) (fun w' hw' => ?_) ?_); rotate_left; (focus (go_simp <;> (first | with_reducible rfl | (rw [if_neg (by simp [undef])]; try rfl) | (with_reducible refine (RA.out _).mono ?_; rintro e w2 ⟨rfl, rfl⟩; constructor <;> with_reducible rfl) | (with_reducible refine (RB.out _).mono ?_; rintro e w2 ⟨rfl, rfl⟩; constructor <;> with_reducible rfl)))); simp only [Act.put, List.setIfInBounds_toArray, List.set_cons_zero, List.set_cons_succ])
              refine plan_end ?_
              go_wp2_with fail
              go_roundg (k - (j + 1))
              case measure => omega
              case rel => exact ⟨j + 1, by omega, rfl, by simp, by first | exact q4.drew | (rw [← hg]; exact q4.drew), hbd, HV⟩
            | true =>
              by_cases hek : ek = 2
              · have f1 : (ek == 2) = true := by simpa using hek
                have f2 : (ek != 2) = false := by simpa using hek
                have HV := Lib.hid (show res = if ((l.take k).drop (j + 1)).any (fun x => (aboveL x.path e.path && !decide (x.kind = 2)) || (aboveL e.path x.path && !decide (e.kind = 2))) = true then 9 else 0 by rw [HE.out]; simp [hek, hxk])
                clear HE hek hxk
                go_upto_region 16 with fail
                refine wp_region_plan (fun W => W.cell? ⟨b, off + j * 10, none⟩ = some (.string (bs xp)) ∧ W.cell? ⟨b, off + j * 10 + 1, none⟩ = some (.int .i64 xk) ∧ W.cell? ⟨g, 0, none⟩ = some (.string (bs e.path)) ∧ W.cell? ⟨g, 1, none⟩ = some (.int .i64 ek)) [(false, 0), (false, 1), (false, 2), (false, 3), (false, 4), (false, 5), (false, 6), (false, 7), (false, 8), (false, 9), (false, 10), (false, 11), (false, 12), (false, 13), (false, 14), (false, 15), (false, 16), (false, 17), (false, 18), (false, 19), (false, 20), (false, 21), (false, 22), (false, 23), (false, 24), (false, 25), (false, 26), (false, 27), (false, 28), (false, 29), (false, 30)] (by kernel_rfl) (by kernel_rfl) (⟨by simpa using c0, by simpa using c1, by simpa using d0, by simpa using d1⟩) ?_
                simp only [planOps, List.map, List.getD_cons_zero, List.getD_cons_succ]
                iterate 31 ((first | refine plan_quiet_guarded (v := ?_) rfl (fun w' hw' => ?_) ?_ | refine plan_calm_guarded (v := ?_) (tt_of) (fun w' hw' => ?_) ?_); rotate_left; (focus (go_simp <;> (first | with_reducible rfl | (rw [if_neg (by simp [undef])]; try rfl) | (with_reducible refine (RA.out _).mono ?_; rintro e w2 ⟨rfl, rfl⟩; constructor <;> with_reducible rfl) | (with_reducible refine (RB.out _).mono ?_; rintro e w2 ⟨rfl, rfl⟩; constructor <;> with_reducible rfl)))); simp only [Act.put, List.setIfInBounds_toArray, List.set_cons_zero, List.set_cons_succ])
                refine plan_end ?_
                go_wp2_with fail
                go_roundg (k - (j + 1))
                case measure => omega
                case rel => exact ⟨j + 1, by omega, rfl, by simp, by first | exact q4.drew | (rw [← hg]; exact q4.drew), hbd, HV⟩
              · have f1 : (ek == 2) = false := by simpa using hek
                have f2 : (ek != 2) = true := by simpa using hek
                have HV := Lib.hid (show res = 9 by rw [HE.out]; simp [hek, hxk])
                clear HE hek hxk
                go_upto_region 16 with fail
                refine wp_region_plan (fun W => W.cell? ⟨b, off + j * 10, none⟩ = some (.string (bs xp)) ∧ W.cell? ⟨b, off + j * 10 + 1, none⟩ = some (.int .i64 xk) ∧ W.cell? ⟨g, 0, none⟩ = some (.string (bs e.path)) ∧ W.cell? ⟨g, 1, none⟩ = some (.int .i64 ek)) [(false, 0), (false, 1), (false, 2), (false, 3), (false, 4), (false, 5), (false, 6), (false, 7), (false, 8), (false, 9), (false, 10), (false, 11), (false, 12), (false, 13), (false, 14), (false, 15), (false, 16), (false, 17), (false, 18), (false, 19), (false, 20), (false, 21), (false, 22), (false, 23), (false, 24), (false, 25), (false, 26), (false, 27), (false, 28), (false, 29), (false, 30)] (by kernel_rfl) (by kernel_rfl) (⟨by simpa using c0, by simpa using c1, by simpa using d0, by simpa using d1⟩) ?_
                simp only [planOps, List.map, List.getD_cons_zero, List.getD_cons_succ]
                iterate 31 ((first | refine plan_quiet_guarded (v := ?_) rfl (fun w' hw' => ?_) ?_ | refine plan_calm_guarded (v := ?_) (tt_of) (fun w' hw' => ?_) ?_); rotate_left; (focus (go_simp <;> (first | with_reducible rfl | (rw [if_neg (by simp [undef])]; try rfl) | (with_reducible refine (RA.out _).mono ?_; rintro e w2 ⟨rfl, rfl⟩; constructor <;> with_reducible rfl) | (with_reducible refine (RB.out _).mono ?_; rintro e w2 ⟨rfl, rfl⟩; constructor <;> with_reducible rfl)))); simp only [Act.put, List.setIfInBounds_toArray, List.set_cons_zero, List.set_cons_succ])
                refine plan_end ?_
                go_wp2_with fail
                go_ret
                exact ⟨by rw [HV.out]; rfl, by first | exact q4.drew | (rw [← hg]; exact q4.drew)⟩
          · have g1 : (xk == 2) = false := by simpa using hxk
            have g2 : (xk != 2) = true := by simpa using hxk
            have HV := Lib.hid (show res = 9 by rw [HE.out]; simp [hxk])
            clear HE hxk
            go_upto_region 16 with fail
            refine wp_region_plan (fun W => W.cell? ⟨b, off + j * 10, none⟩ = some (.string (bs xp)) ∧ W.cell? ⟨b, off + j * 10 + 1, none⟩ = some (.int .i64 xk) ∧ W.cell? ⟨g, 0, none⟩ = some (.string (bs e.path)) ∧ W.cell? ⟨g, 1, none⟩ = some (.int .i64 ek)) [(false, 0), (false, 1), (false, 2), (false, 3), (false, 4), (false, 5), (false, 6), (false, 7), (false, 8), (false, 9), (false, 10), (false, 11), (false, 12), (false, 13), (false, 14), (false, 15), (false, 16), (false, 17), (false, 18), (false, 19), (false, 20), (false, 21), (false, 22), (false, 23), (false, 24), (false, 25), (false, 26), (false, 27), (false, 28), (false, 29), (false, 30)] (by kernel_rfl) (by kernel_rfl) (⟨by simpa using c0, by simpa using c1, by simpa using d0, by simpa using d1⟩) ?_
            simp only [planOps, List.map, List.getD_cons_zero, List.getD_cons_succ]
            iterate 31 ((first | refine plan_quiet_guarded (v := ?_) rfl (fun w' hw' => ?_) ?_ | refine plan_calm_guarded (v := ?_) (tt_of) (fun w' hw' => ?_) ?_); rotate_left; (focus (go_simp <;> (first | with_reducible rfl | (rw [if_neg (by simp [undef])]; try rfl) | (with_reducible refine (RA.out _).mono ?_; rintro e w2 ⟨rfl, rfl⟩; constructor <;> with_reducible rfl) | (with_reducible refine (RB.out _).mono ?_; rintro e w2 ⟨rfl, rfl⟩; constructor <;> with_reducible rfl)))); simp only [Act.put, List.setIfInBounds_toArray, List.set_cons_zero, List.set_cons_succ])
            refine plan_end ?_
            go_wp2_with fail
            go_ret
            exact ⟨by rw [HV.out]; rfl, by first | exact q4.drew | (rw [← hg]; exact q4.drew)⟩
end Go.Proofs.YtpheifdpjcppdaaGreatDoor

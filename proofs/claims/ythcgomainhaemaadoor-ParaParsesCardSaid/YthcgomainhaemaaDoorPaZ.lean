/- The walk of the document's Check on paragraphs. -/
import Derived.Test.YthcgomainhaemaaDoorPaY
namespace Go.Proofs.YthcgomainhaemaaDoor
open Go.RowKit
theorem fnd_sign (x : List UInt8) : ∀ (p : List Fd) (k : Nat), decide ((0 : Int) ≤ fnd x p k) = (p.map (·.1)).contains x
  | [], k => by simp [fnd]
  | f :: t, k => by
    rw [fnd, List.map_cons, List.contains_cons]
    by_cases h : f.1 = x
    · rw [if_pos h, h]
      simp
    · rw [if_neg h, fnd_sign x t (k + 1)]
      have : (x == f.1) = false := by simpa using fun e => h e.symm
      rw [this, Bool.false_or]
/-- The first things of a slice. -/
theorem Sl.take {α : Type} {sz : Nat} {R : Rel α} {X : Nat → Prop} {w : World} {b off n cap : Nat} {l : List α} (h : Sl sz R X w (.slice (some ⟨b, off, none⟩) n cap) l) (k : Nat) (hk : k ≤ l.length) : Sl sz R X w (.slice (some ⟨b, off, none⟩) k cap) (l.take k) := by
  obtain ⟨A', cap', hv, h1, h2, h3, h4, h5⟩ := h
  injection hv with e1 e2 e3
  subst e1 e2 e3
  have hl : (l.take k).length = k := by rw [List.length_take]; omega
  refine ⟨_, cap, by rw [hl], by rw [hl]; omega, h2, h3, fun hne => ?_, fun b' off' hA i hi => ?_⟩
  · have hl0 : l ≠ [] := fun e => hne (by rw [e]; simp)
    obtain ⟨b', off', hA, hX, hc⟩ := h4 hl0
    refine ⟨b', off', hA, hX, fun j hj => ?_⟩
    rw [hl] at hj
    have := hc j (by omega)
    rwa [List.getElem_take]
  · refine h5 b' off' hA i ?_
    rw [hl] at hi
    exact Nat.lt_of_lt_of_le hi (Nat.mul_le_mul_right _ hk)
set_option maxRecDepth 20000 in
set_option maxHeartbeats 8000000 in
theorem rcheck_any (l : List (List Fd)) (v : Value) (X : Nat → Prop) (w : World) (hsl : Sl 1 Rpara X w v l) (hF : PS l) :
    Calls Tryd.prog 12 #[v] w fun e w' => e = .returned (.int .i64 (chkP l)) ∧ Below w.heap.size w w' := by
  obtain ⟨A, cap, rfl, hc1, hc2⟩ := hsl.form
  obtain ⟨s1, s2⟩ := hF
  unfold maxLen at hc2
  have HT : Hid (chkP l = if 4096 < l.length then 4 else paErr l) := Lib.hid rfl
  have HS2 := Lib.hid s2
  clear s2
  by_cases h4 : 4096 < l.length
  · have HV : Hid (chkP l = 4) := Lib.hid (by rw [HT.out, if_pos h4])
    have hb : decide ((4096 : Int) < (l.length : Int)) = true := by simp; omega
    clear h4 HT
    go_enter Tryd.func12, Tryd.ntmps12
    go_wp2_with fail
    go_ret
    exact ⟨by rw [HV.out]; rfl, Below.refl _ _⟩
  · have HV : Hid (chkP l = paErr l) := Lib.hid (by rw [HT.out, if_neg h4])
    have hb : decide ((4096 : Int) < (l.length : Int)) = false := by simp; omega
    clear h4 HT
    go_enter Tryd.func12, Tryd.ntmps12
    go_wp2_with fail
    clear hb
    go_loopg [3] l.length (fun G s3 wr => ∃ k : Nat, k ≤ l.length ∧ G = l.length - k ∧ s3 = .int .i64 k ∧ Below w.heap.size w wr ∧ Hid (chkP l = paErr (l.drop k)))
    case atStart => exact ⟨0, Nat.zero_le _, rfl, rfl, Below.refl _ _, HV⟩
    case round =>
      clear HV
      obtain ⟨k, hk, rfl, rfl, hbw, HE⟩ := hrel
      by_cases hlt : k < l.length
      · have hslr := hsl.keep good_para (Kept.of_below hbw X)
        obtain ⟨b, off, rfl, _, hc⟩ := hslr.para (by omega)
        obtain ⟨vg, ck, hsg⟩ := hc k hlt
        obtain ⟨A2, cap2, rfl, hg1, hg2⟩ := hsg.form
        unfold maxLen at hg2
        have HST := Lib.hid (HE.out.trans (paErr_drop l k hlt))
        obtain ⟨hgl, hsb⟩ := HS2.out _ (List.getElem_mem hlt)
        have i1 : (0 : Int) ≤ (k : Int) := by omega
        have i2 : (k : Int) < (l.length : Int) := by omega
        clear hc HE
        generalize l[k] = gr at ck hsg HST hgl hsb hg1
        have HSB := Lib.hid hsb
        clear hsb
        by_cases hg : gr = []
        · subst hg
          have HV : Hid (chkP l = 2) := Lib.hid (by rw [HST.out]; rfl)
          go_wp2_with fail
          go_ret
          exact ⟨by rw [HV.out]; rfl, hbw⟩
        · have hgp : 0 < gr.length := List.length_pos_iff.2 hg
          have hgb : ((gr.length : Int) == 0) = false := by simpa using (show gr.length ≠ 0 by omega)
          have HE : Hid (chkP l = if pgErr ((gr.take 0).map (·.1)) (gr.drop 0) = 0 then paErr (l.drop (k + 1)) else pgErr ((gr.take 0).map (·.1)) (gr.drop 0)) := Lib.hid (by rw [HST.out, if_neg hg]; rfl)
          clear hg HST
          go_wp2_with fail
          go_loopg [4] gr.length (fun G s4 wx => ∃ j : Nat, j ≤ gr.length ∧ G = gr.length - j ∧ s4 = .int .i64 j ∧ Below w.heap.size w wx ∧ wx.cell? ⟨b, off + k, none⟩ = some (.slice A2 gr.length cap2) ∧ Sl 2 Rfield X wx (.slice A2 gr.length cap2) gr ∧ Hid (chkP l = if pgErr ((gr.take j).map (·.1)) (gr.drop j) = 0 then paErr (l.drop (k + 1)) else pgErr ((gr.take j).map (·.1)) (gr.drop j)))
          case atStart => exact ⟨0, Nat.zero_le _, rfl, rfl, hbw, ck, hsg, HE⟩
          case round =>
            clear hbw ck hsg HE
            obtain ⟨j, hj, rfl, rfl, hbx, ck, hsg, HE⟩ := hrel
            by_cases hjl : j < gr.length
            · obtain ⟨b2, off2, rfl, _, hc⟩ := hsg.field (by omega)
              obtain ⟨c0, c1⟩ := hc j hjl
              have HST := Lib.hid (pgErr_drop gr j hjl)
              obtain ⟨hn1, hn2⟩ := HSB.out _ (List.getElem_mem hjl)
              have j1 : (0 : Int) ≤ (j : Int) := by omega
              have j2 : (j : Int) < (gr.length : Int) := by omega
              clear hc
              generalize gr[j] = f at c0 c1 HST hn1 hn2
              obtain ⟨fn, fv⟩ := f
              simp only at c0 c1 hn1 hn2
              go_upto_region 12 with fail
              have hbF : Below wr.heap.size wr (wr.alloc (Obj.cells #[Value.string (bs fn), Value.string (bs fv)] tF)) := (Below.refl _ _).alloc (Nat.le_refl _) _
              have bF := Blk.new wr tF #[Value.string (bs fn), Value.string (bs fv)]
              have ck1 := (hbF.cell (p := ⟨b, off + k, none⟩) (World.block_lt_of_cell? _ _ ck)).trans ck
              have hsg1 := Below.sl good_field hbF hsg
              have q1 := below_trans hbx hbF
              clear hbF ck hsg hbx c0 c1
              generalize wr.alloc (Obj.cells #[Value.string (bs fn), Value.string (bs fv)] tF) = w1 at bF ck1 hsg1 q1 ⊢
              generalize wr.heap.size = F at bF ⊢
              have d0 := bF.cell 0
              have d1 := bF.cell 1
              simp at d0 d1
              go_wp2_with fail
              refine (qname_any fn _ (by omega)).mono ?_
              rintro e w2 ⟨rfl, rfl⟩
              cases hnm : nmOk fn with
              | false =>
                have HV : Hid (chkP l = 10) := Lib.hid (by rw [HE.out, HST.out]; simp [fdErr, hnm])
                go_wp2_with fail
                go_ret
                exact ⟨by rw [HV.out]; rfl, q1⟩
              | true =>
                have HST' := Lib.hid (show fdErr ((gr.take j).map (·.1)) (fn, fv) = if valOk fv = true then (if ((gr.take j).map (·.1)).contains fn = true then 8 else 0) else 3 by simp [fdErr, hnm])
                clear hnm
                go_wp2_with fail
                refine (rvalue_any fv _ (by omega)).mono ?_
                rintro e w3 ⟨rfl, hb3⟩
                have b3 := bF.below hb3 bF.lt
                have ck3 := (hb3.cell (p := ⟨b, off + k, none⟩) (World.block_lt_of_cell? _ _ ck1)).trans ck1
                have hsg3 := Below.sl good_field hb3 hsg1
                have q3 := below_trans q1 hb3
                have d0 := b3.cell 0
                simp at d0
                clear bF ck1 hsg1 q1 hb3
                cases hvl : valOk fv with
                | false =>
                  have HV : Hid (chkP l = 3) := Lib.hid (by rw [HE.out, HST.out, HST'.out]; simp [hvl])
                  go_wp2_with fail
                  go_ret
                  exact ⟨by rw [HV.out]; rfl, q3⟩
                | true =>
                  have HSU := Lib.hid (show fdErr ((gr.take j).map (·.1)) (fn, fv) = if ((gr.take j).map (·.1)).contains fn = true then 8 else 0 by rw [HST'.out]; simp [hvl])
                  clear hvl HST'
                  have hsgt := hsg3.take j (by omega)
                  have hfs := fnd_sign fn (gr.take j) 0
                  have RF : Hid (∀ W, Sl 2 Rfield X W (.slice (some ⟨b2, off2, none⟩) j cap2) (gr.take j) → Calls Tryd.prog 17 #[.slice (some ⟨b2, off2, none⟩) j cap2, .string (bs fn)] W fun e w' => e = .returned (.int .i64 (fnd fn (gr.take j) 0)) ∧ W = w') := Lib.hid fun W h => find_any _ fn _ X W h
                  generalize fnd fn (gr.take j) 0 = z at hfs RF
                  have k1 : (j : Int) ≤ (cap2 : Int) := by omega
                  have hsgd := hsgt.keep good_field ((Kept.refl X w3).drew)
                  cases hcn : ((gr.take j).map (·.1)).contains fn with
                  | true =>
                    rw [hcn] at hfs
                    have HV : Hid (chkP l = 8) := Lib.hid (by rw [HE.out, HST.out, HSU.out, hcn]; simp)
                    clear hcn HE HST HSU
                    go_upto_region 16 with fail
                    refine wp_region_plan (fun W => W.cell? ⟨b, off + k, none⟩ = some (.slice (some ⟨b2, off2, none⟩) gr.length cap2) ∧ W.cell? ⟨F, 0, none⟩ = some (.string (bs fn)) ∧ Sl 2 Rfield X W (.slice (some ⟨b2, off2, none⟩) j cap2) (gr.take j)) [(false, 0), (false, 1), (false, 2), (false, 3), (false, 4), (false, 5), (false, 6), (false, 7), (false, 8), (false, 9)] (by kernel_rfl) (by kernel_rfl) (⟨by simpa using ck3, by simpa using d0, hsgd⟩) ?_
                    simp only [planOps, List.map, List.getD_cons_zero, List.getD_cons_succ]
                    iterate 10 ((first | refine plan_quiet (v := ?_) rfl rfl (fun w' hw' => ?_) ?_ | refine plan_calm (v := ?_) (tt_of) rfl (fun w' hw' => ?_) ?_); rotate_left; (focus (go_simp <;> (first | with_reducible rfl | (rw [if_neg (by simp [undef])]; try rfl) | (refine (RF.out _ hw'.2.2).mono ?_; rintro e w2 ⟨rfl, rfl⟩; constructor <;> with_reducible rfl)))); simp only [Act.put, List.setIfInBounds_toArray, List.set_cons_zero, List.set_cons_succ])
                    refine plan_end ?_
                    go_wp2_with fail
                    go_ret
                    exact ⟨by rw [HV.out]; rfl, q3.drew⟩
                  | false =>
                    rw [hcn] at hfs
                    have HV := Lib.hid (show chkP l = if pgErr ((gr.take (j + 1)).map (·.1)) (gr.drop (j + 1)) = 0 then paErr (l.drop (k + 1)) else pgErr ((gr.take (j + 1)).map (·.1)) (gr.drop (j + 1)) by
                      rw [HE.out, HST.out, HSU.out, hcn]; simp)
                    clear hcn HE HST HSU
                    go_upto_region 16 with fail
                    refine wp_region_plan (fun W => W.cell? ⟨b, off + k, none⟩ = some (.slice (some ⟨b2, off2, none⟩) gr.length cap2) ∧ W.cell? ⟨F, 0, none⟩ = some (.string (bs fn)) ∧ Sl 2 Rfield X W (.slice (some ⟨b2, off2, none⟩) j cap2) (gr.take j)) [(false, 0), (false, 1), (false, 2), (false, 3), (false, 4), (false, 5), (false, 6), (false, 7), (false, 8), (false, 9)] (by kernel_rfl) (by kernel_rfl) (⟨by simpa using ck3, by simpa using d0, hsgd⟩) ?_
                    simp only [planOps, List.map, List.getD_cons_zero, List.getD_cons_succ]
                    iterate 10 ((first | refine plan_quiet (v := ?_) rfl rfl (fun w' hw' => ?_) ?_ | refine plan_calm (v := ?_) (tt_of) rfl (fun w' hw' => ?_) ?_); rotate_left; (focus (go_simp <;> (first | with_reducible rfl | (rw [if_neg (by simp [undef])]; try rfl) | (refine (RF.out _ hw'.2.2).mono ?_; rintro e w2 ⟨rfl, rfl⟩; constructor <;> with_reducible rfl)))); simp only [Act.put, List.setIfInBounds_toArray, List.set_cons_zero, List.set_cons_succ])
                    refine plan_end ?_
                    go_wp2_with fail
                    go_roundg (gr.length - (j + 1))
                    case measure => omega
                    case rel => exact ⟨j + 1, by omega, rfl, by simp, q3.drew, by simpa using ck3, hsg3.keep good_field ((Kept.refl X w3).drew), HV⟩
            · have hje : j = gr.length := by omega
              have hdn : gr.drop j = [] := by rw [hje, List.drop_length]
              have HX : Hid (chkP l = paErr (l.drop (k + 1))) := Lib.hid (by rw [HE.out, hdn]; rfl)
              clear HE hdn
              go_wp2_with fail
              go_roundg (l.length - (k + 1))
              case measure => omega
              case rel => exact ⟨k + 1, by omega, rfl, by simp, hbx, HX⟩
      · have hd : l.drop k = [] := List.drop_eq_nil_of_le (by omega)
        have HX : Hid (chkP l = 0) := Lib.hid (by rw [HE.out, hd]; rfl)
        clear HE hd
        go_wp2_with fail
        go_ret
        exact ⟨by rw [HX.out]; rfl, hbw⟩
end Go.Proofs.YthcgomainhaemaaDoor

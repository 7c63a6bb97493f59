/- The walk of the document's Same for groups, at groups that read the same. -/
import Derived.Test.YtdnncbhbajciaaaDoorDdU
import Derived.Test.YtdnncbhbajciaaaDoorFork
namespace Go.Proofs.YtdnncbhbajciaaaDoor
open Go.RowKit
theorem two_new (w : World) (t : TypeId) (c1 c2 : Array Value) : Blk ((w.alloc (.cells c1 t)).alloc (.cells c2 t)).drew w.heap.size t c1 ∧ Blk ((w.alloc (.cells c1 t)).alloc (.cells c2 t)).drew (w.heap.size + 1) t c2 ∧ Below w.heap.size w ((w.alloc (.cells c1 t)).alloc (.cells c2 t)).drew := by
  refine ⟨((Blk.new w t c1).alloc _).drew, ?_, (((Below.refl _ _).alloc (Nat.le_refl _) _).alloc (by simp) _).drew⟩
  have := Blk.new (w.alloc (.cells c1 t)) t c2
  rw [show (w.alloc (.cells c1 t)).heap.size = w.heap.size + 1 by simp] at this
  exact this.drew
set_option maxRecDepth 20000 in
set_option maxHeartbeats 16000000 in
theorem same_yes (l : List (List Tm)) (v v' : Value) (X Y : Nat → Prop) (w : World) (h1 : Sl 1 Rgroup X w v l) (h2 : Sl 1 Rgroup Y w v' l) :
    Calls Tryd.prog 26 #[v, v'] w fun e w' => e = .returned (.bool true) ∧ Below w.heap.size w w' := by
  obtain ⟨A, cap, rfl, hc1, hc2⟩ := h1.form
  obtain ⟨A', cap', rfl, hc1', hc2'⟩ := h2.form
  unfold maxLen at hc2 hc2'
  have hne : ((l.length : Int) != (l.length : Int)) = false := by simp
  go_enter Tryd.func26, Tryd.ntmps26
  go_wp2_with fail
  clear hne
  go_loopg [5] l.length (fun G s5 wr => ∃ k : Nat, k ≤ l.length ∧ G = l.length - k ∧ s5 = .int .i64 k ∧ Below w.heap.size w wr)
  case atStart => exact ⟨0, Nat.zero_le _, rfl, rfl, Below.refl _ _⟩
  case round =>
    obtain ⟨k, hk, rfl, rfl, hbw⟩ := hrel
    obtain ⟨wo, rfl⟩ : ∃ wo : World, wo = wr := ⟨_, rfl⟩
    by_cases hlt : k < l.length
    · have h1r := h1.keep good_group (Kept.of_below hbw X)
      have h2r := h2.keep good_group (Kept.of_below hbw Y)
      obtain ⟨b, off, rfl, _, hc⟩ := h1r.group (by omega)
      obtain ⟨vg, ck, hsg⟩ := hc k hlt
      obtain ⟨b', off', rfl, _, hc'⟩ := h2r.group (by omega)
      obtain ⟨vg', ck', hsg'⟩ := hc' k hlt
      obtain ⟨A2, cap2, rfl, hg1, hg2⟩ := hsg.form
      obtain ⟨A2', cap2', rfl, hg1', hg2'⟩ := hsg'.form
      unfold maxLen at hg2 hg2'
      clear hc hc' h1r h2r
      generalize l[k] = gr at ck hsg ck' hsg' hg1 hg1'
      have hne : ((gr.length : Int) != (gr.length : Int)) = false := by simp
      have i1 : (0 : Int) ≤ (k : Int) := by omega
      have i2 : (k : Int) < (l.length : Int) := by omega
      go_wp2_with fail
      refine wp_region_plan (fun W => W.cell? ⟨b, off + k, none⟩ = some (.slice A2 gr.length cap2) ∧ W.cell? ⟨b', off' + k, none⟩ = some (.slice A2' gr.length cap2')) [(false, 0), (false, 1), (false, 2), (false, 3), (false, 4), (false, 5), (false, 6), (false, 7), (false, 8), (false, 9), (false, 10)] (by kernel_rfl) (by kernel_rfl) (⟨by simpa using ck, by simpa using ck'⟩) ?_
      simp only [planOps, List.map, List.getD_cons_zero, List.getD_cons_succ]
      iterate 11 ((first | refine plan_quiet (v := ?_) rfl rfl (fun w' hw' => ?_) ?_ | refine plan_calm (v := ?_) (tt_of) rfl (fun w' hw' => ?_) ?_); rotate_left; (focus (go_simp <;> with_reducible rfl)); simp only [Act.put, List.setIfInBounds_toArray, List.set_cons_zero, List.set_cons_succ])
      refine plan_end ?_
      go_wp2_with fail
      have hbd : Below w.heap.size w wo.drew := hbw.drew
      have hbr : Below wo.heap.size wo wo.drew := (Below.refl _ _).drew
      go_loopg [6] gr.length (fun G s6 wx => ∃ j : Nat, j ≤ gr.length ∧ G = gr.length - j ∧ s6 = .int .i64 j ∧ Below w.heap.size w wx ∧ Below wo.heap.size wo wx)
      case atStart => exact ⟨0, Nat.zero_le _, rfl, rfl, hbd, hbr⟩
      case round =>
        clear hbd hbr hne
        obtain ⟨j, hj, rfl, rfl, hbx, hbx2⟩ := hrel
        have ckx := (hbx2.cell (p := ⟨b, off + k, none⟩) (lt_of_cell ck)).trans ck
        have ckx' := (hbx2.cell (p := ⟨b', off' + k, none⟩) (lt_of_cell ck')).trans ck'
        by_cases hjl : j < gr.length
        · have hsgx := hsg.keep good_term (Kept.of_below hbx2 X)
          have hsgx' := hsg'.keep good_term (Kept.of_below hbx2 Y)
          obtain ⟨b2, off2, rfl, _, hc⟩ := hsgx.term (by omega)
          obtain ⟨va, ⟨c0, c1, c2, c3, c4⟩, hsa⟩ := hc j hjl
          obtain ⟨b2', off2', rfl, _, hc'⟩ := hsgx'.term (by omega)
          obtain ⟨va', ⟨c0', c1', c2', c3', c4'⟩, hsa'⟩ := hc' j hjl
          obtain ⟨A3, cap3, rfl, ha1, ha2⟩ := hsa.form
          obtain ⟨A3', cap3', rfl, ha1', ha2'⟩ := hsa'.form
          unfold maxLen at ha2 ha2'
          clear hc hc' hsgx hsgx'
          generalize gr[j] = t at c0 c1 c2 c3 c4 hsa ha1 c0' c1' c2' c3' c4' hsa' ha1'
          have j1 : (0 : Int) ≤ (j : Int) := by omega
          have j2 : (j : Int) < (gr.length : Int) := by omega
          go_upto_region 11 with fail
          go_cut [7, 8] (fun s7 s8 wz => ∃ g7 g8, s7 = .pointer (some ⟨g7, 0, none⟩) ∧ s8 = .pointer (some ⟨g8, 0, none⟩) ∧ TB wz g7 t.name t.op t.ver t.qual (.slice A3 t.archs.length cap3) ∧ TB wz g8 t.name t.op t.ver t.qual (.slice A3' t.archs.length cap3') ∧ Below wr.heap.size wr wz)
          case first =>
            have keepS : ∀ W : World, Below wr.heap.size wr W → (fun W => W.cell? ⟨b, off + k, none⟩ = some (.slice (some ⟨b2, off2, none⟩) gr.length cap2) ∧ W.cell? ⟨b', off' + k, none⟩ = some (.slice (some ⟨b2', off2', none⟩) gr.length cap2') ∧ W.cell? ⟨b2, off2 + j * 5, none⟩ = some (.string (bs t.name)) ∧ W.cell? ⟨b2, off2 + j * 5 + 1, none⟩ = some (.int .i64 t.op) ∧ W.cell? ⟨b2, off2 + j * 5 + 2, none⟩ = some (.string (bs t.ver)) ∧ W.cell? ⟨b2, off2 + j * 5 + 3, none⟩ = some (.string (bs t.qual)) ∧ W.cell? ⟨b2, off2 + j * 5 + 4, none⟩ = some (.slice A3 t.archs.length cap3) ∧ W.cell? ⟨b2', off2' + j * 5, none⟩ = some (.string (bs t.name)) ∧ W.cell? ⟨b2', off2' + j * 5 + 1, none⟩ = some (.int .i64 t.op) ∧ W.cell? ⟨b2', off2' + j * 5 + 2, none⟩ = some (.string (bs t.ver)) ∧ W.cell? ⟨b2', off2' + j * 5 + 3, none⟩ = some (.string (bs t.qual)) ∧ W.cell? ⟨b2', off2' + j * 5 + 4, none⟩ = some (.slice A3' t.archs.length cap3')) W := fun W hb => ⟨(hb.cell (p := ⟨b, off + k, none⟩) (lt_of_cell ckx)).trans ckx, (hb.cell (p := ⟨b', off' + k, none⟩) (lt_of_cell ckx')).trans ckx', (hb.cell (p := ⟨b2, off2 + j * 5, none⟩) (lt_of_cell c0)).trans c0, (hb.cell (p := ⟨b2, off2 + j * 5 + 1, none⟩) (lt_of_cell c1)).trans c1, (hb.cell (p := ⟨b2, off2 + j * 5 + 2, none⟩) (lt_of_cell c2)).trans c2, (hb.cell (p := ⟨b2, off2 + j * 5 + 3, none⟩) (lt_of_cell c3)).trans c3, (hb.cell (p := ⟨b2, off2 + j * 5 + 4, none⟩) (lt_of_cell c4)).trans c4, (hb.cell (p := ⟨b2', off2' + j * 5, none⟩) (lt_of_cell c0')).trans c0', (hb.cell (p := ⟨b2', off2' + j * 5 + 1, none⟩) (lt_of_cell c1')).trans c1', (hb.cell (p := ⟨b2', off2' + j * 5 + 2, none⟩) (lt_of_cell c2')).trans c2', (hb.cell (p := ⟨b2', off2' + j * 5 + 3, none⟩) (lt_of_cell c3')).trans c3', (hb.cell (p := ⟨b2', off2' + j * 5 + 4, none⟩) (lt_of_cell c4')).trans c4'⟩
            have KS := Lib.hid keepS
            clear keepS
            refine wp_region_tree (fun W => W.cell? ⟨b, off + k, none⟩ = some (.slice (some ⟨b2, off2, none⟩) gr.length cap2) ∧ W.cell? ⟨b', off' + k, none⟩ = some (.slice (some ⟨b2', off2', none⟩) gr.length cap2') ∧ W.cell? ⟨b2, off2 + j * 5, none⟩ = some (.string (bs t.name)) ∧ W.cell? ⟨b2, off2 + j * 5 + 1, none⟩ = some (.int .i64 t.op) ∧ W.cell? ⟨b2, off2 + j * 5 + 2, none⟩ = some (.string (bs t.ver)) ∧ W.cell? ⟨b2, off2 + j * 5 + 3, none⟩ = some (.string (bs t.qual)) ∧ W.cell? ⟨b2, off2 + j * 5 + 4, none⟩ = some (.slice A3 t.archs.length cap3) ∧ W.cell? ⟨b2', off2' + j * 5, none⟩ = some (.string (bs t.name)) ∧ W.cell? ⟨b2', off2' + j * 5 + 1, none⟩ = some (.int .i64 t.op) ∧ W.cell? ⟨b2', off2' + j * 5 + 2, none⟩ = some (.string (bs t.ver)) ∧ W.cell? ⟨b2', off2' + j * 5 + 3, none⟩ = some (.string (bs t.qual)) ∧ W.cell? ⟨b2', off2' + j * 5 + 4, none⟩ = some (.slice A3' t.archs.length cap3')) (.q 0 (.q 1 (.q 2 (.q 3 (.q 4 (.q 5 (.q 6 (.q 7 (.q 8 (.q 9 (.q 10 (.q 11 (.q 12 (.q 13 (.f 14 (.l 15 (.l 16 (.l 17 .nil))) 15 (.l 14 (.l 16 (.l 17 .nil)))))))))))))))))) (by kernel_rfl) (by kernel_rfl) (KS.out _ (Below.refl _ _).drew) ?_
            iterate 14 (refine tree_q (v := ?_) rfl rfl (fun w' hw' => ?_) ?_; rotate_left; (focus (go_simp <;> with_reducible rfl)); simp only [Act.put, List.setIfInBounds_toArray, List.set_cons_zero, List.set_cons_succ])
            refine tree_f rfl rfl (fun K hK => ?_) rfl rfl (fun K hK => ?_)
            · go_simp
              refine hK _ _ (KS.out _ (by first | exact ((Below.refl _ _).alloc (Nat.le_refl _) _).drew | exact (((Below.refl _ _).alloc (Nat.le_refl _) _).alloc (by simp) _).drew)) ?_
              clear hK K
              (try simp only [Act.put, List.setIfInBounds_toArray, List.set_cons_zero, List.set_cons_succ])
              refine tree_l rfl rfl (fun K hK => ?_)
              go_simp
              refine hK _ _ (KS.out _ (by first | exact ((Below.refl _ _).alloc (Nat.le_refl _) _).drew | exact (((Below.refl _ _).alloc (Nat.le_refl _) _).alloc (by simp) _).drew)) ?_
              clear hK K
              (try simp only [Act.put, List.setIfInBounds_toArray, List.set_cons_zero, List.set_cons_succ])
              refine tree_l rfl rfl (fun K hK => ?_)
              go_simp
              refine hK _ _ (KS.out _ (by first | exact ((Below.refl _ _).alloc (Nat.le_refl _) _).drew | exact (((Below.refl _ _).alloc (Nat.le_refl _) _).alloc (by simp) _).drew)) ?_
              clear hK K
              (try simp only [Act.put, List.setIfInBounds_toArray, List.set_cons_zero, List.set_cons_succ])
              refine tree_l rfl rfl (fun K hK => ?_)
              go_simp
              refine hK _ _ (KS.out _ (by first | exact ((Below.refl _ _).alloc (Nat.le_refl _) _).drew | exact (((Below.refl _ _).alloc (Nat.le_refl _) _).alloc (by simp) _).drew)) ?_
              clear hK K
              (try simp only [Act.put, List.setIfInBounds_toArray, List.set_cons_zero, List.set_cons_succ])
              refine tree_end ?_
              go_wp2_with fail
              go_meet
              have N2 := two_new wr 50 #[.string (bs t.name), .int .i64 t.op, .string (bs t.ver), .string (bs t.qual), .slice A3 t.archs.length cap3] #[.string (bs t.name), .int .i64 t.op, .string (bs t.ver), .string (bs t.qual), .slice A3' t.archs.length cap3']
              exact ⟨_, _, rfl, rfl, N2.1, N2.2.1, N2.2.2⟩
            · go_simp
              refine hK _ _ (KS.out _ (by first | exact ((Below.refl _ _).alloc (Nat.le_refl _) _).drew | exact (((Below.refl _ _).alloc (Nat.le_refl _) _).alloc (by simp) _).drew)) ?_
              clear hK K
              (try simp only [Act.put, List.setIfInBounds_toArray, List.set_cons_zero, List.set_cons_succ])
              refine tree_l rfl rfl (fun K hK => ?_)
              go_simp
              refine hK _ _ (KS.out _ (by first | exact ((Below.refl _ _).alloc (Nat.le_refl _) _).drew | exact (((Below.refl _ _).alloc (Nat.le_refl _) _).alloc (by simp) _).drew)) ?_
              clear hK K
              (try simp only [Act.put, List.setIfInBounds_toArray, List.set_cons_zero, List.set_cons_succ])
              refine tree_l rfl rfl (fun K hK => ?_)
              go_simp
              refine hK _ _ (KS.out _ (by first | exact ((Below.refl _ _).alloc (Nat.le_refl _) _).drew | exact (((Below.refl _ _).alloc (Nat.le_refl _) _).alloc (by simp) _).drew)) ?_
              clear hK K
              (try simp only [Act.put, List.setIfInBounds_toArray, List.set_cons_zero, List.set_cons_succ])
              refine tree_l rfl rfl (fun K hK => ?_)
              go_simp
              refine hK _ _ (KS.out _ (by first | exact ((Below.refl _ _).alloc (Nat.le_refl _) _).drew | exact (((Below.refl _ _).alloc (Nat.le_refl _) _).alloc (by simp) _).drew)) ?_
              clear hK K
              (try simp only [Act.put, List.setIfInBounds_toArray, List.set_cons_zero, List.set_cons_succ])
              refine tree_end ?_
              go_wp2_with fail
              go_meet
              have N2 := two_new wr 50 #[.string (bs t.name), .int .i64 t.op, .string (bs t.ver), .string (bs t.qual), .slice A3' t.archs.length cap3'] #[.string (bs t.name), .int .i64 t.op, .string (bs t.ver), .string (bs t.qual), .slice A3 t.archs.length cap3]
              exact ⟨_, _, rfl, rfl, N2.2.1, N2.1, N2.2.2⟩
          case rest =>
            obtain ⟨g7, g8, rfl, rfl, t7, t8, hbz⟩ := hcut
            obtain ⟨x0, x1, x2, x3, x4⟩ := TB.cells t7
            obtain ⟨y0, y1, y2, y3, y4⟩ := TB.cells t8
            have hsaz := hsa.keep good_text (Kept.of_below hbz X)
            have hsaz' := hsa'.keep good_text (Kept.of_below hbz Y)
            have hbz1 := hbx.trans (hbz.mono hbx.size)
            have hbz2 := hbx2.trans (hbz.mono hbx2.size)
            clear c0 c1 c2 c3 c4 c0' c1' c2' c3' c4' hsa hsa' hbx hbx2 ckx ckx' hbz
            have n1 := beq_bs t.name
            have n2 : (t.op != t.op) = false := by simp
            have n3 := beq_bs t.ver
            have n4 := beq_bs t.qual
            have n5 : ((t.archs.length : Int) != (t.archs.length : Int)) = false := by simp
            go_wp2_with fail
            go_loopg [9] t.archs.length (fun G s9 wz => ∃ i : Nat, i ≤ t.archs.length ∧ G = t.archs.length - i ∧ s9 = .int .i64 i ∧ Below wc.heap.size wc wz)
            case atStart => exact ⟨0, Nat.zero_le _, rfl, rfl, Below.refl _ _⟩
            case round =>
              clear n1 n2 n3 n4 n5
              obtain ⟨i, hi, rfl, rfl, hbq⟩ := hrel
              have x4 := (hbq.cell (p := ⟨g7, 4, none⟩) (lt_of_cell x4)).trans x4
              have y4 := (hbq.cell (p := ⟨g8, 4, none⟩) (lt_of_cell y4)).trans y4
              by_cases hil : i < t.archs.length
              · have hsq := hsaz.keep good_text (Kept.of_below hbq X)
                have hsq' := hsaz'.keep good_text (Kept.of_below hbq Y)
                obtain ⟨_, _, _, b3, off3, rfl, hc⟩ := hsq.text (by omega)
                have cki := hc i hil
                obtain ⟨_, _, _, b3', off3', rfl, hc'⟩ := hsq'.text (by omega)
                have cki' := hc' i hil
                clear hc hc' hsq hsq'
                generalize t.archs[i] = a at cki cki'
                have na := beq_bs a
                have m1 : (0 : Int) ≤ (i : Int) := by omega
                have m2 : (i : Int) < (t.archs.length : Int) := by omega
                go_wp2_with fail
                refine wp_region_plan (fun W => W.cell? ⟨g7, 4, none⟩ = some (.slice (some ⟨b3, off3, none⟩) t.archs.length cap3) ∧ W.cell? ⟨g8, 4, none⟩ = some (.slice (some ⟨b3', off3', none⟩) t.archs.length cap3') ∧ W.cell? ⟨b3, off3 + i, none⟩ = some (.string (bs a)) ∧ W.cell? ⟨b3', off3' + i, none⟩ = some (.string (bs a))) [(false, 0), (false, 1), (false, 2), (false, 3), (false, 4), (false, 5), (false, 6), (false, 7), (false, 8), (false, 9), (false, 10)] (by kernel_rfl) (by kernel_rfl) (⟨by simpa using x4, by simpa using y4, by simpa using cki, by simpa using cki'⟩) ?_
                simp only [planOps, List.map, List.getD_cons_zero, List.getD_cons_succ]
                iterate 11 ((first | refine plan_quiet (v := ?_) rfl rfl (fun w' hw' => ?_) ?_ | refine plan_calm (v := ?_) (tt_of) rfl (fun w' hw' => ?_) ?_); rotate_left; (focus (go_simp <;> with_reducible rfl)); simp only [Act.put, List.setIfInBounds_toArray, List.set_cons_zero, List.set_cons_succ])
                refine plan_end ?_
                go_wp2_with fail
                go_roundg (t.archs.length - (i + 1))
                case measure => omega
                case rel => exact ⟨i + 1, by omega, rfl, by go_num, hbq.drew⟩
              · obtain rfl : i = t.archs.length := by omega
                go_wp2_with fail
                go_roundg (gr.length - (j + 1))
                case measure => omega
                case rel => exact ⟨j + 1, by omega, rfl, by go_num, hbz1.trans (hbq.mono hbz1.size), hbz2.trans (hbq.mono hbz2.size)⟩
        · obtain rfl : j = gr.length := by omega
          go_wp2_with fail
          go_roundg (l.length - (k + 1))
          case measure => omega
          case rel => exact ⟨k + 1, by omega, rfl, by go_num, hbx⟩
    · obtain rfl : k = l.length := by omega
      go_wp2_with fail
      go_ret
      exact ⟨rfl, hbw⟩
end Go.Proofs.YtdnncbhbajciaaaDoor

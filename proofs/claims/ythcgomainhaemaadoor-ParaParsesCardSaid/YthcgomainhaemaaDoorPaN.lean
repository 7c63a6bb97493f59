/- The document's Same of one list of paragraphs twice. -/
import Derived.Test.YthcgomainhaemaaDoorPaM
namespace Go.Proofs.YthcgomainhaemaaDoor
open Go.RowKit
set_option maxRecDepth 20000 in
set_option maxHeartbeats 8000000 in
theorem psame_yes (l : List (List Fd)) (v v' : Value) (X Y : Nat → Prop) (w : World) (h1 : Sl 1 Rpara X w v l) (h2 : Sl 1 Rpara Y w v' l) :
    Calls Tryd.prog 15 #[v, v'] w fun e w' => e = .returned (.bool true) ∧ Below w.heap.size w w' := by
  obtain ⟨A, cap, rfl, hc1, hc2⟩ := h1.form
  obtain ⟨A', cap', rfl, hc1', hc2'⟩ := h2.form
  unfold maxLen at hc2 hc2'
  have hne : ((l.length : Int) != (l.length : Int)) = false := by simp
  go_enter Tryd.func15, Tryd.ntmps15
  go_wp2_with fail
  clear hne
  go_loopg [5] l.length (fun G s5 wr => ∃ k : Nat, k ≤ l.length ∧ G = l.length - k ∧ s5 = .int .i64 k ∧ Below w.heap.size w wr)
  case atStart => exact ⟨0, Nat.zero_le _, rfl, rfl, Below.refl _ _⟩
  case round =>
    obtain ⟨k, hk, rfl, rfl, hbw⟩ := hrel
    by_cases hlt : k < l.length
    · obtain ⟨b, off, rfl, _, hc⟩ := (h1.keep good_para (Kept.of_below hbw X)).para (by omega)
      obtain ⟨vg, ck, hg⟩ := hc k hlt
      obtain ⟨b', off', rfl, _, hc'⟩ := (h2.keep good_para (Kept.of_below hbw Y)).para (by omega)
      obtain ⟨vg', ck', hg'⟩ := hc' k hlt
      clear hc hc'
      generalize l[k] = gr at hg hg'
      obtain ⟨A2, cap2, rfl, hd1, hd2⟩ := hg.form
      obtain ⟨A2', cap2', rfl, hd1', hd2'⟩ := hg'.form
      unfold maxLen at hd2 hd2'
      have i1 : (0 : Int) ≤ (k : Int) := by omega
      have i2 : (k : Int) < (l.length : Int) := by omega
      have hne : ((gr.length : Int) != (gr.length : Int)) = false := by simp
      go_upto_region 6 with fail
      refine wp_region_plan (fun W => W.cell? ⟨b, off + k, none⟩ = some (.slice A2 gr.length cap2) ∧ W.cell? ⟨b', off' + k, none⟩ = some (.slice A2' gr.length cap2')) [(false, 0), (false, 1), (false, 2), (false, 3), (false, 4), (false, 5), (false, 6), (false, 7), (false, 8), (false, 9), (false, 10)] (by kernel_rfl) (by kernel_rfl) (⟨by simpa using ck, by simpa using ck'⟩) ?_
      simp only [planOps, List.map, List.getD_cons_zero, List.getD_cons_succ]
      iterate 11 ((first | refine plan_quiet (v := ?_) rfl rfl (fun w' hw' => ?_) ?_ | refine plan_calm (v := ?_) (tt_of) rfl (fun w' hw' => ?_) ?_); rotate_left; (focus (go_simp <;> with_reducible rfl)); simp only [Act.put, List.setIfInBounds_toArray, List.set_cons_zero, List.set_cons_succ])
      refine plan_end ?_
      have hq := hbw.drew
      have d0 : wr.drew.cell? ⟨b, off + k, none⟩ = some (.slice A2 gr.length cap2) := by simpa using ck
      have d1 : wr.drew.cell? ⟨b', off' + k, none⟩ = some (.slice A2' gr.length cap2') := by simpa using ck'
      have e1 := hg.keep good_field ((Kept.refl X wr).drew)
      have e2 := hg'.keep good_field ((Kept.refl Y wr).drew)
      clear hg hg' ck ck' hbw
      generalize wr.drew = W at hq d0 d1 e1 e2 ⊢
      go_wp2_with fail
      clear hne
      go_loopg [6] gr.length (fun G s6 wx => ∃ j : Nat, j ≤ gr.length ∧ G = gr.length - j ∧ s6 = .int .i64 j ∧ Below W.heap.size W wx)
      case atStart => exact ⟨0, Nat.zero_le _, rfl, rfl, Below.refl _ _⟩
      case round =>
        obtain ⟨j, hj, rfl, rfl, hbx⟩ := hrel
        have z0 := (hbx.cell (p := ⟨b, off + k, none⟩) (World.block_lt_of_cell? _ _ d0)).trans d0
        have z1 := (hbx.cell (p := ⟨b', off' + k, none⟩) (World.block_lt_of_cell? _ _ d1)).trans d1
        have hqx := hq.trans (hbx.mono hq.size)
        by_cases hjl : j < gr.length
        · obtain ⟨b2, off2, rfl, _, hc⟩ := (e1.keep good_field (Kept.of_below hbx X)).field (by omega)
          obtain ⟨c0, c1⟩ := hc j hjl
          obtain ⟨b2', off2', rfl, _, hc'⟩ := (e2.keep good_field (Kept.of_below hbx Y)).field (by omega)
          obtain ⟨c0', c1'⟩ := hc' j hjl
          clear hc hc'
          generalize gr[j] = f at c0 c1 c0' c1'
          obtain ⟨fn, fv⟩ := f
          simp only at c0 c1 c0' c1'
          have j1 : (0 : Int) ≤ (j : Int) := by omega
          have j2 : (j : Int) < (gr.length : Int) := by omega
          have q1 := beq_bs fn
          have q2 := beq_bs fv
          go_upto_region 11 with fail
          refine wp_region_plan (fun W => (W.cell? ⟨b, off + k, none⟩ = some (.slice (some ⟨b2, off2, none⟩) gr.length cap2) ∧ W.cell? ⟨b2, off2 + j * 2, none⟩ = some (.string (bs fn)) ∧ W.cell? ⟨b2, off2 + j * 2 + 1, none⟩ = some (.string (bs fv))) ∧ W.cell? ⟨b', off' + k, none⟩ = some (.slice (some ⟨b2', off2', none⟩) gr.length cap2') ∧ W.cell? ⟨b2', off2' + j * 2, none⟩ = some (.string (bs fn)) ∧ W.cell? ⟨b2', off2' + j * 2 + 1, none⟩ = some (.string (bs fv))) [(false, 0), (false, 1), (false, 2), (false, 3), (false, 4), (false, 5), (false, 6), (false, 7), (false, 8), (false, 9), (false, 10), (false, 11), (false, 12), (false, 13), (false, 14)] (by kernel_rfl) (by kernel_rfl) (⟨⟨by simpa using z0, by simpa using c0, by simpa using c1⟩, by simpa using z1, by simpa using c0', by simpa using c1'⟩) ?_
          simp only [planOps, List.map, List.getD_cons_zero, List.getD_cons_succ]
          iterate 15 ((first | refine plan_quiet (v := ?_) rfl rfl (fun w' hw' => ?_) ?_ | refine plan_calm (v := ?_) (tt_of) rfl (fun w' hw' => ?_) ?_); rotate_left; (focus (go_simp <;> with_reducible rfl)); simp only [Act.put, List.setIfInBounds_toArray, List.set_cons_zero, List.set_cons_succ])
          refine plan_end ?_
          go_wp2_with fail
          go_roundg (gr.length - (j + 1))
          case measure => omega
          case rel => exact ⟨j + 1, by omega, rfl, by simp, hbx.drew⟩
        · obtain rfl : j = gr.length := by omega
          go_wp2_with fail
          go_roundg (l.length - (k + 1))
          case measure => omega
          case rel => exact ⟨k + 1, by omega, rfl, by simp, hqx⟩
    · obtain rfl : k = l.length := by omega
      go_wp2_with fail
      go_ret
      exact ⟨rfl, hbw⟩
end Go.Proofs.YthcgomainhaemaaDoor

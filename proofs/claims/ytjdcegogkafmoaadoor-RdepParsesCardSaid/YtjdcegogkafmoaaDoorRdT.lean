/- The walk of the document's Same, at dependencies that read the same. -/
import Derived.Test.YtjdcegogkafmoaaDoorRdR
import Derived.Test.YtjdcegogkafmoaaDoorRdS
import Derived.Test.YtjdcegogkafmoaaDoorPlaF
namespace Go.Proofs.YtjdcegogkafmoaaDoor
open Go.RowKit
def SameK (m : Nat) : Prop := ∀ (d : Rdp) (kv kv' : Value) (X Y : Nat → Prop) (w : World), Sk 5 (Rr m) X w kv d.kids → Sk 5 (Rr m) Y w kv' d.kids →
  Calls Tryd.prog 8 #[richV d kv, richV d kv'] w fun e w' => e = .returned (.bool true) ∧ Below w.heap.size w w'
set_option maxRecDepth 20000 in
set_option maxHeartbeats 16000000 in
theorem rsame_step (m : Nat) (IH : ∀ j, m = j + 1 → SameK j) : SameK m := by
  intro d kv kv' X Y w h h'
  obtain ⟨A, cap, rfl, hc1, hc2⟩ := h.form
  obtain ⟨A', cap', rfl, hc1', hc2'⟩ := h'.form
  obtain ⟨op, name, aop, ver, kids⟩ := d
  simp only [richV, richC, Rdp.op, Rdp.name, Rdp.aop, Rdp.ver, Rdp.kids] at *
  unfold maxLen at hc2 hc2'
  have hne : ((kids.length : Int) != (kids.length : Int)) = false := by simp
  obtain ⟨W1, ga, gb, hW1, hga, hgb, ba, bb, hb1⟩ := two_rich w #[.string (bs op), .string (bs name), .int .i64 aop, .string (bs ver), .slice A kids.length cap] #[.string (bs op), .string (bs name), .int .i64 aop, .string (bs ver), .slice A' kids.length cap']
  have h1 := Below.sk (good_rich m) hb1 h
  have h1' := Below.sk (good_rich m) hb1 h'
  clear h h'
  have HIH := Lib.hid IH
  clear IH
  go_enter Tryd.func8, Tryd.ntmps8
  go_upto_region 1 with fail
  rw [← hW1, ← hgb, ← hga]
  clear hW1 hga hgb
  obtain ⟨a0, a1, a2, a3, a4⟩ := outs5 ba
  obtain ⟨b0, b1, b2, b3, b4⟩ := outs5 bb
  go_upto_region 4 with fail
  clear hne
  go_loopg [5] kids.length (fun G s5 wr => ∃ k : Nat, k ≤ kids.length ∧ G = kids.length - k ∧ s5 = .int .i64 k ∧ Below W1.heap.size W1 wr)
  case atStart => exact ⟨0, Nat.zero_le _, rfl, rfl, Below.refl _ _⟩
  case round =>
    obtain ⟨k, hk, rfl, rfl, hbr⟩ := hrel
    have ba := ba.below hbr ba.lt
    have bb := bb.below hbr bb.lt
    have h1 := Below.sk (good_rich m) hbr h1
    have h1' := Below.sk (good_rich m) hbr h1'
    obtain ⟨a0, a1, a2, a3, a4⟩ := outs5 ba
    obtain ⟨b0, b1, b2, b3, b4⟩ := outs5 bb
    by_cases hlt : k < kids.length
    · obtain ⟨b, off, rfl, _, _, hc⟩ := h1.rich (by omega)
      obtain ⟨j, kv1, hm, c0, c1, c2, c3, c4, hs⟩ := hc k hlt
      obtain ⟨b', off', rfl, _, _, hc'⟩ := h1'.rich (by omega)
      obtain ⟨j', kv1', hm', c0', c1', c2', c3', c4', hs'⟩ := hc' k hlt
      have hj : j' = j := by omega
      subst hj
      have hcal := fun W => HIH.out j' hm kids[k] kv1 kv1' X Y W
      clear hc hc' hm hm' h1 h1'
      generalize kids[k] = d at c0 c1 c2 c3 c4 c0' c1' c2' c3' c4' hs hs' hcal
      obtain ⟨A2, cap2, rfl, _⟩ := hs.form
      obtain ⟨A2', cap2', rfl, _⟩ := hs'.form
      have i1 : (0 : Int) ≤ (k : Int) := by omega
      have i2 : (k : Int) < (kids.length : Int) := by omega
      have d0 := (Below.refl wr.heap.size wr).drew
      have hkp := Kept.of_below d0 nowhere
      go_upto_region 6 with fail
      have hcal := hcal wr.drew (Below.sk (good_rich _) d0 hs) (Below.sk (good_rich _) d0 hs')
      simp only [richV, richC] at hcal
      have KS : ∀ W', Below wr.heap.size wr W' → (fun W : World => W.cell? ⟨ga, 4, none⟩ = some (.slice (some ⟨b, off, none⟩) kids.length cap) ∧ W.cell? ⟨gb, 4, none⟩ = some (.slice (some ⟨b', off', none⟩) kids.length cap') ∧
        W.cell? ⟨b, off + k * 5, none⟩ = some (.string (bs d.op)) ∧ W.cell? ⟨b, off + k * 5 + 1, none⟩ = some (.string (bs d.name)) ∧ W.cell? ⟨b, off + k * 5 + 2, none⟩ = some (.int .i64 d.aop) ∧ W.cell? ⟨b, off + k * 5 + 3, none⟩ = some (.string (bs d.ver)) ∧ W.cell? ⟨b, off + k * 5 + 4, none⟩ = some (.slice A2 d.kids.length cap2) ∧
        W.cell? ⟨b', off' + k * 5, none⟩ = some (.string (bs d.op)) ∧ W.cell? ⟨b', off' + k * 5 + 1, none⟩ = some (.string (bs d.name)) ∧ W.cell? ⟨b', off' + k * 5 + 2, none⟩ = some (.int .i64 d.aop) ∧ W.cell? ⟨b', off' + k * 5 + 3, none⟩ = some (.string (bs d.ver)) ∧ W.cell? ⟨b', off' + k * 5 + 4, none⟩ = some (.slice A2' d.kids.length cap2')) W' := fun W' hb => by
        have q := Kept.of_below hb nowhere
        exact ⟨q.cell a4 fun h => h, q.cell b4 fun h => h, q.cell c0 fun h => h, q.cell c1 fun h => h, q.cell c2 fun h => h, q.cell c3 fun h => h, q.cell c4 fun h => h, q.cell c0' fun h => h, q.cell c1' fun h => h, q.cell c2' fun h => h, q.cell c3' fun h => h, q.cell c4' fun h => h⟩
      refine wp_region_plan (fun W : World => W.cell? ⟨ga, 4, none⟩ = some (.slice (some ⟨b, off, none⟩) kids.length cap) ∧ W.cell? ⟨gb, 4, none⟩ = some (.slice (some ⟨b', off', none⟩) kids.length cap') ∧ W.cell? ⟨b, off + k * 5, none⟩ = some (.string (bs d.op)) ∧ W.cell? ⟨b, off + k * 5 + 1, none⟩ = some (.string (bs d.name)) ∧ W.cell? ⟨b, off + k * 5 + 2, none⟩ = some (.int .i64 d.aop) ∧ W.cell? ⟨b, off + k * 5 + 3, none⟩ = some (.string (bs d.ver)) ∧ W.cell? ⟨b, off + k * 5 + 4, none⟩ = some (.slice A2 d.kids.length cap2) ∧ W.cell? ⟨b', off' + k * 5, none⟩ = some (.string (bs d.op)) ∧ W.cell? ⟨b', off' + k * 5 + 1, none⟩ = some (.string (bs d.name)) ∧ W.cell? ⟨b', off' + k * 5 + 2, none⟩ = some (.int .i64 d.aop) ∧ W.cell? ⟨b', off' + k * 5 + 3, none⟩ = some (.string (bs d.ver)) ∧ W.cell? ⟨b', off' + k * 5 + 4, none⟩ = some (.slice A2' d.kids.length cap2')) [(false, 0), (false, 1), (false, 2), (false, 3), (false, 4), (false, 5), (false, 6), (false, 7), (false, 8), (false, 9), (true, 10), (false, 11)] (by kernel_rfl) (by kernel_rfl) (KS _ d0) ?_
      simp only [planOps, List.map, List.getD_cons_zero, List.getD_cons_succ]
      iterate 10 ((first | refine plan_quiet (v := ?_) rfl rfl (fun w' hw' => ?_) ?_ | refine plan_calm (v := ?_) (tt_of) rfl (fun w' hw' => ?_) ?_); rotate_left; (focus (go_simp <;> (first | with_reducible rfl | (rw [if_neg (by simp [undef])]; try rfl) | omega))); simp only [Act.put, List.setIfInBounds_toArray, List.set_cons_zero, List.set_cons_succ])
      refine plan_loud rfl (fun K hK => ?_)
      go_simp
      refine hcal.mono ?_
      rintro r Z ⟨rfl, hz⟩
      go_simp
      have hz1 := d0.trans (hz.mono d0.size)
      refine hK _ _ (KS _ hz1) ?_
      clear hK K
      (try simp only [Act.put, List.setIfInBounds_toArray, List.set_cons_zero, List.set_cons_succ])
      iterate 1 ((first | refine plan_quiet (v := ?_) rfl rfl (fun w' hw' => ?_) ?_ | refine plan_calm (v := ?_) (tt_of) rfl (fun w' hw' => ?_) ?_); rotate_left; (focus (go_simp <;> (first | with_reducible rfl | (rw [if_neg (by simp [undef])]; try rfl) | omega))); simp only [Act.put, List.setIfInBounds_toArray, List.set_cons_zero, List.set_cons_succ])
      refine plan_end ?_
      have hbZ := hbr.trans (hz1.mono hbr.size)
      clear KS hcal hkp d0 c0 c1 c2 c3 c4 c0' c1' c2' c3' c4' hs hs' a0 a1 a2 a3 a4 b0 b1 b2 b3 b4 ba bb hz hz1
      have wk : IntKind.i64.wrap ((k : Int) + 1) = (k : Int) + 1 := i64_in _ (by omega) (by omega)
      go_wp2_with fail
      go_roundg (kids.length - (k + 1))
      case measure => omega
      case rel => exact ⟨k + 1, by omega, rfl, by simp, hbZ⟩
    · have hlt2 : ¬ (k : Int) < (kids.length : Int) := by omega
      go_wp2_with fail
      go_ret
      exact ⟨rfl, hb1.trans (hbr.mono hb1.size)⟩
theorem rsame_all : ∀ m, SameK m
  | 0 => rsame_step 0 fun j h => by omega
  | m + 1 => rsame_step (m + 1) fun j h => by
    have : j = m := by omega
    subst this
    exact rsame_all j
end Go.Proofs.YtjdcegogkafmoaaDoor

/- The walk of the reader's end. -/
import Derived.Test.YthcgomainhaemaaDoorPaH
import Derived.Test.YthcgomainhaemaaDoorJoi
namespace Go.Proofs.YthcgomainhaemaaDoor
open Go.RowKit
theorem eqlSome (b : Nat) (w : World) : (binOp .eql 56 (.map (some b)) (.map none)).run Tryd.prog w = .ok (.bool false) w := by kernel_rfl
theorem eqlNil (w : World) : (binOp .eql 56 (.map none) (.map none)).run Tryd.prog w = .ok (.bool true) w := by kernel_rfl
set_option maxRecDepth 20000 in
set_option maxHeartbeats 8000000 in
theorem end_any (B rb T : Nat) (s : PSt) (w : World) (h : RS B rb T s w) (hT : T ≤ 1000000000) :
    Calls Tryd.prog 29 #[.pointer (some ⟨rb, 0, none⟩)] w fun e w' => e = .returned (.tuple #[]) ∧ RE B rb T s w' ∧ Below B w w' := by
  obtain ⟨h1, h2, h3, h4⟩ := h
  rcases h4 with ⟨hc, av, lv, ls, hr⟩ | ⟨mb, av, cv, lv, cm, nm, ls, n, m, hr, hls, hlT, hjT, hcur, hI, hn⟩
  · have c1 : w.cell? ⟨rb, 1, none⟩ = some (.map none) := by rw [hr.blk.cell]; rfl
    have q1 := eqlNil
    go_enter Tryd.func29, Tryd.ntmps29
    go_wp2_with fail
    refine bodyPost_ret (results_none rfl _ _ _) rfl ?_
    exact ⟨rfl, ⟨h1, h2, h3, .inl ⟨hc, av, lv, ls, hr⟩⟩, Below.refl _ _⟩
  · obtain ⟨vs, v1, v2, v3⟩ := hr.out
    obtain ⟨ga, capa, hav, hga⟩ := own_slice v2 (by simp)
    obtain ⟨gc, capc, hcv, hgc⟩ := own_slice hr.cur (by simp)
    have hlv := (hr.ln.sl good_text)
    have c0 : w.cell? ⟨rb, 0, none⟩ = some av := by rw [hr.blk.cell]; rfl
    have c1 : w.cell? ⟨rb, 1, none⟩ = some (.map (some mb)) := by rw [hr.blk.cell]; rfl
    have c2 : w.cell? ⟨rb, 2, none⟩ = some lv := by rw [hr.blk.cell]; rfl
    have ca : w.cell? ⟨ga, s.all.length, none⟩ = some cv := by
      obtain ⟨ho, _⟩ := own_val v2
      rw [hav] at ho
      have := ho.cellAt s.all.length (by simp; omega)
      rw [this, ← v1]
      simp
    have hl1 : (vs ++ [cv]).length = s.all.length + 1 := by simp [v1]
    rw [hl1] at hav
    have hl2 : (cm ++ [(nm, ([] : List UInt8))]).length = cm.length + 1 := by simp
    rw [hl2] at hcv
    generalize hps : s.all.length = p at hav ca
    have hp : p ≤ 4096 := by omega
    have hwp : IntKind.i64.wrap (p : Int) = p := i64_in _ (by omega) (by omega)
    have hpl : (p : Int) < (p : Int) + 1 := by omega
    have hp0 : (0 : Int) ≤ (p : Int) := by omega
    have hpn : ((p : Int)).toNat = p := by simp
    subst hav hcv
    have q1 := eqlSome
    go_enter Tryd.func29, Tryd.ntmps29
    go_upto_region 1 with fail
    refine wp_region_plan (fun W => W.cell? ⟨rb, 0, none⟩ = some (.slice (some ⟨ga, 0, none⟩) (p + 1) capa) ∧ W.cell? ⟨ga, p, none⟩ = some (.slice (some ⟨gc, 0, none⟩) (cm.length + 1) capc)) [(false, 0), (false, 1), (false, 2), (false, 3), (false, 4), (false, 5), (false, 6), (false, 7), (false, 8), (false, 9), (false, 10), (false, 11), (false, 12)] (by kernel_rfl) (by kernel_rfl) (⟨by simpa using c0, by simpa using ca⟩) ?_
    simp only [planOps, List.map, List.getD_cons_zero, List.getD_cons_succ]
    iterate 13 ((first | refine plan_quiet (v := ?_) rfl rfl (fun w' hw' => ?_) ?_ | refine plan_calm (v := ?_) (tt_of) rfl (fun w' hw' => ?_) ?_); rotate_left; (focus (go_simp <;> with_reducible rfl)); simp only [Act.put, List.setIfInBounds_toArray, List.set_cons_zero, List.set_cons_succ])
    refine plan_end ?_
    have b0 : Below w.heap.size w w.drew := (Below.refl _ w).drew
    have r0 := hr.below b0
    have hB0 : Below B w w.drew := b0.mono (Nat.le_trans hr.hb (Nat.le_of_lt hr.blk.lt))
    have e2 : w.drew.cell? ⟨rb, 2, none⟩ = some lv := by simpa using c2
    have hlv0 := hlv.keep good_text (Kept.of_below b0 _)
    clear c0 c1 c2 ca b0 hlv v2 v3 hr
    generalize w.drew = W at r0 hB0 e2 hlv0 ⊢
    have hcT : cm.length ≤ 1000000000 := by rw [hcur] at h3; simp at h3; omega
    have hwc : IntKind.i64.wrap (cm.length : Int) = cm.length := i64_in _ (by omega) (by omega)
    have hcl : (cm.length : Int) < (cm.length : Int) + 1 := by omega
    have hc0 : (0 : Int) ≤ (cm.length : Int) := by omega
    clear hwp hpl hp0 hpn
    go_wp2_with fail
    refine (join_any nowhere lv ls [10] _ hlv0 (by omega) (by omega)).mono ?_
    rintro e W2 ⟨rfl, hb2⟩
    have r2 := r0.below hb2
    have hB2 := hB0.trans (hb2.mono (Nat.le_trans r0.hb (Nat.le_of_lt r0.blk.lt)))
    have hval := r2.value (y := Lib.join ls [10]) rfl
    obtain ⟨_, cs, hbc⟩ := r2.cur.typed (g := gc) rfl
    have hfz := hbc.frozen (cm.length * 2 + 1)
    have hcc : ∃ u, W2.cell? ⟨gc, cm.length * 2 + 1, none⟩ = some u := by
      have ho := own_field r2.cur
      have hlen : cm.length * 2 + 1 < (fcells (cm ++ [(nm, ([] : List UInt8))])).length := by rw [fcells_len, List.length_append, List.length_singleton]; omega
      rw [hl2] at ho
      have := ho.cellAt (cm.length * 2 + 1) (by omega)
      rw [this]
      exact ⟨_, List.getElem?_eq_getElem hlen⟩
    obtain ⟨u, hcc⟩ := hcc
    go_wp2_with fail
    go_end0
    have hv := hval.1
    rw [← hcur] at hv
    refine ⟨rfl, ⟨by omega, by omega, h3, Or.inr ?_⟩, hB2.trans hval.2⟩
    exact ⟨mb, _, _, lv, ls, n, m, hv, by rw [hcur]; simp, hI, hn⟩
end Go.Proofs.YthcgomainhaemaaDoor

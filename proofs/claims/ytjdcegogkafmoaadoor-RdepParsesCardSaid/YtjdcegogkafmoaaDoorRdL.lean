/- Walks of drayageref15's State: skip, look. -/
import Derived.Test.YtjdcegogkafmoaaDoorRdK
namespace Go.Proofs.YtjdcegogkafmoaaDoor
open Go.RowKit
set_option maxRecDepth 20000 in
set_option maxHeartbeats 8000000 in
theorem rskip_any (gx : Nat) (s : List UInt8) (p n : Nat) (fa fc : Int) (W : World) (hp : p ≤ s.length) (hs : s.length ≤ 900000) (hB : Blk W gx 52 #[.string (bs s), .int .i64 (p : Int), .string ⟨#[]⟩, .int .i64 fa, .int .i64 fc, .int .i64 (n : Int)]) :
    Calls Tryd.prog 32 #[.pointer (some ⟨gx, 0, none⟩)] W fun e w' => e = .returned (.tuple #[]) ∧ ∃ q, q ≤ s.length ∧ tkR s p = tkR s q ∧ (∀ h : q < s.length, s[q] ≠ 32) ∧ Blk w' gx 52 #[.string (bs s), .int .i64 (q : Int), .string ⟨#[]⟩, .int .i64 fa, .int .i64 fc, .int .i64 (n : Int)] ∧ Kept (fun k => k = gx) W w' := by
  have hsz : ((bs s).size : Int) = (s.length : Int) := by rw [bs_size]
  go_enter Tryd.func32, Tryd.ntmps32
  go_upto_block 0 with fail
  go_wp2_with fail
  go_loopg [] (s.length - p) (fun G wr => ∃ q : Nat, q ≤ s.length ∧ G = s.length - q ∧ Hid (tkR s p = tkR s q) ∧ Blk wr gx 52 #[.string (bs s), .int .i64 (q : Int), .string ⟨#[]⟩, .int .i64 fa, .int .i64 fc, .int .i64 (n : Int)] ∧ Kept (fun k => k = gx) W wr)
  case atStart => exact ⟨p, hp, rfl, Lib.hid rfl, hB, Kept.refl _ _⟩
  case round =>
    clear hB hp
    obtain ⟨q, hq, rfl, HE, hB, hk⟩ := hrel
    have z0 := hB.cell 0
    have z1 := hB.cell 1
    have f1 := hB.frozen 1
    simp at z0 z1
    have kd : Blk wr.drew gx 52 #[.string (bs s), .int .i64 (q : Int), .string ⟨#[]⟩, .int .i64 fa, .int .i64 fc, .int .i64 (n : Int)] := hB
    by_cases hlt : q < s.length
    · have hks : (q : Int) < ((bs s).size : Int) := by omega
      have hks2 : q < (bs s).size := by rw [bs_size]; exact hlt
      have hlt' : decide ((q : Int) < (s.length : Int)) = true := by simp; exact hlt
      have HST := Lib.hid (tkR_at s q hlt)
      have HNX : Hid (∀ h : q < s.length, s[q] = s[q]'hlt) := Lib.hid fun _ => rfl
      obtain ⟨d, hd0⟩ : ∃ d, d = s[q]'hlt := ⟨_, rfl⟩
      have hbb : (bs s)[q]'hks2 = d := hd0.symm
      have HD := Lib.hid hd0
      obtain ⟨q32, _⟩ := byteL d 32 32 rfl
      clear hd0
      by_cases e32 : d = 32
      · rw [decide_eq_true e32] at q32
        have HV : Hid (tkR s p = tkR s (q + 1)) := Lib.hid (by rw [HE.out, HST.out, if_pos (by rw [← HD.out]; exact e32)])
        have w1 : IntKind.i64.wrap ((q : Int) + 1) = (q : Int) + 1 := i64_in _ (by omega) (by omega)
        clear HST e32 HE
        go_upto_region 0 with fail
        refine wp_region_plan (fun W => W.cell? ⟨gx, 0, none⟩ = some (.string (bs s)) ∧ W.cell? ⟨gx, 1, none⟩ = some (.int .i64 (q : Int))) [(false, 0), (false, 1), (false, 2), (false, 3), (false, 4), (false, 5), (false, 6), (false, 7), (false, 8), (false, 9), (false, 10), (false, 11), (false, 12), (false, 13), (false, 14), (false, 15), (false, 16), (false, 17), (false, 18), (false, 19), (false, 20), (false, 21)] (by kernel_rfl) (by kernel_rfl) (⟨z0, z1⟩) ?_
        simp only [planOps, List.map, List.getD_cons_zero, List.getD_cons_succ]
        iterate 22 ((first | refine plan_quiet_guarded (v := ?_) rfl (fun w' hw' => ?_) ?_ | refine plan_calm_guarded (v := ?_) (tt_of) (fun w' hw' => ?_) ?_); rotate_left; (focus (go_simp <;> (first | with_reducible rfl | (rw [if_neg (by simp [undef])]; try rfl) | omega))); simp only [Act.put, List.setIfInBounds_toArray, List.set_cons_zero, List.set_cons_succ])
        refine plan_end ?_
        have z1d := kd.cell 1
        have f1d := kd.frozen 1
        simp at z1d
        go_wp2_with fail
        have b1 : Blk (wr.drew.setCell ⟨gx, 1, none⟩ (.int .i64 ((q : Int) + 1))) gx 52 #[.string (bs s), .int .i64 ((q + 1 : Nat) : Int), .string ⟨#[]⟩, .int .i64 fa, .int .i64 fc, .int .i64 (n : Int)] := by
          have := kd.set (u := .int .i64 ((q : Int) + 1)) 1
          simpa using this
        have k1 : Kept (fun k => k = gx) W (wr.drew.setCell ⟨gx, 1, none⟩ (.int .i64 ((q : Int) + 1))) := (hk.drew).setCell (p := ⟨gx, 1, none⟩) _ fun _ => rfl
        go_roundg (s.length - (q + 1))
        case measure => omega
        case rel => first
          | exact ⟨q + 1, by omega, rfl, HV, b1, k1⟩
          | exact ⟨q + 1, by omega, rfl, HV, (by simpa using b1), (by simpa using k1)⟩
      · rw [decide_eq_false e32] at q32
        have hne : ∀ h : q < s.length, s[q] ≠ 32 := fun h e => e32 (by rw [HD.out]; exact e)
        have HNE := Lib.hid hne
        clear HST e32 hne
        go_upto_region 0 with fail
        refine wp_region_plan (fun W => W.cell? ⟨gx, 0, none⟩ = some (.string (bs s)) ∧ W.cell? ⟨gx, 1, none⟩ = some (.int .i64 (q : Int))) [(false, 0), (false, 1), (false, 2), (false, 3), (false, 4), (false, 5), (false, 6), (false, 7), (false, 8), (false, 9), (false, 10), (false, 11), (false, 12), (false, 13), (false, 14), (false, 15), (false, 16), (false, 17), (false, 18), (false, 19), (false, 20), (false, 21)] (by kernel_rfl) (by kernel_rfl) (⟨z0, z1⟩) ?_
        simp only [planOps, List.map, List.getD_cons_zero, List.getD_cons_succ]
        iterate 22 ((first | refine plan_quiet_guarded (v := ?_) rfl (fun w' hw' => ?_) ?_ | refine plan_calm_guarded (v := ?_) (tt_of) (fun w' hw' => ?_) ?_); rotate_left; (focus (go_simp <;> (first | with_reducible rfl | (rw [if_neg (by simp [undef])]; try rfl) | omega))); simp only [Act.put, List.setIfInBounds_toArray, List.set_cons_zero, List.set_cons_succ])
        refine plan_end ?_
        go_wp2_with fail
        refine bodyPost_end (v := .tuple #[]) ?_ ?_ ?_
        · simp [results, Tryd.results32, go_sem]
        · rfl
        · exact ⟨rfl, q, hq, HE.out, HNE.out, kd, hk.drew⟩
    · have hlt' : decide ((q : Int) < (s.length : Int)) = false := by simp; omega
      have HNE := Lib.hid (show ∀ h : q < s.length, s[q] ≠ 32 from fun h => absurd h hlt)
      go_upto_region 0 with fail
      refine wp_region_plan (fun W => W.cell? ⟨gx, 0, none⟩ = some (.string (bs s)) ∧ W.cell? ⟨gx, 1, none⟩ = some (.int .i64 (q : Int))) [(false, 0), (false, 1), (false, 2), (false, 3), (false, 4), (false, 5), (false, 6), (false, 7), (false, 8), (false, 9), (false, 10), (false, 11), (false, 12), (false, 13), (false, 14), (false, 15), (false, 16), (false, 17), (false, 18), (false, 19), (false, 20), (false, 21)] (by kernel_rfl) (by kernel_rfl) (⟨z0, z1⟩) ?_
      simp only [planOps, List.map, List.getD_cons_zero, List.getD_cons_succ]
      iterate 22 ((first | refine plan_quiet_guarded (v := ?_) rfl (fun w' hw' => ?_) ?_ | refine plan_calm_guarded (v := ?_) (tt_of) (fun w' hw' => ?_) ?_); rotate_left; (focus (go_simp <;> (first | with_reducible rfl | (rw [if_neg (by simp [undef])]; try rfl) | omega))); simp only [Act.put, List.setIfInBounds_toArray, List.set_cons_zero, List.set_cons_succ])
      refine plan_end ?_
      go_wp2_with fail
      refine bodyPost_end (v := .tuple #[]) ?_ ?_ ?_
      · simp [results, Tryd.results32, go_sem]
      · rfl
      · exact ⟨rfl, q, hq, HE.out, HNE.out, kd, hk.drew⟩
end Go.Proofs.YtjdcegogkafmoaaDoor

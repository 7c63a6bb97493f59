/- ar's awake. -/
import Derived.Test.YtolknddegfcmpaaDoorArV
namespace Go.Proofs.YtolknddegfcmpaaDoor
open Go.RowKit
theorem awA_len : awA.length = 70 := by decide +kernel
theorem awA_h : subA awA 8 60 = awH := by decide +kernel
theorem awA_d : subA awA 68 1 = [120] := by decide +kernel
theorem awA_p : awA.take 8 = markA := by decide +kernel
theorem awA_69 : awA[69]'(by decide +kernel) = 10 := by decide +kernel
set_option maxRecDepth 20000 in
set_option maxHeartbeats 8000000 in
theorem prefix_aw (W : World) (b off cap g : Nat) (hb : Sl 1 Rbyte nowhere W (.slice (some ⟨b, off, none⟩) 70 cap) awA) (hg : Sl 1 Rbyte nowhere W (.slice (some ⟨g, 0, none⟩) 8 8) markA) :
    Calls Tryd.prog 59 #[.slice (some ⟨b, off, none⟩) 70 cap, .slice (some ⟨g, 0, none⟩) 8 8] W fun e w' => e = .returned (.bool true) ∧ W = w' := by
  have ht := Sl.take hb 8 (by rw [awA_len]; omega)
  rw [awA_p] at ht
  have s1 := str8 ht.sb8
  have s2 := str8 hg.sb8
  have hcc : 70 ≤ cap ∧ cap ≤ maxLen := by
    obtain ⟨_, _, hv, hc1, hc2, _⟩ := hb
    injection hv with _ _ e3
    subst e3
    rw [awA_len] at hc1
    exact ⟨hc1, hc2⟩
  obtain ⟨hc1, hc2⟩ := hcc
  unfold maxLen at hc2
  clear hb
  obtain ⟨m, HM⟩ : ∃ m, Hid ((⟨markA.toArray⟩ : ByteArray) = m) := ⟨_, Lib.hid rfl⟩
  rw [HM.out] at s1 s2
  have he : Calls Tryd.prog 87 #[.slice (some ⟨b, off, none⟩) 8 cap, .slice (some ⟨g, 0, none⟩) 8 8] W fun e w' => e = .returned (.bool true) ∧ W = w' := by
    go_enter Tryd.func87, Tryd.ntmps87
    go_wp2_with fail
    go_ret
    exact ⟨by simp, rfl⟩
  clear s1 s2 ht hg
  go_enter Tryd.func59, Tryd.ntmps59
  go_wp2_with (go_at_call 87; refine he.mono ?_; rintro r W2 ⟨rfl, rfl⟩)
  go_ret
  exact ⟨rfl, rfl⟩
set_option maxRecDepth 20000 in
set_option maxHeartbeats 8000000 in
theorem member_aw (gr b off cap : Nat) (W : World) (hb : Sl 1 Rbyte nowhere W (.slice (some ⟨b, off, none⟩) 70 cap) awA) (hB : Blk W gr 108 #[.slice (some ⟨b, off, none⟩) 70 cap, .slice none 0 0, .slice none 0 0, .bool false]) :
    Calls Tryd.prog 60 #[.pointer (some ⟨gr, 0, none⟩), .int .i64 8] W fun e w' => e = .returned (.tuple #[.int .i64 70, .int .i64 0]) ∧ ∃ gi ci, Blk w' gr 108 #[.slice (some ⟨b, off, none⟩) 70 cap, .slice (some ⟨gi, 0, none⟩) 1 ci, .slice none 0 0, .bool false] ∧ w'.cell? ⟨gi, 0, none⟩ = some (.string ⟨#[97]⟩) ∧ w'.cell? ⟨gi, 4, none⟩ = some (.int .i64 64) ∧ Kept (fun k => k = gr) W w' := by
  have x0 := aw_x0
  have x5 := aw_x5
  have x6 := aw_x6
  have xs := aw_sz
  have hn5 := fun W => number_at awF5 [49] 1 W (by decide +kernel) (by decide) (by decide) (by decide +kernel) (by decide +kernel)
  have ht := aw_t0
  have hu8 : (Tryd.prog.info? 5).map (·.size) = some 1 := by kernel_rfl
  obtain ⟨A1, cap1, hsc1, hsb1⟩ := sl_pieceA (P := Tryd.prog) hb 26 5 Tryd.underlying26 hu8 8 68 (by omega) (by omega)
  obtain ⟨A2, cap2, hsc2, hsb2⟩ := sl_pieceA (P := Tryd.prog) hb 26 5 Tryd.underlying26 hu8 68 69 (by omega) (by omega)
  have hs1 : ∀ W : World, (Instr.slice 26 (.slice (some ⟨b, off, none⟩) 70 cap) (some (.int .i64 8)) (some (.int .i64 68)) none).run Tryd.prog W = .ok (.slice A1 60 cap1) W := hsc1
  have hs2 : ∀ W : World, (Instr.slice 26 (.slice (some ⟨b, off, none⟩) 70 cap) (some (.int .i64 68)) (some (.int .i64 69)) none).run Tryd.prog W = .ok (.slice A2 1 cap2) W := hsc2
  have hst1 : (convert 26 9 (.slice A1 60 cap1)).run Tryd.prog W = .ok (.string (bs awH)) W := by
    have := str8 hsb1.sb8
    rw [awA_h] at this
    exact this
  have hd : Sl 1 Rbyte nowhere W (.slice A2 1 cap2) [120] := by
    have := hsb2
    rw [show subA awA 68 (69 - 68) = [120] from awA_d] at this
    exact this
  have hi := item_aw gr (.slice (some ⟨b, off, none⟩) 70 cap) W hB A2 cap2 hd
  have h69 : W.cell? ⟨b, off + 69, none⟩ = some (.int .u8 10) := by
    obtain ⟨_, _, _, _, hc⟩ := hb.sb8.cells
    obtain ⟨b', off', e, hcell⟩ := hc (by omega)
    injection e with e
    injection e with e1 e2
    subst e1 e2
    have := hcell 69 (by rw [awA_len]; omega)
    rw [awA_69] at this
    exact this
  have r0 := hB.cell 0
  have r1 := hB.cell 1
  simp at r0 r1
  clear hsc1 hsc2 hsb1 hsb2 hd hb hu8
  have tn : ((⟨#[97]⟩ : ByteArray).toList == [47, 47]) = false := by decide +kernel
  go_enter Tryd.func60, Tryd.ntmps60
  go_wp2_with (first
    | (go_at_call 88; refine (hn5 _).mono ?_; rintro r W1 ⟨rfl, rfl⟩)
    | (go_at_call 89; refine (ht _).mono ?_; rintro r W1 ⟨rfl, rfl⟩)
    | (go_at_call 90; refine hi.mono ?_; rintro r W2 ⟨rfl, gi, ci, bR2, e0, e4, hk2⟩))
  go_ret2
  exact ⟨rfl, gi, ci, bR2, e0, e4, hk2⟩
end Go.Proofs.YtolknddegfcmpaaDoor

/- The walk of the law on the limits of entries. -/
import Derived.Test.YtjhikglgaoncjaaDoorEnW
import Derived.Test.YtjhikglgaoncjaaDoorEoA
import Derived.Test.YtjhikglgaoncjaaDoorEoC
namespace Go.Proofs.YtjhikglgaoncjaaDoor
open Go.RowKit
theorem sl_made (w : World) (n : Nat) (hn : n ≤ maxLen) : Sl 1 Rbyte nowhere (w.alloc (.cells (madeCells #[.int .u8 0] n) 5)) (.slice (some ⟨w.heap.size, 0, none⟩) n n) (List.replicate n 0) := by
  have ho : (w.alloc (.cells (madeCells #[.int .u8 0] n) 5)).ownsRow w.heap.size 5 1 (.slice (some ⟨w.heap.size, 0, none⟩) n n) n (bvs (List.replicate n 0)) := by
    have := own_lit w (List.replicate n 0) (madeCells #[.int .u8 0] n) 5 (Nat.le_refl _) (bvs_replicate' n) (by rw [List.length_replicate]; exact hn)
    rwa [List.length_replicate] at this
  have hO : OwnL 1 Rbyte 5 w.heap.size nowhere (w.alloc (.cells (madeCells #[.int .u8 0] n) 5)) (.slice (some ⟨w.heap.size, 0, none⟩) n n) (List.replicate n 0) := by
    refine ⟨(List.replicate n (0 : UInt8)).map fun b => [.int .u8 (b.toNat : Int)], ?_, by simp, fun _ _ h => h, fun j h h' => by simp [Rbyte]⟩
    have e : ((List.replicate n (0 : UInt8)).map fun b => [Value.int .u8 (b.toNat : Int)]).flatten = bvs (List.replicate n 0) := by
      generalize List.replicate n (0 : UInt8) = l
      induction l with
      | nil => rfl
      | cons c t ih => rw [List.map_cons, List.flatten_cons, ih]; rfl
    rw [e, List.length_replicate]; exact ho
  exact hO.sl good_byte
theorem byte_of (n : Nat) (h : n < 256) : ((UInt8.ofNat n).toNat : Int) = (n : Int) := by
  rw [UInt8.toNat_ofNat']; omega
theorem mkL_lb (n : Nat) (h : n ≤ 1000000) : LB (mkL n) := by
  refine ⟨by rw [mkL_len]; exact h, fun e he => ?_⟩
  obtain ⟨i, _, rfl⟩ := List.mem_map.1 he
  exact ⟨by simp [mkE, b3], by simp [mkE], by simp [mkE], by simp [mkE]⟩
def limE (n : Nat) : En := ⟨[97], 1, 0, 0, 0, [], [], 0, [], List.replicate n 0⟩
theorem limE_chk (n : Nat) : chkE (limE n) = if 1048576 < n then 4 else 0 := by
  simp only [chkE, limE]
  have e : pathOk [97] = true := by decide
  simp [e, numBad, ownOk]
set_option maxRecDepth 20000 in
set_option maxHeartbeats 16000000 in
theorem law_limits (n : Int) (w : World) (hn0 : -9223372036854775808 ≤ n ∧ n ≤ 9223372036854775807) :
    Calls Tryd.prog 4 #[.int .i64 n] w fun e w' => e = .returned (.bool true) ∧ Below w.heap.size w w' := by
  obtain ⟨i0, hi, hz0, hz1, hz2⟩ := info_parts u8info
  go_enter Tryd.func4, Tryd.ntmps4
  go_wp2_with fail
  refine (awakeE _).mono ?_
  rintro e w1 ⟨rfl, hb1⟩
  by_cases hlo : n < -2
  · have hd : decide (n < (-2 : Int)) = true := by simpa using hlo
    go_wp2_with fail
    go_ret
    exact ⟨rfl, hb1⟩
  · have hd : decide (n < (-2 : Int)) = false := by simpa using hlo
    by_cases hhi : 2 < n
    · have hd2 : decide ((2 : Int) < n) = true := by simpa using hhi
      go_wp2_with fail
      go_ret
      exact ⟨rfl, hb1⟩
    · have hd2 : decide ((2 : Int) < n) = false := by simpa using hhi
      go_upto_region 5 with fail
      have hw1 : IntKind.i64.wrap (1048576 + n) = 1048576 + n := i64_in _ (by omega) (by omega)
      obtain ⟨M, hM⟩ : ∃ M : Nat, 1048576 + n = (M : Int) := ⟨(1048576 + n).toNat, by omega⟩
      rw [hM] at hw1
      have hmk := fun W => run_makeSlice (P := Tryd.prog) (w := W) 22 5 i0 (.int .u8 0) Tryd.underlying22 hi hz0 .i64 .i64 (M : Int) (M : Int) (by omega) (by omega) (by rw [hz1]; omega) (by rw [hz2]; omega) (by omega)
      rw [hz1] at hmk
      simp only [Int.toNat_natCast] at hmk
      have hM' : M ≤ maxLen := by unfold maxLen; omega
      have hsd := sl_made w1 M hM'
      have hq : Below w1.heap.size w1 (w1.alloc (.cells (madeCells #[.int .u8 0] M) 5)) := (Below.refl _ _).alloc (Nat.le_refl _) _
      go_upto_region 7 with fail
      have hq2 := hq.alloc (by simp) (.cells #[.string ⟨#[97]⟩, .int .i64 1, .int .i64 0, .int .i64 0, .int .i64 0, .string ⟨#[]⟩, .string ⟨#[]⟩, .int .i64 0, .string ⟨#[]⟩, .slice (some ⟨w1.heap.size, 0, none⟩) M M] tE)
      have bE := Blk.new (w1.alloc (.cells (madeCells #[.int .u8 0] M) 5)) tE #[.string ⟨#[97]⟩, .int .i64 1, .int .i64 0, .int .i64 0, .int .i64 0, .string ⟨#[]⟩, .string ⟨#[]⟩, .int .i64 0, .string ⟨#[]⟩, .slice (some ⟨w1.heap.size, 0, none⟩) M M]
      rw [show (w1.alloc (.cells (madeCells #[.int .u8 0] M) 5)).heap.size = w1.heap.size + 1 by simp] at bE
      have hsd2 := Below.sl good_byte ((Below.refl _ _).alloc (Nat.le_refl _) (.cells #[.string ⟨#[97]⟩, .int .i64 1, .int .i64 0, .int .i64 0, .int .i64 0, .string ⟨#[]⟩, .string ⟨#[]⟩, .int .i64 0, .string ⟨#[]⟩, .slice (some ⟨w1.heap.size, 0, none⟩) M M] tE)) hsd
      have q2 := below_trans hb1 hq2
      clear hq hq2 hsd hmk hw1 hb1
      generalize (w1.alloc (.cells (madeCells #[.int .u8 0] M) 5)).alloc _ = W2 at bE hsd2 q2 ⊢
      generalize hgg : w1.heap.size + 1 = g at bE ⊢
      have d0 := bE.cell 0
      have d1 := bE.cell 1
      have d2 := bE.cell 2
      have d3 := bE.cell 3
      have d4 := bE.cell 4
      have d5 := bE.cell 5
      have d6 := bE.cell 6
      have d7 := bE.cell 7
      have d8 := bE.cell 8
      have d9 := bE.cell 9
      simp at d0 d1 d2 d3 d4 d5 d6 d7 d8 d9
      by_cases hp : 0 < n
      · have hd3 : decide (0 < n) = true := by simpa using hp
        have hc1 : (if 1048576 < M then (4 : Int) else 0) = 4 := if_pos (by omega)
        have hN : 4096 < (4096 + n).toNat := by omega
        go_wp2_with fail
        refine (pechk_any (limE M) _ nowhere _ hsd2 ⟨by simp [limE], by simp [limE], by simp [limE], by simp [limE]⟩).mono ?_
        rw [limE_chk, hc1]
        rintro e w3 ⟨rfl, hb3⟩
        have q3 := below_trans q2 hb3
        clear bE hsd2 hb3 q2
        clear d0 d1 d2 d3 d4 d5 d6 d7 d8 d9
        obtain ⟨N, hN0⟩ : ∃ N : Nat, 4096 + n = (N : Int) := ⟨(4096 + n).toNat, by omega⟩
        have hw2 : IntKind.i64.wrap (4096 + n) = (N : Int) := by rw [i64_in _ (by omega) (by omega)]; exact hN0
        go_upto_region 12 with fail
        go_wp2_with fail
        go_loopg [5, 6] N (fun G s5 s6 wr => ∃ k : Nat, k ≤ N ∧ G = N - k ∧ s6 = .int .i64 k ∧ Below w.heap.size w wr ∧ ∃ f, EO w.heap.size wr s5 (mkL k) f)
        case atStart => exact ⟨0, Nat.zero_le _, rfl, rfl, q3, fun _ => .slice none 0 0, ⟨World.ownsRow_nil _ _ _ _, fun j h => by simp [mkL] at h⟩⟩
        case round =>
          clear q3
          obtain ⟨k, hk, rfl, rfl, hbw, f, hown⟩ := hrel
          by_cases hlt : k < N
          · obtain ⟨A5, cap5, rfl⟩ := own_form hown.row
            have i1 : (k : Int) < (N : Int) := by omega
            have hmr := mkL_len k
            have y0 : 97 + (k : Int) % 16 = ((UInt8.ofNat (97 + k % 16)).toNat : Int) := by rw [byte_of (97 + k % 16) (by omega)]; omega
            have y1 : 97 + (k : Int) / 16 % 16 = ((UInt8.ofNat (97 + k / 16 % 16)).toNat : Int) := by rw [byte_of (97 + k / 16 % 16) (by omega)]; omega
            have y2 : 97 + (k : Int) / 256 = ((UInt8.ofNat (97 + k / 256)).toNat : Int) := by rw [byte_of (97 + k / 256) (by omega)]; omega
            have hsb : SB (wr.alloc (.cells #[.int .u8 (97 + (k : Int) % 16), .int .u8 (97 + (k : Int) / 16 % 16), .int .u8 (97 + (k : Int) / 256)] 5)) (.slice (some ⟨wr.heap.size, 0, none⟩) 3 3) (b3 k) :=
              SB.made wr (b3 k) _ _ (by rw [y0, y1, y2]; rfl) (by simp [b3, maxLen])
            have hcv := str8 hsb
            have ha := (Below.refl wr.heap.size wr).alloc (Nat.le_refl _) (.cells #[.int .u8 (97 + (k : Int) % 16), .int .u8 (97 + (k : Int) / 16 % 16), .int .u8 (97 + (k : Int) / 256)] 5)
            have hown2 := hown.below ha
            have hsz := hbw.size
            have hsA : (wr.alloc (.cells #[.int .u8 (97 + (k : Int) % 16), .int .u8 (97 + (k : Int) / 16 % 16), .int .u8 (97 + (k : Int) / 256)] 5)).heap.size = wr.heap.size + 1 := by simp
            clear y0 y1 y2 hsb
            go_wp2_with (at_builtin; revert hmr)
            intro hmr
            have bL := Blk.new (wr.alloc (.cells #[.int .u8 (97 + (k : Int) % 16), .int .u8 (97 + (k : Int) / 16 % 16), .int .u8 (97 + (k : Int) / 256)] 5)) tE (ofC [mkE k] (fun _ => .slice none 0 0)).toArray
            have ha2 : Below (wr.alloc (.cells #[.int .u8 (97 + (k : Int) % 16), .int .u8 (97 + (k : Int) / 16 % 16), .int .u8 (97 + (k : Int) / 256)] 5)).heap.size (wr.alloc (.cells #[.int .u8 (97 + (k : Int) % 16), .int .u8 (97 + (k : Int) / 16 % 16), .int .u8 (97 + (k : Int) / 256)] 5)) ((wr.alloc (.cells #[.int .u8 (97 + (k : Int) % 16), .int .u8 (97 + (k : Int) / 16 % 16), .int .u8 (97 + (k : Int) / 256)] 5)).alloc (.cells (ofC [mkE k] (fun _ => .slice none 0 0)).toArray tE)) := (Below.refl _ _).alloc (Nat.le_refl _) _
            have hown3 := hown2.below ha2
            have q3 := below_trans (below_trans hbw ha) ha2
            rw [hsA] at bL
            have hkN : k ≤ 4098 := by omega
            refine wpList_appendEO (w := (wr.alloc (.cells #[.int .u8 (97 + (k : Int) % 16), .int .u8 (97 + (k : Int) / 16 % 16), .int .u8 (97 + (k : Int) / 256)] 5)).alloc (.cells (ofC [mkE k] (fun _ => .slice none 0 0)).toArray tE)) (B := w.heap.size) (M := [mkE k]) (g := fun _ => .slice none 0 0) (A := some ⟨wr.heap.size + 1, 0, none⟩) (c := 1) rfl _ _ rfl rfl hown3 rfl (fun h => by cases h) (fun _ => ⟨_, rfl, fun j u hu => ?_⟩) (fun j hj => ?_) (by rw [mkL_len]; simp; omega) q3.size ?_
            · rw [Addr.add_lit, bL.cell, Nat.zero_add]
              simpa using hu
            · match j, hj with
              | 0, _ => exact Sl.nil _ _ _ _
            intro v5 w5 h5 hk5 _
            have q5 := q3.trans (hk5.below q3.size fun b _ hb => (hown3.row.lt b hb).1)
            have h6 : EO w.heap.size w5 v5 (mkL (k + 1)) (appF f (mkL k).length fun _ => .slice none 0 0) := by rw [mkL_succ]; exact h5
            clear hk5 h5 hown3 hown2 hown ha ha2 bL hcv q3
            go_wp2_with fail
            go_roundg (N - (k + 1))
            case measure => omega
            case rel => exact ⟨k + 1, by omega, rfl, by simp, q5, _, h6⟩
          · have hkN : k = N := by omega
            subst hkN
            obtain ⟨A5, cap5, rfl⟩ := own_form hown.row
            have hsl := hown.sl
            clear hown
            go_wp2_with fail
            refine (pchkall_any (mkL k) _ nowhere _ hsl (mkL_lb k (by omega))).mono ?_
            rw [mkL_chk, if_pos (by omega)]
            rintro e w4 ⟨rfl, hb4⟩
            have q4 := below_trans hbw hb4
            clear hsl hb4
            go_wp2_with fail
            go_ret
            exact ⟨rfl, q4⟩
      · have hd3 : decide (0 < n) = false := by simpa using hp
        have hc1 : (if 1048576 < M then (4 : Int) else 0) = 0 := if_neg (by omega)
        have hN : ¬ 4096 < (4096 + n).toNat := by omega
        go_wp2_with fail
        refine (pechk_any (limE M) _ nowhere _ hsd2 ⟨by simp [limE], by simp [limE], by simp [limE], by simp [limE]⟩).mono ?_
        rw [limE_chk, hc1]
        rintro e w3 ⟨rfl, hb3⟩
        have q3 := below_trans q2 hb3
        clear bE hsd2 hb3 q2
        clear d0 d1 d2 d3 d4 d5 d6 d7 d8 d9
        obtain ⟨N, hN0⟩ : ∃ N : Nat, 4096 + n = (N : Int) := ⟨(4096 + n).toNat, by omega⟩
        have hw2 : IntKind.i64.wrap (4096 + n) = (N : Int) := by rw [i64_in _ (by omega) (by omega)]; exact hN0
        go_upto_region 12 with fail
        go_wp2_with fail
        go_loopg [5, 6] N (fun G s5 s6 wr => ∃ k : Nat, k ≤ N ∧ G = N - k ∧ s6 = .int .i64 k ∧ Below w.heap.size w wr ∧ ∃ f, EO w.heap.size wr s5 (mkL k) f)
        case atStart => exact ⟨0, Nat.zero_le _, rfl, rfl, q3, fun _ => .slice none 0 0, ⟨World.ownsRow_nil _ _ _ _, fun j h => by simp [mkL] at h⟩⟩
        case round =>
          clear q3
          obtain ⟨k, hk, rfl, rfl, hbw, f, hown⟩ := hrel
          by_cases hlt : k < N
          · obtain ⟨A5, cap5, rfl⟩ := own_form hown.row
            have i1 : (k : Int) < (N : Int) := by omega
            have hmr := mkL_len k
            have y0 : 97 + (k : Int) % 16 = ((UInt8.ofNat (97 + k % 16)).toNat : Int) := by rw [byte_of (97 + k % 16) (by omega)]; omega
            have y1 : 97 + (k : Int) / 16 % 16 = ((UInt8.ofNat (97 + k / 16 % 16)).toNat : Int) := by rw [byte_of (97 + k / 16 % 16) (by omega)]; omega
            have y2 : 97 + (k : Int) / 256 = ((UInt8.ofNat (97 + k / 256)).toNat : Int) := by rw [byte_of (97 + k / 256) (by omega)]; omega
            have hsb : SB (wr.alloc (.cells #[.int .u8 (97 + (k : Int) % 16), .int .u8 (97 + (k : Int) / 16 % 16), .int .u8 (97 + (k : Int) / 256)] 5)) (.slice (some ⟨wr.heap.size, 0, none⟩) 3 3) (b3 k) :=
              SB.made wr (b3 k) _ _ (by rw [y0, y1, y2]; rfl) (by simp [b3, maxLen])
            have hcv := str8 hsb
            have ha := (Below.refl wr.heap.size wr).alloc (Nat.le_refl _) (.cells #[.int .u8 (97 + (k : Int) % 16), .int .u8 (97 + (k : Int) / 16 % 16), .int .u8 (97 + (k : Int) / 256)] 5)
            have hown2 := hown.below ha
            have hsz := hbw.size
            have hsA : (wr.alloc (.cells #[.int .u8 (97 + (k : Int) % 16), .int .u8 (97 + (k : Int) / 16 % 16), .int .u8 (97 + (k : Int) / 256)] 5)).heap.size = wr.heap.size + 1 := by simp
            clear y0 y1 y2 hsb
            go_wp2_with (at_builtin; revert hmr)
            intro hmr
            have bL := Blk.new (wr.alloc (.cells #[.int .u8 (97 + (k : Int) % 16), .int .u8 (97 + (k : Int) / 16 % 16), .int .u8 (97 + (k : Int) / 256)] 5)) tE (ofC [mkE k] (fun _ => .slice none 0 0)).toArray
            have ha2 : Below (wr.alloc (.cells #[.int .u8 (97 + (k : Int) % 16), .int .u8 (97 + (k : Int) / 16 % 16), .int .u8 (97 + (k : Int) / 256)] 5)).heap.size (wr.alloc (.cells #[.int .u8 (97 + (k : Int) % 16), .int .u8 (97 + (k : Int) / 16 % 16), .int .u8 (97 + (k : Int) / 256)] 5)) ((wr.alloc (.cells #[.int .u8 (97 + (k : Int) % 16), .int .u8 (97 + (k : Int) / 16 % 16), .int .u8 (97 + (k : Int) / 256)] 5)).alloc (.cells (ofC [mkE k] (fun _ => .slice none 0 0)).toArray tE)) := (Below.refl _ _).alloc (Nat.le_refl _) _
            have hown3 := hown2.below ha2
            have q3 := below_trans (below_trans hbw ha) ha2
            rw [hsA] at bL
            have hkN : k ≤ 4098 := by omega
            refine wpList_appendEO (w := (wr.alloc (.cells #[.int .u8 (97 + (k : Int) % 16), .int .u8 (97 + (k : Int) / 16 % 16), .int .u8 (97 + (k : Int) / 256)] 5)).alloc (.cells (ofC [mkE k] (fun _ => .slice none 0 0)).toArray tE)) (B := w.heap.size) (M := [mkE k]) (g := fun _ => .slice none 0 0) (A := some ⟨wr.heap.size + 1, 0, none⟩) (c := 1) rfl _ _ rfl rfl hown3 rfl (fun h => by cases h) (fun _ => ⟨_, rfl, fun j u hu => ?_⟩) (fun j hj => ?_) (by rw [mkL_len]; simp; omega) q3.size ?_
            · rw [Addr.add_lit, bL.cell, Nat.zero_add]
              simpa using hu
            · match j, hj with
              | 0, _ => exact Sl.nil _ _ _ _
            intro v5 w5 h5 hk5 _
            have q5 := q3.trans (hk5.below q3.size fun b _ hb => (hown3.row.lt b hb).1)
            have h6 : EO w.heap.size w5 v5 (mkL (k + 1)) (appF f (mkL k).length fun _ => .slice none 0 0) := by rw [mkL_succ]; exact h5
            clear hk5 h5 hown3 hown2 hown ha ha2 bL hcv q3
            go_wp2_with fail
            go_roundg (N - (k + 1))
            case measure => omega
            case rel => exact ⟨k + 1, by omega, rfl, by simp, q5, _, h6⟩
          · have hkN : k = N := by omega
            subst hkN
            obtain ⟨A5, cap5, rfl⟩ := own_form hown.row
            have hsl := hown.sl
            clear hown
            go_wp2_with fail
            refine (pchkall_any (mkL k) _ nowhere _ hsl (mkL_lb k (by omega))).mono ?_
            rw [mkL_chk, if_neg (by omega)]
            rintro e w4 ⟨rfl, hb4⟩
            have q4 := below_trans hbw hb4
            clear hsl hb4
            go_wp2_with fail
            go_ret
            exact ⟨rfl, q4⟩
end Go.Proofs.YtjhikglgaoncjaaDoor

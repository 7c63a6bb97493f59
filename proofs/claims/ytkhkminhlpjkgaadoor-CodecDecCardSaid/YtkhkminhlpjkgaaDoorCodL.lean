/- The walk of the law on memory. -/
import Derived.Test.YtkhkminhlpjkgaaDoorCodK
namespace Go.Proofs.YtkhkminhlpjkgaaDoor
open Go.RowKit
/-- A store into another block. -/
theorem own_far {w : World} {base : Nat} {e : TypeId} {size : Nat} {v : Value} {n : Nat} {xs : List Value} (h : w.ownsRow base e size v n xs) (a : Addr) (u : Value) (hne : ∀ k, v.ownBlock = some k → k ≠ a.block) :
    (w.setCell a u).ownsRow base e size v n xs := by
  refine ⟨h.1, ?_⟩
  rcases h.2 with hn | ⟨g, cap, cur, rfl, hb, hg, rest⟩
  · exact .inl hn
  · refine .inr ⟨g, cap, cur, rfl, hb, ?_, rest⟩
    rw [Below.heap_setCell _ _ _ _ (hne g rfl)]
    exact hg
theorem xor255 (b : UInt8) : bits .xor .u8 (b.toNat : Int) 255 = ((b ^^^ 255).toNat : Int) := by
  have := u8_xor_nat b.toNat 255 b.toNat_lt (by omega)
  rw [UInt8.toNat_xor]
  exact this
theorem xor1 (b : UInt8) : bits .xor .u8 (b.toNat : Int) 1 = ((b ^^^ 1).toNat : Int) := by
  have := u8_xor_nat b.toNat 1 b.toNat_lt (by omega)
  rw [UInt8.toNat_xor]
  exact this
theorem xor1_ne (b : UInt8) : b ^^^ 1 ≠ b := by
  intro h
  have := congrArg UInt8.toBitVec h
  have h2 : ∀ x : BitVec 8, x ^^^ 1#8 ≠ x := by decide +kernel
  exact h2 b.toBitVec (by simpa using this)
theorem own_cell {w : World} {base : Nat} {e : TypeId} {g n cap : Nat} {l : List UInt8} (hown : w.ownsRow base e 1 (.slice (some ⟨g, 0, none⟩) n cap) n (bvs l)) (k : Nat) (hk : k < l.length) : w.cell? ⟨g, k, none⟩ = some (.int .u8 (l[k].toNat : Int)) := by
  have hl := hown.1
  rw [bvs_length] at hl
  rw [hown.cellAt k (by omega), bvs_get l k hk]
set_option maxHeartbeats 4000000 in
theorem law_keeps (v : Value) (l : List UInt8) (n : Int) (w : World) (h : SB w v l) (hn : 0 ≤ n ∧ n ≤ 18446744073709551615) :
    Calls Tryd.prog 5 #[v, .int .u64 n] w fun e w' => e = .returned (.bool true) ∧ Below w.heap.size w w' := by
  obtain ⟨n, rfl⟩ := Int.eq_ofNat_of_zero_le hn.1
  have hn2 : n < 18446744073709551616 := by omega
  clear hn
  have h' := h
  obtain ⟨A, cap, rfl, hc1, hc2, hc3, hc4⟩ := h'
  clear hc4 hc3
  unfold maxLen at hc2
  by_cases hl : 2000 < l.length
  · have hd : decide ((2000 : Int) < (l.length : Int)) = true := by simp; omega
    go_enter Tryd.func5, Tryd.ntmps5
    go_wp2_with (go_at_call 9; refine (awake_any _).mono ?_; rintro e w1 ⟨rfl, hb1⟩)
    go_ret
    exact ⟨rfl, hb1⟩
  · have hd : decide ((2000 : Int) < (l.length : Int)) = false := by simp; omega
    go_enter Tryd.func5, Tryd.ntmps5
    go_wp2_with (first
      | (go_at_call 9; refine (awake_any _).mono ?_; rintro e w1 ⟨rfl, hb1⟩)
      | (at_builtin; refine wpList_append8 rfl (.tmp 22) (.tmp 23) _ _ rfl Tryd.underlying22 u8info w1.heap.size (.slice (some ⟨w1.heap.size, 0, none⟩) 0 0) 0 [] rfl (World.ownsRow_made w1 #[] 0 (Nat.le_refl _) (by unfold maxLen; omega) rfl) A l.length cap l rfl ((h.below hb1).alloc _) (by omega) (by simp) ?_; intro v2 w2 hown2 hb2 hg2)
      | (at_builtin; refine wpList_append8 rfl (.tmp 24) (.tmp 25) _ _ rfl Tryd.underlying22 u8info w1.heap.size v2 (0 + l.length) ([] ++ l) rfl (hown2.alloc _) _ 1 1 [7] rfl (SB.made w2 [7] _ _ rfl (by unfold maxLen; simp)) (by omega) (by have := hb2.size; simp at this ⊢; omega) ?_; intro v3 w3 hown3 hb3 hg3))
    have hownO : w3.ownsRow w1.heap.size 5 1 v3 (l.length + 1) (bvs (l ++ [7])) := by simpa using hown3
    have hbw3 : Below w.heap.size w w3 := hb1.trans ((((Below.refl _ _).alloc (Nat.le_refl _) _).trans hb2 |>.trans ((Below.refl _ _).alloc (by have := hb2.size; simp at this; omega) _) |>.trans hb3).mono hb1.size)
    clear hown2 hb2 hg2 hown3 hb3 hg3
    obtain ⟨go, capo, rfl, hgo1, hgo2, hgo3, hgo4⟩ := own_at hownO (by omega)
    unfold maxLen at hgo4
    have hcapo : ¬ capo = 0 := by omega
    have hownT := own_take hownO (n' := l.length) (by omega)
    rw [List.take_left] at hownT
    have hsbT := SB.of_own hownT
    have hi1 : (0 : Int) ≤ (l.length : Int) := by omega
    have hi2 : (l.length : Int) ≤ (capo : Int) := by omega
    refine wp_region_plan (fun _ => True) [(false, 0), (false, 1), (false, 2), (false, 3), (false, 5), (false, 6), (false, 7), (false, 8), (true, 4), (true, 9), (false, 10), (false, 11)] (by kernel_rfl) (by kernel_rfl) (trivial) ?_
    simp only [planOps, List.map, List.getD_cons_zero, List.getD_cons_succ]
    iterate 8 (refine plan_quiet (v := ?_) rfl (fun w' hw' => ?_) ?_; rotate_left; (focus (go_simp <;> with_reducible rfl)); simp only [Act.put, List.setIfInBounds_toArray, List.set_cons_zero, List.set_cons_succ])
    refine plan_loud rfl (fun K hK => ?_)
    go_simp
    have hsbD : SB w3.drew (.slice (some ⟨go, 0, none⟩) l.length capo) l := hsbT
    refine (hex_any _ l w3.drew hsbD (by omega)).mono ?_
    rintro e w4 ⟨rfl, hb4⟩
    refine hK _ _ (trivial) ?_
    clear hK K
    (try simp only [Act.put, List.setIfInBounds_toArray, List.set_cons_zero, List.set_cons_succ])
    refine plan_loud rfl (fun K hK => ?_)
    go_simp
    refine (base64_any _ l _ (SB.below hsbD hb4) (by omega)).mono ?_
    rintro e w5 ⟨rfl, hb5⟩
    refine hK _ _ (trivial) ?_
    clear hK K
    (try simp only [Act.put, List.setIfInBounds_toArray, List.set_cons_zero, List.set_cons_succ])
    iterate 2 (refine plan_quiet (v := ?_) rfl (fun w' hw' => ?_) ?_; rotate_left; (focus (go_simp <;> with_reducible rfl)); simp only [Act.put, List.setIfInBounds_toArray, List.set_cons_zero, List.set_cons_succ])
    refine plan_end ?_
    have hbw5 : Below w.heap.size w w5 := below_trans (below_trans hbw3.drew hb4) hb5
    have hownO5 := own_below (own_below (w := w3.drew) hownO hb4) hb5
    have hgo5 : go < w5.heap.size := by have h1 := hb4.size; have h2 := hb5.size; simp at h1; omega
    clear hownT hsbT hownO hbw3 hb4 hb5
    go_wp2_with fail
    refine (unhex_hexL l _ (by omega)).mono ?_
    rintro e w6 ⟨vx, rfl, hownx, hb6⟩
    obtain ⟨Ax, capx, rfl⟩ := own_form hownx
    have hbw6 : Below w.heap.size w w6 := below_trans hbw5 hb6
    have hownO6 := own_below hownO5 hb6
    have hgo6 : go < w6.heap.size := Nat.lt_of_lt_of_le hgo5 hb6.size
    go_wp2_with fail
    refine (unbase64_base l _ (by omega)).mono ?_
    rintro e w7 ⟨vy, rfl, howny, hb7⟩
    obtain ⟨Ay, capy, rfl⟩ := own_form howny
    have hbw7 : Below w.heap.size w w7 := below_trans hbw6 hb7
    have hownO7 := own_below hownO6 hb7
    have hownx7 := own_below hownx hb7
    clear hownO5 hownO6 hbw5 hbw6
    have hs5 : w.heap.size ≤ w5.heap.size := by have := hbw7.size; have := hb6.size; have := hb7.size; exact Nat.le_trans (Nat.le_trans hb1.size hgo1) (Nat.le_of_lt hgo5)
    go_wp2
    go_loopw [12] (fun i wr => ∃ (k : Nat) (lx : List UInt8), k ≤ l.length ∧ i = .int .i64 k ∧ lx.length = l.length ∧ wr.ownsRow w5.heap.size 5 1 (.slice Ax l.length capx) l.length (bvs lx) ∧ wr.ownsRow w6.heap.size 5 1 (.slice Ay l.length capy) l.length (bvs l) ∧ wr.ownsRow w1.heap.size 5 1 (.slice (some ⟨go, 0, none⟩) (l.length + 1) capo) (l.length + 1) (bvs (l ++ [7])) ∧ Below w.heap.size w wr ∧ w6.heap.size ≤ wr.heap.size) (fun i _ => l.length - (intOf i).toNat)
    case atStart => exact ⟨0, l, Nat.zero_le _, rfl, rfl, hownx7, howny, hownO7, hbw7, hb7.size⟩
    case round =>
      obtain ⟨k, lx, hk, rfl, hlx, hox, hoy, hoO, hbw, hsz⟩ := hrel
      by_cases hlt : k < l.length
      · obtain ⟨gx, cx, he, hg1, hg2, hg3, hg4⟩ := own_at hownx (by omega)
        cases he
        obtain ⟨b8, Hb8⟩ : ∃ b8 : UInt8, Hid (b8 = lx[k]'(by omega)) := ⟨_, Lib.hid rfl⟩
        have hcell := own_cell hox k (by omega)
        rw [← Hb8.out] at hcell
        obtain ⟨c8, Hc8⟩ : ∃ c8 : UInt8, Hid (c8 = b8 ^^^ 255) := ⟨_, rfl⟩
        have hxor := xor255 b8
        rw [← Hc8.out] at hxor
        obtain ⟨_, hfro, hst⟩ := own_store hox k (by omega)
        have Hst := Lib.hid (hst c8)
        clear hst
        go_wp2
        go_roundw
        case rel =>
          refine ⟨k + 1, _, by omega, by go_num, ?_, Hst.out, own_far hoy _ _ (fun j hj => ?_), own_far hoO _ _ (fun j hj => ?_), hbw.setCell (show _ ≤ gx by omega) _, by simpa using hsz⟩
          · rw [List.length_set]; exact hlx
          · have := (hoy.lt j hj).1
            show j ≠ gx
            omega
          · simp [Value.ownBlock] at hj
            show j ≠ gx
            omega
        case measure => simp [intOf]; omega
      · obtain rfl : k = l.length := by omega
        obtain ⟨wo, rfl⟩ : ∃ wo : World, wo = wr := ⟨_, rfl⟩
        clear hownx7 howny hownO7 hbw7 hb7
        go_wp2
        go_loopw [13] (fun i wr => ∃ (k : Nat) (ly : List UInt8), k ≤ l.length ∧ i = .int .i64 k ∧ ly.length = l.length ∧ wr.ownsRow w6.heap.size 5 1 (.slice Ay l.length capy) l.length (bvs ly) ∧ wr.ownsRow w1.heap.size 5 1 (.slice (some ⟨go, 0, none⟩) (l.length + 1) capo) (l.length + 1) (bvs (l ++ [7])) ∧ Below w.heap.size w wr ∧ w6.heap.size ≤ wr.heap.size) (fun i _ => l.length - (intOf i).toNat)
        case atStart => exact ⟨0, l, Nat.zero_le _, rfl, rfl, hoy, hoO, hbw, hsz⟩
        case round =>
          obtain ⟨k, ly, hk, rfl, hly, hoy, hoO, hbw, hsz⟩ := hrel
          by_cases hlt : k < l.length
          · obtain ⟨gy, cy, he, hg1, hg2, hg3, hg4⟩ := own_at hoy (by omega)
            cases he
            obtain ⟨b8, Hb8⟩ : ∃ b8 : UInt8, Hid (b8 = ly[k]'(by omega)) := ⟨_, Lib.hid rfl⟩
            have hcell := own_cell hoy k (by omega)
            rw [← Hb8.out] at hcell
            obtain ⟨c8, Hc8⟩ : ∃ c8 : UInt8, Hid (c8 = b8 ^^^ 255) := ⟨_, rfl⟩
            have hxor := xor255 b8
            rw [← Hc8.out] at hxor
            obtain ⟨_, hfro, hst⟩ := own_store hoy k (by omega)
            have Hst := Lib.hid (hst c8)
            clear hst
            go_wp2
            go_roundw
            case rel =>
              refine ⟨k + 1, _, by omega, by go_num, ?_, Hst.out, own_far hoO _ _ (fun j hj => ?_), hbw.setCell (show _ ≤ gy by have := hb6.size; omega) _, by simpa using hsz⟩
              · rw [List.length_set]; exact hly
              · simp [Value.ownBlock] at hj
                show j ≠ gy
                omega
            case measure => simp [intOf]; omega
          · obtain rfl : k = l.length := by omega
            obtain ⟨w8, rfl⟩ : ∃ wo : World, wo = wr := ⟨_, rfl⟩
            go_wp2_with fail
            refine (be_any n 8 _ hn2 (by omega) (by omega)).mono ?_
            rintro e w9 ⟨vp, rfl, hownp, hb9⟩
            rw [beL_length] at hownp
            obtain ⟨gp, capp, rfl, hgp1, hgp2, hgp3, hgp4⟩ := own_at hownp (by omega)
            have hoO9 := own_below hoO hb9
            have hbw9 := below_trans hbw hb9
            obtain ⟨b8, t8, Ht8⟩ : ∃ (b8 : UInt8) (t8 : List UInt8), Hid (beL n 8 = b8 :: t8) := ⟨_, _, rfl⟩
            have hcell := own_cell hownp 0 (by rw [beL_length]; omega)
            have hb0 : (beL n 8)[0]'(by rw [beL_length]; omega) = b8 := by simp [Ht8.out]
            rw [hb0] at hcell
            clear hb0
            obtain ⟨c8, Hc8⟩ : ∃ c8 : UInt8, Hid (c8 = b8 ^^^ 1) := ⟨_, rfl⟩
            have hxor := xor1 b8
            rw [← Hc8.out] at hxor
            obtain ⟨_, hfro, hst⟩ := own_store hownp 0 (by omega)
            have Hst := Lib.hid (hst c8)
            clear hst
            have hbw10 : Below w.heap.size w (w9.setCell ⟨gp, 0, none⟩ (.int .u8 (c8.toNat : Int))) := hbw9.setCell (show _ ≤ gp by have := hbw.size; omega) _
            have hoO10 := own_far hoO9 ⟨gp, 0, none⟩ (.int .u8 (c8.toNat : Int)) (fun j hj => by simp [Value.ownBlock] at hj; show j ≠ gp; omega)
            go_wp2_with fail
            refine (unhex_hexL l _ (by omega)).mono ?_
            rintro e w11 ⟨vz, rfl, hownz, hb11⟩
            have hoO11 := own_below hoO10 hb11
            have hop11 := own_below Hst.out hb11
            have hbw11 := below_trans hbw10 hb11
            clear hoO10 hoO9 Hst hb11
            go_wp2_with fail
            have c5 : ∀ w', Below w11.heap.size w11 w' → (convert 22 9 (.slice (some ⟨go, 0, none⟩) (l.length + 1) capo)).run Tryd.prog w' = .ok (.string ⟨(l ++ [7]).toArray⟩) w' := fun w' hb => str8 ((SB.of_own hoO11).below hb)
            have c0 : ∀ w', Below w11.heap.size w11 w' → (convert 22 9 (.slice A l.length cap)).run Tryd.prog w' = .ok (.string ⟨l.toArray⟩) w' := fun w' hb => str8 ((h.below hbw11).below hb)
            have cz : ∀ w', Below w11.heap.size w11 w' → (convert 22 9 vz).run Tryd.prog w' = .ok (.string ⟨l.toArray⟩) w' := fun w' hb => str8 ((SB.of_own hownz).below hb)
            have cp : ∀ w', Below w11.heap.size w11 w' → (convert 22 9 (.slice (some ⟨gp, 0, none⟩) 8 capp)).run Tryd.prog w' = .ok (.string ⟨((beL n 8).set 0 c8).toArray⟩) w' := fun w' hb => str8 ((SB.of_own hop11).below hb)
            obtain ⟨sO, HsO⟩ : ∃ sO : ByteArray, Hid (sO = ⟨(l ++ [7]).toArray⟩) := ⟨_, Lib.hid rfl⟩
            obtain ⟨sl, Hsl⟩ : ∃ sl : ByteArray, Hid (sl = ⟨l.toArray⟩) := ⟨_, Lib.hid rfl⟩
            obtain ⟨sp, Hsp⟩ : ∃ sp : ByteArray, Hid (sp = ⟨((beL n 8).set 0 c8).toArray⟩) := ⟨_, Lib.hid rfl⟩
            rw [← HsO.out] at c5
            rw [← Hsl.out] at c0 cz
            rw [← Hsp.out] at cp
            have Hc5 := Lib.hid c5
            have Hc0 := Lib.hid c0
            have Hcz := Lib.hid cz
            have Hcp := Lib.hid cp
            clear c5 c0 cz cp
            have hzs : ¬ (9223372036854775807 < sl.size + 1) := by rw [Hsl.out]; show ¬ (_ < l.toArray.size + 1); rw [List.size_toArray]; omega
            have heq : sO.toList = (sl ++ ⟨#[7]⟩ : ByteArray).toList := by
              have : sO = sl ++ ⟨#[7]⟩ := by rw [HsO.out, Hsl.out]; apply ByteArray.ext; simp
              rw [this]
            refine wp_region_plan (fun w' => (convert 22 9 (.slice (some ⟨go, 0, none⟩) (l.length + 1) capo)).run Tryd.prog w' = .ok (.string sO) w' ∧ (convert 22 9 (.slice A l.length cap)).run Tryd.prog w' = .ok (.string sl) w' ∧ (convert 22 9 vz).run Tryd.prog w' = .ok (.string sl) w' ∧ (convert 22 9 (.slice (some ⟨gp, 0, none⟩) 8 capp)).run Tryd.prog w' = .ok (.string sp) w') [(false, 0), (false, 1), (false, 2), (false, 3), (false, 4), (false, 5), (false, 6), (false, 7), (false, 8), (false, 9), (false, 10), (false, 11), (false, 12), (false, 13), (false, 14), (false, 17), (false, 18), (true, 15), (true, 16), (false, 19), (false, 20), (false, 21)] (by kernel_rfl) (by kernel_rfl) (⟨Hc5.out _ (Below.refl _ _).drew, Hc0.out _ (Below.refl _ _).drew, Hcz.out _ (Below.refl _ _).drew, Hcp.out _ (Below.refl _ _).drew⟩) ?_
            simp only [planOps, List.map, List.getD_cons_zero, List.getD_cons_succ]
            iterate 17 (refine plan_quiet_guarded (v := ?_) (fun w' hw' => ?_) ?_; rotate_left; (focus (go_simp <;> with_reducible rfl)); simp only [Act.put, List.setIfInBounds_toArray, List.set_cons_zero, List.set_cons_succ])
            refine plan_loud_guarded (fun K hK => ?_)
            go_simp
            refine (be_any n 8 _ hn2 (by omega) (by omega)).mono ?_
            rintro e w12 ⟨vq, rfl, hownq, hb12⟩
            refine hK _ _ (⟨Hc5.out _ ((Below.refl _ _).drew.trans hb12), Hc0.out _ ((Below.refl _ _).drew.trans hb12), Hcz.out _ ((Below.refl _ _).drew.trans hb12), Hcp.out _ ((Below.refl _ _).drew.trans hb12)⟩) ?_
            clear hK K
            (try simp only [Act.put, List.setIfInBounds_toArray, List.set_cons_zero, List.set_cons_succ])
            refine plan_loud_guarded (fun K hK => ?_)
            have hcq := str8 (SB.of_own hownq)
            go_simp
            refine hK _ _ (⟨Hc5.out _ ((Below.refl _ _).drew.trans hb12), Hc0.out _ ((Below.refl _ _).drew.trans hb12), Hcz.out _ ((Below.refl _ _).drew.trans hb12), Hcp.out _ ((Below.refl _ _).drew.trans hb12)⟩) ?_
            clear hK K
            (try simp only [Act.put, List.setIfInBounds_toArray, List.set_cons_zero, List.set_cons_succ])
            iterate 3 (refine plan_quiet_guarded (v := ?_) (fun w' hw' => ?_) ?_; rotate_left; (focus (go_simp <;> with_reducible rfl)); simp only [Act.put, List.setIfInBounds_toArray, List.set_cons_zero, List.set_cons_succ])
            refine plan_end ?_
            have hlast : (beL n 8 == sp.toList) = false := by
              rw [Hsp.out]
              simp only [beq_eq_false_iff_ne, ne_eq]
              rw [show (ByteArray.mk ((beL n 8).set 0 c8).toArray).toList = (beL n 8).set 0 c8 by simp, Ht8.out, Hc8.out]
              intro he
              exact xor1_ne b8 (List.cons.inj he).1.symm
            rw [hlast]
            go_wp2_with fail
            go_ret
            exact ⟨rfl, hbw11.drew.trans (hb12.mono hbw11.size)⟩
end Go.Proofs.YtkhkminhlpjkgaaDoor

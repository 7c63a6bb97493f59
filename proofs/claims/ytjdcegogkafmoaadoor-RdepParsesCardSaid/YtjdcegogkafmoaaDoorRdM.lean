/- The walk of drayageref15's State.look. Printed by gen_rdm.py. -/
import Derived.Test.YtjdcegogkafmoaaDoorRdL
namespace Go.Proofs.YtjdcegogkafmoaaDoor
open Go.RowKit
set_option maxRecDepth 20000 in
set_option maxHeartbeats 8000000 in
theorem rlook_any (gx : Nat) (s : List UInt8) (p n : Nat) (fa fc : Int) (W : World) (hp : p ≤ s.length) (hs : s.length ≤ 900000) (hB : Blk W gx 52 #[.string (bs s), .int .i64 (p : Int), .string ⟨#[]⟩, .int .i64 fa, .int .i64 fc, .int .i64 (n : Int)]) :
    Calls Tryd.prog 18 #[.pointer (some ⟨gx, 0, none⟩)] W fun e w' => ∃ t a r, tkR s p = (t, a) :: r ∧ e = .returned (.string (bs t)) ∧ a ≤ s.length ∧ Blk w' gx 52 #[.string (bs s), .int .i64 (a : Int), .string ⟨#[]⟩, .int .i64 fa, .int .i64 fc, .int .i64 (n : Int)] ∧ Kept (fun k => k = gx) W w' := by
  have hsz : ((bs s).size : Int) = (s.length : Int) := by rw [bs_size]
  have hsk := rskip_any gx s p n fa fc W hp hs hB
  clear hB
  go_enter Tryd.func18, Tryd.ntmps18
  go_upto_region 2 with (go_at_call 32; refine hsk.mono ?_; clear hsk; rintro rr W2 ⟨rfl, q, hq, heq, hne, hB2, hk2⟩)
  have HEQ := Lib.hid heq
  have HNE := Lib.hid hne
  clear heq hne
  have z0 := hB2.cell 0
  have z1 := hB2.cell 1
  simp at z0 z1
  by_cases hlt : q < s.length
  rotate_left
  · have hqe : q = s.length := by omega
    subst hqe
    have q1 : ((s.length : Int) == (s.length : Int)) = true := by simp
    have HT : Hid (tkR s s.length = [([], s.length)]) := Lib.hid (tkR_end s _ (Nat.le_refl _))
    clear hlt
    go_wp2_with fail
    go_ret
    exact ⟨[], s.length, _, HEQ.out.trans HT.out, rfl, Nat.le_refl _, hB2, hk2⟩
  · have q1 : ((q : Int) == (s.length : Int)) = false := by simpa using (show ¬ (q : Int) = (s.length : Int) by omega)
    have hks : (q : Int) < ((bs s).size : Int) := by omega
    have hks2 : q < (bs s).size := by rw [bs_size]; exact hlt
    have HTA := Lib.hid (tkR_at s q hlt)
    obtain ⟨d, hd0⟩ : ∃ d, d = s[q]'hlt := ⟨_, rfl⟩
    have hbb : (bs s)[q]'hks2 = d := hd0.symm
    have HD := Lib.hid hd0
    have hd32 : d ≠ 32 := fun e => HNE.out hlt (by rw [← hd0]; exact e)
    have HD32 := Lib.hid hd32
    clear hd0 hd32
    obtain ⟨q40, _⟩ := byteL d 40 40 rfl
    obtain ⟨q41, _⟩ := byteL d 41 41 rfl
    by_cases eB : d = 40 ∨ d = 41
    · have HT : Hid (tkR s q = ([d], q) :: tkR s (q + 1)) := Lib.hid (by rw [HTA.out, ← HD.out, if_neg HD32.out, if_pos eB])
      have hx : (bs s).extract q (q + 1) = bs [d] := by
        have := ext_midR s q 1
        rw [show (s.drop q).take 1 = [d] by rw [List.drop_eq_getElem_cons hlt, HD.out]; rfl] at this
        exact this
      have w1 : IntKind.i64.wrap ((q : Int) + 1) = ((q + 1 : Nat) : Int) := by rw [i64_in _ (by omega) (by omega)]; omega
      have b1 : (q : Int) ≤ ((q + 1 : Nat) : Int) := by omega
      have b2 : ((q + 1 : Nat) : Int) ≤ ((bs s).size : Int) := by omega
      have b3 : q + 1 ≤ (bs s).size := by rw [bs_size]; omega
      have hqq : (decide (d = 40) = true) ∨ (decide (d = 40) = false ∧ decide (d = 41) = true) := by
        by_cases e : d = 40
        · exact .inl (decide_eq_true e)
        · exact .inr ⟨decide_eq_false e, decide_eq_true (eB.resolve_left e)⟩
      clear eB HTA
      rcases hqq with h40 | ⟨h40, h41⟩
      · rw [h40] at q40
        clear h40
        go_wp2_with fail
        go_ret
        exact ⟨[d], q, _, HEQ.out.trans HT.out, rfl, hq, hB2, hk2⟩
      · rw [h40] at q40
        rw [h41] at q41
        clear h40 h41
        go_wp2_with fail
        go_ret
        exact ⟨[d], q, _, HEQ.out.trans HT.out, rfl, hq, hB2, hk2⟩
    · have HTK : Hid (tkR s q = ((s.drop q).take (pEnd (s.drop q) 0), q) :: tkR s (q + pEnd (s.drop q) 0)) := Lib.hid (by rw [HTA.out, ← HD.out, if_neg HD32.out, if_neg eB])
      rw [decide_eq_false (fun e => eB (.inl e))] at q40
      rw [decide_eq_false (fun e => eB (.inr e))] at q41
      clear eB HTA
      go_wp2_with fail
      clear q40 q41 hbb hks hks2 q1
      go_loopg [3, 4] (s.length - q) (fun G s3 s4 wr => ∃ k o : Nat, k ≤ s.length ∧ G = s.length - k ∧ s3 = .int .i64 k ∧ s4 = .int .i64 o ∧ o ≤ k ∧ q ≤ k ∧ W2 = wr ∧ Hid (k + pEnd (s.drop k) o = q + pEnd (s.drop q) 0))
      case atStart => exact ⟨q, 0, hq, rfl, rfl, rfl, Nat.zero_le _, Nat.le_refl _, rfl, Lib.hid rfl⟩
      case round =>
        obtain ⟨k, o, hk, rfl, rfl, rfl, hok, hqk, rfl, HE⟩ := hrel
        by_cases hkl : k < s.length
        · have HST := Lib.hid (pEnd_step s k hkl o)
          have hks : (k : Int) < ((bs s).size : Int) := by omega
          have hks2 : k < (bs s).size := by rw [bs_size]; exact hkl
          have hlt' : decide ((k : Int) < (s.length : Int)) = true := by simp; exact hkl
          have w0 : IntKind.i64.wrap ((k : Int) + 1) = (k : Int) + 1 := i64_in _ (by omega) (by omega)
          obtain ⟨c, hc0⟩ : ∃ c, c = s[k]'hkl := ⟨_, rfl⟩
          have hbb : (bs s)[k]'hks2 = c := hc0.symm
          have HST2 : Hid (pEnd (s.drop k) o = if c = 32 then 0 else if c = 40 then pEnd (s.drop (k + 1)) (o + 1) + 1 else if c = 41 then (if o = 0 then 0 else pEnd (s.drop (k + 1)) (o - 1) + 1) else pEnd (s.drop (k + 1)) o + 1) := Lib.hid (by rw [HST.out, hc0])
          clear hc0 HST
          obtain ⟨_, c32⟩ := byteL c 32 32 rfl
          obtain ⟨c40, _⟩ := byteL c 40 40 rfl
          obtain ⟨c41, _⟩ := byteL c 41 41 rfl
          by_cases e32 : c = 32
          · rw [decide_eq_true e32] at c32
            have HSTOP : Hid (pEnd (s.drop k) o = 0) := Lib.hid (by rw [HST2.out, if_pos e32])
            clear HST2 e32
            have HK : Hid (k = q + pEnd (s.drop q) 0) := Lib.hid (by rw [← HE.out, HSTOP.out]; rfl)
            have hx := ext_midR s q (pEnd (s.drop q) 0)
            rw [← HK.out] at hx
            have HT : Hid (tkR s q = ((s.drop q).take (pEnd (s.drop q) 0), q) :: tkR s (q + pEnd (s.drop q) 0)) := Lib.hid HTK.out
            obtain ⟨tx, HTX⟩ : ∃ x, Hid ((s.drop q).take (pEnd (s.drop q) 0) = x) := ⟨_, Lib.hid rfl⟩
            rw [HTX.out] at hx HT
            have b1 : (q : Int) ≤ (k : Int) := by have := HK.out; omega
            have b2 : (k : Int) ≤ ((bs s).size : Int) := by omega
            have b3 : k ≤ (bs s).size := by rw [bs_size]; exact hk
            have b4 : q ≤ k := by have := HK.out; omega
            clear HK HSTOP HE HTK HTX
            go_upto_region 15 with fail
            refine wp_region_plan (fun W => W.cell? ⟨gx, 0, none⟩ = some (.string (bs s)) ∧ W.cell? ⟨gx, 1, none⟩ = some (.int .i64 (q : Int))) [(false, 0), (false, 1), (false, 2), (false, 3), (false, 4), (false, 5), (false, 6), (false, 7), (false, 8), (false, 9), (false, 10)] (by kernel_rfl) (by kernel_rfl) (⟨z0, z1⟩) ?_
            simp only [planOps, List.map, List.getD_cons_zero, List.getD_cons_succ]
            iterate 11 ((first | refine plan_quiet (v := ?_) rfl rfl (fun w' hw' => ?_) ?_ | refine plan_calm (v := ?_) (tt_of) rfl (fun w' hw' => ?_) ?_); rotate_left; (focus (go_simp <;> (first | with_reducible rfl | (rw [if_neg (by simp [undef])]; try rfl) | omega))); simp only [Act.put, List.setIfInBounds_toArray, List.set_cons_zero, List.set_cons_succ])
            refine plan_end ?_
            have kd : Blk W2.drew gx 52 #[.string (bs s), .int .i64 (q : Int), .string ⟨#[]⟩, .int .i64 fa, .int .i64 fc, .int .i64 (n : Int)] := hB2
            go_wp2_with fail
            go_ret
            exact ⟨tx, q, _, HEQ.out.trans HT.out, rfl, hq, kd, hk2.drew⟩
          rw [decide_eq_false e32] at c32
          by_cases e40 : c = 40
          · rw [decide_eq_true e40] at c40
            have e41 : ¬ c = 41 := fun e => by rw [e40] at e; exact absurd e (by decide)
            rw [decide_eq_false e41] at c41
            have HV : Hid ((k + 1) + pEnd (s.drop (k + 1)) (o + 1) = q + pEnd (s.drop q) 0) := Lib.hid (by rw [← HE.out, HST2.out, if_neg e32, if_pos e40]; omega)
            have w1 : IntKind.i64.wrap ((o : Int) + 1) = (o : Int) + 1 := i64_in _ (by omega) (by omega)
            clear HST2 e32 e40 e41 HE
            go_wp2_with fail
            go_roundg (s.length - (k + 1))
            case measure => omega
            case rel => exact ⟨k + 1, o + 1, by omega, rfl, by first | rfl | (simp; done), by first | rfl | (simp; done), by omega, by omega, rfl, HV⟩
          rw [decide_eq_false e40] at c40
          by_cases e41 : c = 41
          · rw [decide_eq_true e41] at c41
            by_cases ho : o = 0
            · subst ho
              have HSTOP : Hid (pEnd (s.drop k) 0 = 0) := Lib.hid (by rw [HST2.out, if_neg e32, if_neg e40, if_pos e41, if_pos rfl])
              have w1 : IntKind.i64.wrap (-1) = -1 := by decide
              clear HST2 e32 e40 e41
              have HK : Hid (k = q + pEnd (s.drop q) 0) := Lib.hid (by rw [← HE.out, HSTOP.out]; rfl)
              have hx := ext_midR s q (pEnd (s.drop q) 0)
              rw [← HK.out] at hx
              have HT : Hid (tkR s q = ((s.drop q).take (pEnd (s.drop q) 0), q) :: tkR s (q + pEnd (s.drop q) 0)) := Lib.hid HTK.out
              obtain ⟨tx, HTX⟩ : ∃ x, Hid ((s.drop q).take (pEnd (s.drop q) 0) = x) := ⟨_, Lib.hid rfl⟩
              rw [HTX.out] at hx HT
              have b1 : (q : Int) ≤ (k : Int) := by have := HK.out; omega
              have b2 : (k : Int) ≤ ((bs s).size : Int) := by omega
              have b3 : k ≤ (bs s).size := by rw [bs_size]; exact hk
              have b4 : q ≤ k := by have := HK.out; omega
              clear HK HSTOP HE HTK HTX
              go_upto_region 15 with fail
              refine wp_region_plan (fun W => W.cell? ⟨gx, 0, none⟩ = some (.string (bs s)) ∧ W.cell? ⟨gx, 1, none⟩ = some (.int .i64 (q : Int))) [(false, 0), (false, 1), (false, 2), (false, 3), (false, 4), (false, 5), (false, 6), (false, 7), (false, 8), (false, 9), (false, 10)] (by kernel_rfl) (by kernel_rfl) (⟨z0, z1⟩) ?_
              simp only [planOps, List.map, List.getD_cons_zero, List.getD_cons_succ]
              iterate 11 ((first | refine plan_quiet (v := ?_) rfl rfl (fun w' hw' => ?_) ?_ | refine plan_calm (v := ?_) (tt_of) rfl (fun w' hw' => ?_) ?_); rotate_left; (focus (go_simp <;> (first | with_reducible rfl | (rw [if_neg (by simp [undef])]; try rfl) | omega))); simp only [Act.put, List.setIfInBounds_toArray, List.set_cons_zero, List.set_cons_succ])
              refine plan_end ?_
              have kd : Blk W2.drew gx 52 #[.string (bs s), .int .i64 (q : Int), .string ⟨#[]⟩, .int .i64 fa, .int .i64 fc, .int .i64 (n : Int)] := hB2
              go_wp2_with fail
              go_ret
              exact ⟨tx, q, _, HEQ.out.trans HT.out, rfl, hq, kd, hk2.drew⟩
            · have HV : Hid ((k + 1) + pEnd (s.drop (k + 1)) (o - 1) = q + pEnd (s.drop q) 0) := Lib.hid (by rw [← HE.out, HST2.out, if_neg e32, if_neg e40, if_pos e41, if_neg ho]; omega)
              have w1 : IntKind.i64.wrap ((o : Int) - 1) = ((o - 1 : Nat) : Int) := by rw [i64_in _ (by omega) (by omega)]; omega
              have t0 : decide (((o - 1 : Nat) : Int) < 0) = false := decide_eq_false (by omega)
              clear HST2 e32 e40 e41 HE ho
              go_wp2_with fail
              go_roundg (s.length - (k + 1))
              case measure => omega
              case rel => exact ⟨k + 1, o - 1, by omega, rfl, by first | rfl | (simp; done), rfl, by omega, by omega, rfl, HV⟩
          rw [decide_eq_false e41] at c41
          have HV : Hid ((k + 1) + pEnd (s.drop (k + 1)) o = q + pEnd (s.drop q) 0) := Lib.hid (by rw [← HE.out, HST2.out, if_neg e32, if_neg e40, if_neg e41]; omega)
          clear HST2 e32 e40 e41 HE
          go_wp2_with fail
          go_roundg (s.length - (k + 1))
          case measure => omega
          case rel => exact ⟨k + 1, o, by omega, rfl, by first | rfl | (simp; done), rfl, by omega, by omega, rfl, HV⟩
        · have hlt' : decide ((k : Int) < (s.length : Int)) = false := by simp; omega
          have HSTOP : Hid (pEnd (s.drop k) o = 0) := Lib.hid (by rw [List.drop_eq_nil_of_le (by omega)]; rfl)
          have HK : Hid (k = q + pEnd (s.drop q) 0) := Lib.hid (by rw [← HE.out, HSTOP.out]; rfl)
          have hx := ext_midR s q (pEnd (s.drop q) 0)
          rw [← HK.out] at hx
          have HT : Hid (tkR s q = ((s.drop q).take (pEnd (s.drop q) 0), q) :: tkR s (q + pEnd (s.drop q) 0)) := Lib.hid HTK.out
          obtain ⟨tx, HTX⟩ : ∃ x, Hid ((s.drop q).take (pEnd (s.drop q) 0) = x) := ⟨_, Lib.hid rfl⟩
          rw [HTX.out] at hx HT
          have b1 : (q : Int) ≤ (k : Int) := by have := HK.out; omega
          have b2 : (k : Int) ≤ ((bs s).size : Int) := by omega
          have b3 : k ≤ (bs s).size := by rw [bs_size]; exact hk
          have b4 : q ≤ k := by have := HK.out; omega
          clear HK HSTOP HE HTK HTX
          go_upto_region 15 with fail
          refine wp_region_plan (fun W => W.cell? ⟨gx, 0, none⟩ = some (.string (bs s)) ∧ W.cell? ⟨gx, 1, none⟩ = some (.int .i64 (q : Int))) [(false, 0), (false, 1), (false, 2), (false, 3), (false, 4), (false, 5), (false, 6), (false, 7), (false, 8), (false, 9), (false, 10)] (by kernel_rfl) (by kernel_rfl) (⟨z0, z1⟩) ?_
          simp only [planOps, List.map, List.getD_cons_zero, List.getD_cons_succ]
          iterate 11 ((first | refine plan_quiet (v := ?_) rfl rfl (fun w' hw' => ?_) ?_ | refine plan_calm (v := ?_) (tt_of) rfl (fun w' hw' => ?_) ?_); rotate_left; (focus (go_simp <;> (first | with_reducible rfl | (rw [if_neg (by simp [undef])]; try rfl) | omega))); simp only [Act.put, List.setIfInBounds_toArray, List.set_cons_zero, List.set_cons_succ])
          refine plan_end ?_
          have kd : Blk W2.drew gx 52 #[.string (bs s), .int .i64 (q : Int), .string ⟨#[]⟩, .int .i64 fa, .int .i64 fc, .int .i64 (n : Int)] := hB2
          go_wp2_with fail
          go_ret
          exact ⟨tx, q, _, HEQ.out.trans HT.out, rfl, hq, kd, hk2.drew⟩
end Go.Proofs.YtjdcegogkafmoaaDoor

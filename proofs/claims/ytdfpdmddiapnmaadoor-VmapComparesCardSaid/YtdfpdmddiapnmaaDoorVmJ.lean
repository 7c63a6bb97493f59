/- The walk of the reference's text of a core. -/
import Derived.Test.YtdfpdmddiapnmaaDoorVmI
import Derived.Test.YtdfpdmddiapnmaaDoorVmE
namespace Go.Proofs.YtdfpdmddiapnmaaDoor
open Go.RowKit
def epR (c : Co) : List UInt8 := if c.epoch = 0 then [] else decI c.epoch ++ [58]
theorem epR_eq (f : Int) (c : Co) (h : f = 3 → c.epoch = 0) : epT f c = epR c := by
  unfold epT epR
  by_cases h0 : c.epoch = 0
  · rw [if_neg (fun x => x.2 h0), if_pos h0]
  · rw [if_pos ⟨fun e => h0 (h e), h0⟩, if_neg h0]
theorem CB.drew {w : World} {g : Nat} {c : Co} {nv : Value} (h : CB w g c nv) : CB w.drew g c nv := Blk.drew h
set_option maxRecDepth 100000 in
set_option maxHeartbeats 16000000 in
theorem rtext_any (f : Int) (c : Co) (nv : Value) (X : Nat → Prop) (w : World) (hsl0 : Sl 1 Rint X w nv c.nums) (hS : CoS c) (h70 : c.nums.length ≤ 70) (h3 : f = 3 → c.epoch = 0) :
    Calls Tryd.prog 46 #[.int .i64 f, coV c nv] w fun e w' => e = .returned (.string (bs (textC f c))) ∧ Below w.heap.size w w' := by
  have hsl := hsl0.any good_int (by omega)
  obtain ⟨A, cap, rfl, hc1, hc2⟩ := hsl.form
  unfold maxLen at hc2
  clear hsl0
  have HS := Lib.hid hS
  have hpre := preT_len f c hS
  have HT : Hid (textC f c = epR c ++ (numsT c.nums ++ (c.letter ++ (preT f c ++ (dashF f ++ decI c.rev))))) := Lib.hid (by rw [← epR_eq f c h3]; simp [textC, propT])
  have her : (epR c).length ≤ 20 := by
    unfold epR
    split
    · simp
    · have := decI_len c.epoch hS.ep
      simp only [List.length_append, List.length_cons, List.length_nil]
      omega
  obtain ⟨_, _, _, _, s1, s2, s3⟩ := hS
  obtain ⟨t0, hb0, hz0⟩ := chk0_cb w c (.slice A c.nums.length cap)
  have hlt0 : w.heap.size < (chk0 w c (.slice A c.nums.length cap)).heap.size := by omega
  clear hz0 h3
  show Calls Tryd.prog 46 #[.int .i64 f, .agg #[.int .i64 c.epoch, .slice A c.nums.length cap, .string (bs c.letter), .string (bs c.pre), .int .i64 c.preNum, .int .i64 c.rev]] w _
  go_enter Tryd.func46, Tryd.ntmps46
  go_upto_region 1 with fail
  have hW : chk0 w c (.slice A c.nums.length cap) = w.alloc (.cells #[.int .i64 c.epoch, .slice A c.nums.length cap, .string (bs c.letter), .string (bs c.pre), .int .i64 c.preNum, .int .i64 c.rev] 30) := rfl
  rw [← hW]
  clear hW
  generalize chk0 w c (.slice A c.nums.length cap) = w0 at t0 hb0 hlt0 ⊢
  have hcat := bs_app
  have hsz := bs_size
  obtain ⟨d0, d1, d2, d3, d4, d5⟩ := t0.cells
  go_upto_if 10 with fail
  go_cut [5] (fun s5 wx => s5 = .string (bs (epR c)) ∧ CB wx w.heap.size c (.slice A c.nums.length cap) ∧ Below w.heap.size w wx)
  case first =>
    have HE : Hid (epR c = if c.epoch = 0 then [] else decI c.epoch ++ [58]) := Lib.hid rfl
    by_cases h0 : c.epoch = 0
    · have HV : Hid (epR c = []) := Lib.hid (by rw [HE.out, if_pos h0])
      have b1 : (c.epoch != 0) = false := by simpa using h0
      clear h0
      rw [b1]
      go_wp2_with fail
      go_meet
      rw [HV.out]
      exact ⟨rfl, t0, hb0⟩
    · have HV : Hid (epR c = decI c.epoch ++ [58]) := Lib.hid (by rw [HE.out, if_neg h0])
      have b1 : (c.epoch != 0) = true := by simpa using h0
      have hlep := HS.out.ep
      have r1 : ∀ q, bs q ++ (⟨#[58]⟩ : ByteArray) = bs (q ++ [58]) := fun q => bs_app q [58]
      have hdl := decI_len c.epoch hlep
      have o1 : ¬ 9223372036854775807 < (decI c.epoch).length + 1 := by omega
      clear h0
      rw [b1]
      go_wp2_with fail
      refine (rdec_i c.epoch _ hlep).mono ?_
      rintro e w1 ⟨rfl, hb1⟩
      go_wp2_with fail
      go_meet
      rw [HV.out]
      exact ⟨rfl, t0.below hb1 hlt0, hb0.trans (hb1.mono (by omega))⟩
  case rest =>
    clear d0 d1 d2 d3 d4 d5 t0 hb0 hlt0
    obtain ⟨rfl, t1, hb1⟩ := hcut
    obtain ⟨er, Her⟩ : ∃ x, Hid (epR c = x) := ⟨_, Lib.hid rfl⟩
    rw [Her.out] at her HT ⊢
    go_wp2_with fail
    go_loopg [5, 6] c.nums.length (fun G s5 s6 wx => ∃ (k : Nat) (Y : List UInt8), k ≤ c.nums.length ∧ G = c.nums.length - k ∧ s6 = .int .i64 k ∧ s5 = .string (bs Y) ∧ Y.length ≤ 20 + 20 * k ∧ Hid (Y = er ++ numsT (c.nums.take k)) ∧ CB wx w.heap.size c (.slice A c.nums.length cap) ∧ Below w.heap.size w wx)
    case atStart => exact ⟨0, er, Nat.zero_le _, rfl, rfl, rfl, by omega, Lib.hid (by simp [numsT, Lib.join]), t1, hb1⟩
    case round =>
      clear t1 hb1 her
      obtain ⟨k, Y, hk, rfl, rfl, rfl, hY, HY, tk, hbk⟩ := hrel
      obtain ⟨d0, d1, d2, d3, d4, d5⟩ := tk.cells
      have hltk := tk.lt
      by_cases hlt : k < c.nums.length
      · obtain ⟨_, _, _, b, off, rfl, hc⟩ := hsl.ints (by omega)
        have hbw := lt_of_cell (hc k hlt)
        have ck := (hbk.cell (p := ⟨b, off + k, none⟩) hbw).trans (hc k hlt)
        have hn := HS.out.nums _ (List.getElem_mem hlt)
        have HN : Hid (numsT (c.nums.take (k + 1)) = if c.nums.take k = [] then decI c.nums[k] else numsT (c.nums.take k) ++ (46 :: decI c.nums[k])) := Lib.hid (by rw [take_snoc _ _ hlt, numsT_snoc])
        clear hc d0 d2 d3 d4 d5
        generalize c.nums[k] = n at ck hn HN
        have hdl := decI_len n hn
        have h70' : k < 70 := by omega
        by_cases h0 : k = 0
        · subst h0
          rw [Nat.add_zero] at ck
          have HV : Hid (er ++ numsT (c.nums.take 1) = Y ++ decI n) := Lib.hid (by rw [HN.out, HY.out]; simp [numsT, Lib.join])
          have o1 : ¬ 9223372036854775807 < Y.length + (decI n).length := by omega
          clear HN HY
          go_wp2_with fail
          refine (rdec_i n _ hn).mono ?_
          rintro e w2 ⟨rfl, hb2⟩
          have t2 := tk.below hb2 hltk
          go_wp2_with fail
          go_roundg (c.nums.length - 1)
          case measure => omega
          case rel => exact ⟨1, Y ++ decI n, by omega, rfl, by go_num, rfl, by rw [List.length_append]; omega, Lib.hid HV.out.symm, t2, hbk.trans (hb2.mono (by omega))⟩
        · have hk0 : 0 < k := by omega
          have htl : (c.nums.take k).length = k := by rw [List.length_take]; omega
          have HV : Hid (er ++ numsT (c.nums.take (k + 1)) = Y ++ (46 :: decI n)) := Lib.hid (by rw [HN.out, HY.out, if_neg (by intro e; rw [e] at htl; simp at htl; omega)]; simp)
          have r1 : ∀ q, bs q ++ (⟨#[46]⟩ : ByteArray) = bs (q ++ [46]) := fun q => bs_app q [46]
          have o1 : ¬ 9223372036854775807 < Y.length + 1 := by omega
          have o2 : ¬ 9223372036854775807 < Y.length + 1 + (decI n).length := by omega
          clear h0 HN HY htl
          go_wp2_with fail
          refine (rdec_i n _ hn).mono ?_
          rintro e w2 ⟨rfl, hb2⟩
          have t2 := tk.below hb2 hltk
          go_wp2_with fail
          go_roundg (c.nums.length - (k + 1))
          case measure => omega
          case rel => exact ⟨k + 1, Y ++ (46 :: decI n), by omega, rfl, by go_num, by simp, by simp only [List.length_append, List.length_cons]; omega, Lib.hid HV.out.symm, t2, hbk.trans (hb2.mono (by omega))⟩
      · obtain rfl : k = c.nums.length := by omega
        rw [List.take_length] at HY
        have HT2 : Hid (textC f c = ((Y ++ c.letter) ++ preT f c) ++ (dashF f ++ decI c.rev)) := Lib.hid (by rw [HT.out, HY.out]; simp)
        have hY2 : Y.length ≤ 1420 := by omega
        clear HT HY hlt hk hY d0
        have hpn := HS.out.pn
        have hrv := HS.out.rv
        have hdp := decI_len c.preNum hpn
        have hdr := decI_len c.rev hrv
        have o0 : ¬ 9223372036854775807 < Y.length + c.letter.length := by omega
        go_upto_region 11 with fail
        obtain ⟨Y2, HY2⟩ : ∃ x, Hid (Y ++ c.letter = x) := ⟨_, Lib.hid rfl⟩
        have hl2 : Y2.length ≤ 1520 := by rw [← HY2.out, List.length_append]; omega
        rw [HY2.out] at HT2 ⊢
        clear o0 hY2 d1 d2
        have r5 : ∀ q, bs q ++ (⟨#[45, 114]⟩ : ByteArray) = bs (q ++ [45, 114]) := fun q => bs_app q [45, 114]
        have r6 : ∀ q, bs q ++ (⟨#[45]⟩ : ByteArray) = bs (q ++ [45]) := fun q => bs_app q [45]
        have r7 : ∀ q, bs q ++ (⟨#[95]⟩ : ByteArray) = bs (q ++ [95]) := fun q => bs_app q [95]
        have r8 : ∀ q, bs q ++ (⟨#[126]⟩ : ByteArray) = bs (q ++ [126]) := fun q => bs_app q [126]
        have HD : Hid (dashF f = if f = 3 then [45, 114] else [45]) := Lib.hid rfl
        have HS3 : Hid (sgnB f = if f = 3 then 95 else 126) := Lib.hid rfl
        have HQ : Hid (preT f c = if c.pre = [] then [] else sgnB f :: (c.pre ++ decI c.preNum)) := Lib.hid rfl
        have o1 : ¬ 9223372036854775807 < Y2.length + 1 := by omega
        have o2 : ¬ 9223372036854775807 < Y2.length + 1 + c.pre.length := by omega
        have o3 : ¬ 9223372036854775807 < Y2.length + (c.pre.length + 1) + (decI c.preNum).length := by omega
        by_cases hp : c.pre = []
        · have n1 : (bs c.pre).toList = [] := by rw [toList_bs]; exact hp
          have n2 : (bs c.pre).toList.isEmpty = true := by rw [n1]; rfl
          have HQ2 : Hid (preT f c = []) := Lib.hid (by rw [HQ.out, if_pos hp])
          have p1 : ¬ 9223372036854775807 < Y2.length + 2 := by omega
          have p2 : ¬ 9223372036854775807 < Y2.length + 2 + (decI c.rev).length := by omega
          have p4 : ¬ 9223372036854775807 < Y2.length + 1 + (decI c.rev).length := by omega
          clear hp
          by_cases h3 : f = 3
          · have b3 : (f == 3) = true := by simpa using h3
            have HV : Hid (textC f c = (Y2 ++ [45, 114]) ++ decI c.rev) := Lib.hid (by rw [HT2.out, HQ2.out, HD.out, if_pos h3]; simp)
            clear h3
            go_wp2_with fail
            refine (rdec_i c.rev _ hrv).mono ?_
            rintro e w2 ⟨rfl, hb2⟩
            go_wp2_with fail
            go_ret
            exact ⟨by rw [HV.out]; simp only [List.append_assoc, List.cons_append, List.nil_append]; first | done | rfl, hbk.trans (hb2.mono (by omega))⟩
          · have b3 : (f == 3) = false := by simpa using h3
            have HV : Hid (textC f c = (Y2 ++ [45]) ++ decI c.rev) := Lib.hid (by rw [HT2.out, HQ2.out, HD.out, if_neg h3]; simp)
            clear h3
            go_wp2_with fail
            refine (rdec_i c.rev _ hrv).mono ?_
            rintro e w2 ⟨rfl, hb2⟩
            go_wp2_with fail
            go_ret
            exact ⟨by rw [HV.out]; simp only [List.append_assoc, List.cons_append, List.nil_append]; first | done | rfl, hbk.trans (hb2.mono (by omega))⟩
        · have n1 : ¬ (bs c.pre).toList = [] := by rw [toList_bs]; exact hp
          have n2 : (bs c.pre).toList.isEmpty = false := by simpa using n1
          have HQ2 : Hid (preT f c = sgnB f :: (c.pre ++ decI c.preNum)) := Lib.hid (by rw [HQ.out, if_neg hp])
          clear hp
          by_cases h3 : f = 3
          · have b3 : (f == 3) = true := by simpa using h3
            have HV : Hid (textC f c = (Y2 ++ (95 :: (c.pre ++ decI c.preNum))) ++ ([45, 114] ++ decI c.rev)) := Lib.hid (by rw [HT2.out, HQ2.out, HD.out, HS3.out, if_pos h3, if_pos h3])
            clear h3
            go_wp2_with fail
            refine wp_region_plan (fun W => W.cell? ⟨w.heap.size, 3, none⟩ = some (.string (bs c.pre)) ∧ W.cell? ⟨w.heap.size, 4, none⟩ = some (.int .i64 c.preNum)) [(false, 0), (false, 1), (false, 2), (false, 3), (false, 4), (false, 5), (false, 6), (false, 7), (true, 8), (false, 9), (false, 10)] (by kernel_rfl) (by kernel_rfl) (⟨by simpa using d3, by simpa using d4⟩) ?_
            simp only [planOps, List.map, List.getD_cons_zero, List.getD_cons_succ]
            iterate 8 ((first | refine plan_quiet (v := ?_) rfl rfl (fun w' hw' => ?_) ?_ | refine plan_calm (v := ?_) (tt_of) rfl (fun w' hw' => ?_) ?_); rotate_left; (focus (go_simp <;> with_reducible rfl)); simp only [Act.put, List.setIfInBounds_toArray, List.set_cons_zero, List.set_cons_succ])
            refine plan_loud rfl (fun K hK => ?_)
            go_simp
            refine (rdec_i c.preNum _ hpn).mono ?_
            rintro e w2 ⟨rfl, hb2⟩
            have t2 := tk.drew.below hb2 hltk
            have hb02 := hbk.drew.trans (hb2.mono (by show w.heap.size ≤ wr.heap.size; omega))
            obtain ⟨_, _, _, e3, e4, e5⟩ := t2.cells
            refine hK _ _ (⟨e3, e4⟩) ?_
            clear hK K
            (try simp only [Act.put, List.setIfInBounds_toArray, List.set_cons_zero, List.set_cons_succ])
            iterate 2 ((first | refine plan_quiet (v := ?_) rfl rfl (fun w' hw' => ?_) ?_ | refine plan_calm (v := ?_) (tt_of) rfl (fun w' hw' => ?_) ?_); rotate_left; (focus (go_simp <;> with_reducible rfl)); simp only [Act.put, List.setIfInBounds_toArray, List.set_cons_zero, List.set_cons_succ])
            refine plan_end ?_
            clear d3 d4 d5 o1 o2 o3
            go_upto_region 16 with fail
            obtain ⟨Y3, HY3⟩ : ∃ x, Hid (Y2 ++ 95 :: (c.pre ++ decI c.preNum) = x) := ⟨_, Lib.hid rfl⟩
            have hl3 : Y3.length ≤ 1700 := by rw [← HY3.out]; simp only [List.length_append, List.length_cons]; omega
            rw [HY3.out] at HV ⊢
            have p1 : ¬ 9223372036854775807 < Y3.length + 2 := by omega
            have p2 : ¬ 9223372036854775807 < Y3.length + 2 + (decI c.rev).length := by omega
            have p3 : ¬ 9223372036854775807 < Y3.length + 1 := by omega
            have p4 : ¬ 9223372036854775807 < Y3.length + 1 + (decI c.rev).length := by omega
            clear e3 e4
            go_wp2_with fail
            refine (rdec_i c.rev _ hrv).mono ?_
            rintro e w3 ⟨rfl, hb3⟩
            go_wp2_with fail
            go_ret
            exact ⟨by rw [HV.out]; simp only [List.append_assoc, List.cons_append, List.nil_append]; first | done | rfl, hb02.trans (hb3.mono (by have := hb02.size; omega))⟩
          · have b3 : (f == 3) = false := by simpa using h3
            have HV : Hid (textC f c = (Y2 ++ (126 :: (c.pre ++ decI c.preNum))) ++ ([45] ++ decI c.rev)) := Lib.hid (by rw [HT2.out, HQ2.out, HD.out, HS3.out, if_neg h3, if_neg h3])
            clear h3
            go_wp2_with fail
            refine wp_region_plan (fun W => W.cell? ⟨w.heap.size, 3, none⟩ = some (.string (bs c.pre)) ∧ W.cell? ⟨w.heap.size, 4, none⟩ = some (.int .i64 c.preNum)) [(false, 0), (false, 1), (false, 2), (false, 3), (false, 4), (false, 5), (false, 6), (false, 7), (true, 8), (false, 9), (false, 10)] (by kernel_rfl) (by kernel_rfl) (⟨by simpa using d3, by simpa using d4⟩) ?_
            simp only [planOps, List.map, List.getD_cons_zero, List.getD_cons_succ]
            iterate 8 ((first | refine plan_quiet (v := ?_) rfl rfl (fun w' hw' => ?_) ?_ | refine plan_calm (v := ?_) (tt_of) rfl (fun w' hw' => ?_) ?_); rotate_left; (focus (go_simp <;> with_reducible rfl)); simp only [Act.put, List.setIfInBounds_toArray, List.set_cons_zero, List.set_cons_succ])
            refine plan_loud rfl (fun K hK => ?_)
            go_simp
            refine (rdec_i c.preNum _ hpn).mono ?_
            rintro e w2 ⟨rfl, hb2⟩
            have t2 := tk.drew.below hb2 hltk
            have hb02 := hbk.drew.trans (hb2.mono (by show w.heap.size ≤ wr.heap.size; omega))
            obtain ⟨_, _, _, e3, e4, e5⟩ := t2.cells
            refine hK _ _ (⟨e3, e4⟩) ?_
            clear hK K
            (try simp only [Act.put, List.setIfInBounds_toArray, List.set_cons_zero, List.set_cons_succ])
            iterate 2 ((first | refine plan_quiet (v := ?_) rfl rfl (fun w' hw' => ?_) ?_ | refine plan_calm (v := ?_) (tt_of) rfl (fun w' hw' => ?_) ?_); rotate_left; (focus (go_simp <;> with_reducible rfl)); simp only [Act.put, List.setIfInBounds_toArray, List.set_cons_zero, List.set_cons_succ])
            refine plan_end ?_
            clear d3 d4 d5 o1 o2 o3
            go_upto_region 16 with fail
            obtain ⟨Y3, HY3⟩ : ∃ x, Hid (Y2 ++ 126 :: (c.pre ++ decI c.preNum) = x) := ⟨_, Lib.hid rfl⟩
            have hl3 : Y3.length ≤ 1700 := by rw [← HY3.out]; simp only [List.length_append, List.length_cons]; omega
            rw [HY3.out] at HV ⊢
            have p1 : ¬ 9223372036854775807 < Y3.length + 2 := by omega
            have p2 : ¬ 9223372036854775807 < Y3.length + 2 + (decI c.rev).length := by omega
            have p3 : ¬ 9223372036854775807 < Y3.length + 1 := by omega
            have p4 : ¬ 9223372036854775807 < Y3.length + 1 + (decI c.rev).length := by omega
            clear e3 e4
            go_wp2_with fail
            refine (rdec_i c.rev _ hrv).mono ?_
            rintro e w3 ⟨rfl, hb3⟩
            go_wp2_with fail
            go_ret
            exact ⟨by rw [HV.out]; simp only [List.append_assoc, List.cons_append, List.nil_append]; first | done | rfl, hb02.trans (hb3.mono (by have := hb02.size; omega))⟩
end Go.Proofs.YtdfpdmddiapnmaaDoor

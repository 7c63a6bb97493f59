/- The walk of a core's text. -/
import Derived.Test.YtdfpdmddiapnmaaDoorVmB
namespace Go.Proofs.YtdfpdmddiapnmaaDoor
open Go.RowKit
/-- A core that is not too large to be looked at. -/
structure CoS (c : Co) : Prop where
  nums : ∀ n ∈ c.nums, n ≤ 9223372036854775807
  ep : c.epoch ≤ 9223372036854775807
  pn : c.preNum ≤ 9223372036854775807
  rv : c.rev ≤ 9223372036854775807
  count : c.nums.length ≤ 300
  lt : c.letter.length ≤ 100
  pr : c.pre.length ≤ 100
theorem epT_len (f : Int) (c : Co) (h : CoS c) : (epT f c).length ≤ 20 := by
  unfold epT
  split
  · have := decI_len c.epoch h.ep
    simp only [List.length_append, List.length_cons, List.length_nil]
    omega
  · simp
theorem preT_len (f : Int) (c : Co) (h : CoS c) : (preT f c).length ≤ 120 := by
  unfold preT
  split
  · simp
  · have := decI_len c.preNum h.pn
    have := h.pr
    simp only [List.length_append, List.length_cons]
    omega
def eB (f : Int) (c : Co) : Bool := decide (f ≠ 3 ∧ c.epoch ≠ 0)
def text0 (w : World) (c : Co) (nv : Value) : World := (w.alloc (.cells #[.int .i64 c.epoch, nv, .string (bs c.letter), .string (bs c.pre), .int .i64 c.preNum, .int .i64 c.rev] 30)).alloc (.cells #[.pointer none, .slice none 0 0] 86)
theorem txw0 (w : World) (c : Co) (nv : Value) : TxW w c nv [] (text0 w c nv) := by
  refine ⟨?_, (Blk.new w 30 _).alloc _, ((Below.refl _ _).alloc (Nat.le_refl _) _).alloc (by simp) _⟩
  have := bld_fresh (w.alloc (.cells #[.int .i64 c.epoch, nv, .string (bs c.letter), .string (bs c.pre), .int .i64 c.preNum, .int .i64 c.rev] 30)) (B := w.heap.size + 1) (by simp)
  rw [show (w.alloc (.cells #[.int .i64 c.epoch, nv, .string (bs c.letter), .string (bs c.pre), .int .i64 c.preNum, .int .i64 c.rev] 30)).heap.size = w.heap.size + 1 by simp] at this
  exact this
set_option maxRecDepth 100000 in
set_option maxHeartbeats 8000000 in
theorem text_any (f : Int) (c : Co) (nv : Value) (X : Nat → Prop) (w : World) (hsl : Sl 1 Rint X w nv c.nums) (hS : CoS c) (ht : Tab w) :
    Calls Tryd.prog 41 #[.int .i64 f, coV c nv] w fun e w' => e = .returned (.string (bs (textC f c))) ∧ Below w.heap.size w w' := by
  obtain ⟨A, cap, rfl, hc1, hc2⟩ := hsl.form
  unfold maxLen at hc2
  have t0 := txw0 w c (.slice A c.nums.length cap)
  have HS := Lib.hid hS
  have hep := epT_len f c hS
  have hpre := preT_len f c hS
  have hnl := numsT_len c.nums hS.nums
  obtain ⟨_, _, _, _, s1, s2, s3⟩ := hS
  have HT : Hid (textC f c = epT f c ++ (numsT c.nums ++ (c.letter ++ (preT f c ++ (dashF f ++ decI c.rev))))) := Lib.hid (by simp [textC, propT])
  show Calls Tryd.prog 41 #[.int .i64 f, .agg #[.int .i64 c.epoch, .slice A c.nums.length cap, .string (bs c.letter), .string (bs c.pre), .int .i64 c.preNum, .int .i64 c.rev]] w _
  go_enter Tryd.func41, Tryd.ntmps41
  go_wp2_with fail
  refine (signs_any f _).mono ?_
  rintro e wq ⟨rfl, rfl⟩
  go_upto_region 3 with fail
  have hW : text0 w c (.slice A c.nums.length cap) = (w.alloc (.cells #[.int .i64 c.epoch, .slice A c.nums.length cap, .string (bs c.letter), .string (bs c.pre), .int .i64 c.preNum, .int .i64 c.rev] 30)).alloc (.cells #[.pointer none, .slice none 0 0] 86) := rfl
  rw [← hW]
  clear hW
  generalize text0 w c (.slice A c.nums.length cap) = w0 at t0 ⊢
  have hcat := bs_app
  have hsz := bs_size
  go_cut [20] (fun s20 wx => s20 = .bool (eB f c) ∧ w0 = wx)
  case first =>
    obtain ⟨d0, _⟩ := t0.blk.cells
    have HE : Hid (eB f c = decide (f ≠ 3 ∧ c.epoch ≠ 0)) := Lib.hid rfl
    by_cases h3 : f = 3
    · have HV : Hid (eB f c = false) := Lib.hid (by rw [HE.out]; simp [h3])
      have b1 : (f != 3) = false := by simpa using h3
      clear h3
      go_wp2_with fail
      go_meet
      exact ⟨by rw [HV.out], rfl⟩
    · have b1 : (f != 3) = true := by simpa using h3
      by_cases h0 : c.epoch = 0
      · have HV : Hid (eB f c = false) := Lib.hid (by rw [HE.out]; simp [h0])
        have b2 : (c.epoch != 0) = false := by simpa using h0
        clear h3 h0
        go_wp2_with fail
        go_meet
        exact ⟨by rw [HV.out], rfl⟩
      · have HV : Hid (eB f c = true) := Lib.hid (by rw [HE.out]; simp [h0, h3])
        have b2 : (c.epoch != 0) = true := by simpa using h0
        clear h3 h0
        go_wp2_with fail
        go_meet
        exact ⟨by rw [HV.out], rfl⟩
  case rest =>
  obtain ⟨rfl, rfl⟩ := hcut
  go_upto_if 20 with fail
  go_cut [] (fun wx => TxW w c (.slice A c.nums.length cap) (epT f c) wx)
  case first =>
    obtain ⟨d0, _⟩ := t0.blk.cells
    have hlep := HS.out.ep
    cases hE : eB f c with
    | false =>
      have HV : Hid (epT f c = []) := Lib.hid (by rw [epT, if_neg (by simpa [eB] using hE)])
      go_wp2_with fail
      go_meet
      rw [HV.out]
      exact t0
    | true =>
      have HV : Hid (epT f c = decI c.epoch ++ [58]) := Lib.hid (by rw [epT, if_pos (by simpa [eB] using hE)])
      have r1 : ∀ q, bs q ++ (⟨#[58]⟩ : ByteArray) = bs (q ++ [58]) := fun q => bs_app q [58]
      have hdl := decI_len c.epoch hlep
      have o1 : ¬ 9223372036854775807 < (decI c.epoch).length + 1 := by omega
      go_wp2_with fail
      refine (dec_i c.epoch _ hlep (ht.below t0.below)).mono ?_
      rintro e w1 ⟨rfl, hb1⟩
      have t1 := t0.keep hb1
      go_wp2_with fail
      refine (wstr _ _ [] (decI c.epoch ++ [58]) _ t1.bld (by simp; omega) (by have := t1.big; omega)).mono ?_
      rintro e w2 ⟨rfl, hB2, hb2⟩
      go_wp2_with fail
      go_meet
      rw [HV.out]
      exact t1.put hB2 hb2
  case rest =>
    have t1 := hcut
    clear t0 hcut
    obtain ⟨_, d1, _⟩ := t1.blk.cells
    go_wp2_with fail
    clear d1
    go_loopg [29] c.nums.length (fun G s29 wx => ∃ k : Nat, k ≤ c.nums.length ∧ G = c.nums.length - k ∧ s29 = .int .i64 k ∧ TxW w c (.slice A c.nums.length cap) (epT f c ++ numsT (c.nums.take k)) wx)
    case atStart => exact ⟨0, Nat.zero_le _, rfl, rfl, by rw [List.take_zero, show numsT [] = [] from rfl, List.append_nil]; exact t1⟩
    case round =>
      clear t1
      obtain ⟨k, hk, rfl, rfl, tk⟩ := hrel
      obtain ⟨_, d1, d2, d3, d4, d5⟩ := tk.blk.cells
      have htk := ht.below tk.below
      have hbig := tk.big
      have hkl : (numsT (c.nums.take k)).length ≤ 6000 := by
        have := numsT_len (c.nums.take k) (fun n hn => HS.out.nums n (List.mem_of_mem_take hn))
        rw [List.length_take] at this
        omega
      by_cases hlt : k < c.nums.length
      · obtain ⟨_, _, _, b, off, rfl, hc⟩ := hsl.ints (by omega)
        have hbw := lt_of_cell (hc k hlt)
        have ck := (tk.below.cell (p := ⟨b, off + k, none⟩) hbw).trans (hc k hlt)
        have hn := HS.out.nums _ (List.getElem_mem hlt)
        have HN : Hid (numsT (c.nums.take (k + 1)) = if c.nums.take k = [] then decI c.nums[k] else numsT (c.nums.take k) ++ (46 :: decI c.nums[k])) := Lib.hid (by rw [take_snoc _ _ hlt, numsT_snoc])
        clear hc d2 d3 d4 d5
        generalize c.nums[k] = n at ck hn HN
        have hdl := decI_len n hn
        by_cases h0 : k = 0
        · subst h0
          rw [Nat.add_zero] at ck
          have HV : Hid (numsT (c.nums.take 1) = decI n) := Lib.hid (by rw [HN.out]; simp)
          rw [List.take_zero, show numsT [] = [] from rfl, List.append_nil] at tk
          clear HN
          go_wp2_with fail
          refine (dec_i n _ hn htk).mono ?_
          rintro e w2 ⟨rfl, hb2⟩
          have t2 := tk.keep hb2
          go_wp2_with fail
          refine (wstr _ _ _ (decI n) _ t2.bld (by omega) (by have := t2.big; omega)).mono ?_
          rintro e w3 ⟨rfl, hB3, hb3⟩
          have t3 := t2.put hB3 hb3
          go_wp2_with fail
          go_roundg (c.nums.length - 1)
          case measure => omega
          case rel => exact ⟨1, by omega, rfl, by go_num, by rw [HV.out]; exact t3⟩
        · have hk0 : 0 < k := by omega
          have htl : (c.nums.take k).length = k := by rw [List.length_take]; omega
          have HV : Hid (numsT (c.nums.take (k + 1)) = numsT (c.nums.take k) ++ ([46] ++ decI n)) := Lib.hid (by rw [HN.out, if_neg (by intro e; rw [e] at htl; simp at htl; omega)]; rfl)
          clear h0 HN htl
          go_wp2_with fail
          refine (wstr _ _ _ [46] _ tk.bld (by simp only [List.length_append, List.length_cons, List.length_nil]; omega) (by omega)).mono ?_
          rintro e w1 ⟨rfl, hB1, hb1⟩
          have t1 := tk.put hB1 hb1
          obtain ⟨_, d1, _⟩ := t1.blk.cells
          have hpw : wr.heap.size ≤ w1.heap.size := hb1.size
          have ck := (hb1.cell (p := ⟨b, off + k, none⟩) (by show b < w.heap.size + 1; omega)).trans ck
          go_wp2_with fail
          refine (dec_i n _ hn (ht.below t1.below)).mono ?_
          rintro e w2 ⟨rfl, hb2⟩
          have t2 := t1.keep hb2
          go_wp2_with fail
          refine (wstr _ _ _ (decI n) _ t2.bld (by simp only [List.length_append, List.length_cons, List.length_nil]; omega) (by have := t2.big; omega)).mono ?_
          rintro e w3 ⟨rfl, hB3, hb3⟩
          have t3 := t2.put hB3 hb3
          go_wp2_with fail
          go_roundg (c.nums.length - (k + 1))
          case measure => omega
          case rel => exact ⟨k + 1, by omega, rfl, by go_num, by rw [HV.out]; simpa using t3⟩
      · obtain rfl : k = c.nums.length := by omega
        rw [List.take_length] at tk hkl
        have HT2 : Hid (textC f c = (((epT f c ++ numsT c.nums) ++ c.letter) ++ preT f c) ++ (dashF f ++ decI c.rev)) := Lib.hid (by rw [HT.out]; simp)
        clear hlt hk HT htk
        go_wp2_with fail
        refine (wstr _ _ _ c.letter _ tk.bld (by simp only [List.length_append]; omega) (by omega)).mono ?_
        rintro e w1 ⟨rfl, hB1, hb1⟩
        have t1 := tk.put hB1 hb1
        clear tk hB1 hb1 d1 d2 d3 d4 d5 hbig
        obtain ⟨_, _, _, d3, d4, d5⟩ := t1.blk.cells
        have hpn := HS.out.pn
        have hrv := HS.out.rv
        have hdp := decI_len c.preNum hpn
        have hdr := decI_len c.rev hrv
        have hdf : (dashF f).length ≤ 2 := by unfold dashF; split <;> decide
        have o1 : ¬ 9223372036854775807 < 1 + c.pre.length := by omega
        have o2 : ¬ 9223372036854775807 < c.pre.length + 1 + (decI c.preNum).length := by omega
        have o3 : ¬ 9223372036854775807 < (dashF f).length + (decI c.rev).length := by omega
        by_cases hp : c.pre = []
        · have HP : Hid (preT f c = []) := Lib.hid (by rw [preT, if_pos hp])
          have n1 : (bs c.pre).toList = [] := by rw [toList_bs]; exact hp
          have n2 : (bs c.pre).toList.isEmpty = true := by rw [n1]; rfl
          clear hp
          go_wp2_with fail
          refine (dec_i c.rev _ hrv (ht.below t1.below)).mono ?_
          rintro e w2 ⟨rfl, hb2⟩
          have t2 := t1.keep hb2
          go_wp2_with fail
          refine (wstr _ _ _ (dashF f ++ decI c.rev) _ t2.bld (by simp only [List.length_append]; omega) (by have := t2.big; omega)).mono ?_
          rintro e w3 ⟨rfl, hB3, hb3⟩
          have t3 := t2.put hB3 hb3
          go_wp2_with fail
          refine (bstr _ _ _ _ t3.bld (by have := t3.big; omega)).mono ?_
          rintro e w4 ⟨rfl, hb4⟩
          go_wp2_with fail
          go_ret
          exact ⟨by rw [HT2.out, HP.out]; simp only [List.append_nil, List.append_assoc]; first | done | rfl, t3.below.trans (hb4.mono (by omega))⟩
        · have HP : Hid (preT f c = sgnB f :: (c.pre ++ decI c.preNum)) := Lib.hid (by rw [preT, if_neg hp])
          have n1 : ¬ (bs c.pre).toList = [] := by rw [toList_bs]; exact hp
          have n2 : (bs c.pre).toList.isEmpty = false := by simpa using n1
          clear hp
          go_wp2_with fail
          refine wp_region_plan (fun W => W.cell? ⟨w.heap.size, 3, none⟩ = some (.string (bs c.pre)) ∧ W.cell? ⟨w.heap.size, 4, none⟩ = some (.int .i64 c.preNum)) [(false, 0), (false, 1), (false, 2), (false, 3), (false, 4), (false, 5), (true, 6), (false, 7), (true, 8)] (by kernel_rfl) (by kernel_rfl) (⟨by simpa using d3, by simpa using d4⟩) ?_
          simp only [planOps, List.map, List.getD_cons_zero, List.getD_cons_succ]
          iterate 6 ((first | refine plan_quiet (v := ?_) rfl rfl (fun w' hw' => ?_) ?_ | refine plan_calm (v := ?_) (tt_of) rfl (fun w' hw' => ?_) ?_); rotate_left; (focus (go_simp <;> with_reducible rfl)); simp only [Act.put, List.setIfInBounds_toArray, List.set_cons_zero, List.set_cons_succ])
          refine plan_loud rfl (fun K hK => ?_)
          go_simp
          refine (dec_i c.preNum _ hpn ((ht.below t1.below).below (Below.refl _ _).drew)).mono ?_
          rintro e w2 ⟨rfl, hb2⟩
          have t2 := t1.keep ((Below.refl _ _).drew.trans hb2)
          obtain ⟨_, _, _, e3, e4, e5⟩ := t2.blk.cells
          refine hK _ _ (⟨e3, e4⟩) ?_
          clear hK K
          (try simp only [Act.put, List.setIfInBounds_toArray, List.set_cons_zero, List.set_cons_succ])
          iterate 1 ((first | refine plan_quiet (v := ?_) rfl rfl (fun w' hw' => ?_) ?_ | refine plan_calm (v := ?_) (tt_of) rfl (fun w' hw' => ?_) ?_); rotate_left; (focus (go_simp <;> with_reducible rfl)); simp only [Act.put, List.setIfInBounds_toArray, List.set_cons_zero, List.set_cons_succ])
          refine plan_loud rfl (fun K hK => ?_)
          go_simp
          refine (wstr _ _ _ (sgnB f :: (c.pre ++ decI c.preNum)) _ t2.bld (by simp only [List.length_append, List.length_cons, List.length_nil]; omega) (by have := t2.big; omega)).mono ?_
          rintro e w3 ⟨rfl, hB3, hb3⟩
          have t3 := t2.put hB3 hb3
          obtain ⟨_, _, _, g3, g4, g5⟩ := t3.blk.cells
          refine hK _ _ (⟨g3, g4⟩) ?_
          clear hK K
          (try simp only [Act.put, List.setIfInBounds_toArray, List.set_cons_zero, List.set_cons_succ])
          refine plan_end ?_
          clear d3 d4 d5 e3 e4 e5
          go_wp2_with fail
          refine (dec_i c.rev _ hrv (ht.below t3.below)).mono ?_
          rintro e w4 ⟨rfl, hb4⟩
          have t4 := t3.keep hb4
          go_wp2_with fail
          refine (wstr _ _ _ (dashF f ++ decI c.rev) _ t4.bld (by simp only [List.length_append, List.length_cons, List.length_nil]; omega) (by have := t4.big; omega)).mono ?_
          rintro e w5 ⟨rfl, hB5, hb5⟩
          have t5 := t4.put hB5 hb5
          go_wp2_with fail
          refine (bstr _ _ _ _ t5.bld (by have := t5.big; omega)).mono ?_
          rintro e w6 ⟨rfl, hb6⟩
          go_wp2_with fail
          go_ret
          exact ⟨by rw [HT2.out, HP.out]; simp only [List.append_nil, List.append_assoc, List.cons_append, List.nil_append]; first | done | rfl, t5.below.trans (hb6.mono (by omega))⟩
end Go.Proofs.YtdfpdmddiapnmaaDoor

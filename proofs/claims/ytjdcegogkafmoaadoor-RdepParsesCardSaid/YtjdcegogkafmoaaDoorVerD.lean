/- Walks of strings.Cut at one byte, and of version's splits. Walks of the reference's place, and of version's splits. The walk of version.splitRpm. The walk of version.wordAt. The parts of an Apk version, in plain words. -/
import Derived.Test.YtjdcegogkafmoaaDoorVerA
import Derived.Test.YtjdcegogkafmoaaDoorPlaF
import Derived.Test.YtjdcegogkafmoaaDoorShelfW
namespace Go.Proofs.YtjdcegogkafmoaaDoor
open Go.RowKit
/-- A text ahead of a byte's first place, behind it, and whether it is there. -/
def cutA (l : List UInt8) (c : UInt8) : List UInt8 := if inB l c = true then l.take (Lib.indexByte l c).toNat else l
def cutB (l : List UInt8) (c : UInt8) : List UInt8 := if inB l c = true then l.drop ((Lib.indexByte l c).toNat + 1) else []
theorem idx1 (s : ByteArray) (c : UInt8) (w : World) : Calls Tryd.prog 78 #[.string s, .string ⟨#[c]⟩] w fun e w' => e = .returned (.int .i64 (Lib.indexByte s.data.toList c)) ∧ w = w' :=
  (Tryd.stringslite_Index_one s c w).mono fun e w' ⟨h1, h2⟩ => ⟨h1, h2.symm⟩
set_option maxRecDepth 20000 in
set_option maxHeartbeats 1000000 in
theorem lcut_any (s : ByteArray) (c : UInt8) (w : World) (hs : s.size ≤ 1000000000000) :
    Calls Tryd.prog 72 #[.string s, .string ⟨#[c]⟩] w fun e w' => e = .returned (.tuple #[.string (bs (cutA s.data.toList c)), .string (bs (cutB s.data.toList c)), .bool (inB s.data.toList c)]) ∧ Below w.heap.size w w' := by
  have hge := Lib.indexByte_ge s.data.toList c
  have hlt := indexByte_lt s.data.toList c
  by_cases h0 : 0 ≤ Lib.indexByte s.data.toList c
  · obtain ⟨k, hk⟩ := Int.eq_ofNat_of_zero_le h0
    have hkl : k < s.size := by simp at hlt; omega
    go_enter Tryd.func72, Tryd.ntmps72
    go_wp2_with fail
    refine (idx1 s c _).mono ?_
    rintro e w1 ⟨rfl, rfl⟩
    have hin : inB s.data.toList c = true := by simp [inB, h0]
    have HA : Hid (s.extract 0 k = bs (cutA s.data.toList c)) := Lib.hid (by rw [cutA, if_pos hin, hk, ext_take s k (by omega)]; simp)
    have HB : Hid (s.extract (k + 1) s.size = bs (cutB s.data.toList c)) := Lib.hid (by rw [cutB, if_pos hin, hk, ext_drop]; simp)
    have HI := Lib.hid hin
    rw [hk]
    clear hk h0 hlt hge hin
    have hi1 : (0 : Int) ≤ (k : Int) := by omega
    have hi2 : (k : Int) ≤ (s.size : Int) := by omega
    have hi3 : (0 : Int) ≤ (k : Int) + 1 := by omega
    have hi4 : (k : Int) + 1 ≤ (s.size : Int) := by omega
    have hi5 : ((k : Int) + 1).toNat = k + 1 := by omega
    have hi6 : IntKind.i64.wrap ((k : Int) + 1) = (k : Int) + 1 := i64_in _ (by omega) (by omega)
    go_wp2_with fail
    refine wp_region_plan (fun _ => True) [(false, 0), (false, 1), (false, 2), (false, 3), (false, 4), (false, 5), (false, 6), (false, 7), (false, 8), (false, 9), (false, 10), (false, 11)] (by kernel_rfl) (by kernel_rfl) (trivial) ?_
    simp only [planOps, List.map, List.getD_cons_zero, List.getD_cons_succ]
    iterate 12 ((first | refine plan_quiet (v := ?_) rfl rfl (fun w' hw' => ?_) ?_ | refine plan_calm (v := ?_) (tt_of) rfl (fun w' hw' => ?_) ?_); rotate_left; (focus (go_simp <;> (first | with_reducible rfl | (rw [if_neg (by simp [undef])]; try rfl) | omega))); simp only [Act.put, List.setIfInBounds_toArray, List.set_cons_zero, List.set_cons_succ])
    refine plan_end ?_
    go_wp2_with fail
    go_ret3
    exact ⟨by rw [← HA.out, ← HB.out, HI.out]; rfl, (Below.refl _ _).drew⟩
  · have hin : inB s.data.toList c = false := by simp [inB]; omega
    have h1 : Lib.indexByte s.data.toList c = -1 := by omega
    have HA : Hid (s = bs (cutA s.data.toList c)) := Lib.hid (by rw [cutA, if_neg (by rw [hin]; simp)]; rfl)
    have HB : Hid (⟨#[]⟩ = bs (cutB s.data.toList c)) := Lib.hid (by rw [cutB, if_neg (by rw [hin]; simp)]; rfl)
    have HI := Lib.hid hin
    go_enter Tryd.func72, Tryd.ntmps72
    go_wp2_with fail
    refine (idx1 s c _).mono ?_
    rintro e w1 ⟨rfl, rfl⟩
    rw [h1]
    clear hlt hge hin h0 h1
    go_wp2_with fail
    go_ret3
    exact ⟨by rw [← HA.out, ← HB.out, HI.out]; rfl, Below.refl _ _⟩
set_option maxHeartbeats 400000 in
theorem cut_any (s : ByteArray) (c : UInt8) (w : World) (hs : s.size ≤ 1000000000000) :
    Calls Tryd.prog 55 #[.string s, .string ⟨#[c]⟩] w fun e w' => e = .returned (.tuple #[.string (bs (cutA s.data.toList c)), .string (bs (cutB s.data.toList c)), .bool (inB s.data.toList c)]) ∧ Below w.heap.size w w' := by
  go_enter Tryd.func55, Tryd.ntmps55
  go_wp2_with fail
  refine (lcut_any s c _ hs).mono ?_
  rintro e w1 ⟨rfl, hb1⟩
  go_wp2_with fail
  go_ret3
  exact ⟨rfl, hb1⟩
end Go.Proofs.YtjdcegogkafmoaaDoor
namespace Go.Proofs.YtjdcegogkafmoaaDoor
open Go.RowKit
theorem lib_any (s : ByteArray) (w : World) (hs : s.size ≤ 1000000000000) : Calls Tryd.prog 57 #[.string s, .int .u8 45] w fun e w' => e = .returned (.int .i64 (Lib.lastIndexByte s 45)) ∧ w = w' :=
  (Tryd.strings_LastIndexByte s 45 (by omega) w).mono fun e w' ⟨h1, h2⟩ => ⟨h1, h2.symm⟩
theorem get_bang (s : ByteArray) (k : Nat) (h : k < s.size) : s.data[k]! = s[k] := by
  show s.data[k]! = s.data[k]
  exact getElem!_pos s.data k h
set_option maxHeartbeats 400000 in
theorem place_any (s : ByteArray) (w : World) (hs : s.size ≤ 1000000000000) :
    Calls Tryd.prog 52 #[.string s, .int .u8 45] w fun e w' => e = .returned (.int .i64 (Lib.lastIndexByte s 45)) ∧ w = w' := by
  go_enter Tryd.func52, Tryd.ntmps52
  go_wp2
  go_loop [5] (fun i => ∃ k : Nat, k ≤ s.size ∧ i = .int .i64 ((k : Int) - 1) ∧ Hid (Lib.lastIndexByte s 45 = Lib.lastIdx s 45 k)) (fun i => (intOf i + 1).toNat)
  case atStart => exact ⟨s.size, Nat.le_refl _, rfl, Lib.hid rfl⟩
  case round =>
    obtain ⟨k, hk, rfl, HE⟩ := hrel
    by_cases h0 : 0 < k
    · obtain ⟨j, rfl⟩ : ∃ j, k = j + 1 := ⟨k - 1, by omega⟩
      have hj : j < s.size := by omega
      rw [show ((j + 1 : Nat) : Int) - 1 = (j : Int) by omega]
      by_cases hc : (s[j].toNat : Int) = 45
      · have hb : ((s[j].toNat : Int) == 45) = true := by rw [hc]; rfl
        have HF := Lib.hid (Lib.lastIdx_hit s 45 j (by rw [get_bang s j hj]; exact hc))
        clear hc
        go_wp2
        go_ret
        exact ⟨by rw [HE.out, HF.out]; rfl, rfl⟩
      · have hb : ((s[j].toNat : Int) == 45) = false := by simpa using hc
        have HF := Lib.hid (Lib.lastIdx_miss s 45 j (by rw [get_bang s j hj]; exact hc))
        clear hc
        go_wp2
        go_round
        case rel => exact ⟨j, by omega, by go_num, Lib.hid (HE.out.trans HF.out)⟩
        case measure => simp [intOf]
    · obtain rfl : k = 0 := by omega
      go_wp2
      go_ret
      exact ⟨by rw [HE.out]; rfl, rfl⟩
def numB (l : List UInt8) : Bool := !l.isEmpty && l.all isDig
def dEp (l : List UInt8) : List UInt8 := if inB l 58 = true then cutA l 58 else []
def dRest (l : List UInt8) : List UInt8 := if inB l 58 = true then cutB l 58 else l
def epOk (l : List UInt8) : Bool := !inB l 58 || (numB (cutA l 58) && decide ((cutA l 58).length ≤ 9))
def lastI (l : List UInt8) : Int := Lib.lastIndexByte (bs l) 45
def dPr (r : List UInt8) : List UInt8 := if 0 ≤ lastI r then r.take (lastI r).toNat else r
def dRev (r : List UInt8) : List UInt8 := if 0 ≤ lastI r then r.drop ((lastI r).toNat + 1) else []
def headDig (l : List UInt8) : Bool := match l with
  | [] => false
  | c :: _ => isDig c
def restOk (r : List UInt8) : Bool := (decide (lastI r < 0) || madeB (dRev r) [46, 43, 126]) && (madeB (dPr r) [46, 43, 126, 45] && headDig (dPr r))
def dOk (l : List UInt8) : Bool := epOk l && restOk (dRest l)
theorem lastI_lt (r : List UInt8) : lastI r < r.length := by
  rcases Lib.lastIndexByte_spec (bs r) 45 with ⟨h, _⟩ | ⟨i, h1, h2, _⟩
  · show Lib.lastIndexByte (bs r) 45 < _
    rw [h]; omega
  · show Lib.lastIndexByte (bs r) 45 < _
    rw [h2]
    rw [bs_size] at h1
    omega
theorem lastI_ge (r : List UInt8) : -1 ≤ lastI r := by
  rcases Lib.lastIndexByte_spec (bs r) 45 with ⟨h, _⟩ | ⟨i, h1, h2, _⟩
  · show -1 ≤ Lib.lastIndexByte (bs r) 45
    rw [h]; omega
  · show -1 ≤ Lib.lastIndexByte (bs r) 45
    rw [h2]; omega
theorem cutA_len (l : List UInt8) (c : UInt8) : (cutA l c).length ≤ l.length := by
  unfold cutA
  split
  · rw [List.length_take]; omega
  · exact Nat.le_refl _
theorem cutB_len (l : List UInt8) (c : UInt8) : (cutB l c).length ≤ l.length := by
  unfold cutB
  split
  · rw [List.length_drop]; omega
  · simp
/-- What a split gives: three texts and whether it is one; where it is, the texts are these. -/
def Splits (w : World) (a b c : List UInt8) (ok : Bool) (e : Ending) (w' : World) : Prop :=
  ∃ x y z, e = .returned (.tuple #[.string x, .string y, .string z, .bool ok]) ∧ (ok = true → x = bs a ∧ y = bs b ∧ z = bs c) ∧ Below w.heap.size w w'
theorem get0 (p : List UInt8) (h : 0 < (bs p).size) : headDig p = isDig (bs p)[0] := by
  cases p with
  | nil => exact absurd h (by decide)
  | cons c r => rfl
theorem madeB_pos (p o : List UInt8) (h : madeB p o = true) : 0 < (bs p).size := by
  cases p with
  | nil => simp [madeB] at h
  | cons c r => rw [bs_size]; simp
set_option maxRecDepth 20000 in
set_option maxHeartbeats 4000000 in
theorem splitDpkg_any (s : ByteArray) (w : World) (hs : s.size ≤ 1000000000) :
    Calls Tryd.prog 47 #[.string s] w (Splits w (dEp s.data.toList) (dPr (dRest s.data.toList)) (dRev (dRest s.data.toList)) (dOk s.data.toList)) := by
  obtain ⟨l, rfl⟩ : ∃ l, s = bs l := ⟨_, bs_self s⟩
  rw [bs_list]
  rw [bs_size] at hs
  have hA := cutA_len l 58
  have hB := cutB_len l 58
  cases hin : inB l 58 with
  | true =>
    obtain ⟨r, HR⟩ : ∃ r, Hid (r = cutB l 58) := ⟨_, Lib.hid rfl⟩
    obtain ⟨a, Ha⟩ : ∃ a, Hid (a = cutA l 58) := ⟨_, Lib.hid rfl⟩
    have hrl : r.length ≤ l.length := by rw [HR.out]; exact hB
    have hal : a.length ≤ l.length := by rw [Ha.out]; exact hA
    have Hr : Hid (dRest l = r) := Lib.hid (by rw [dRest, if_pos hin, HR.out])
    have Hep : Hid (bs a = bs (dEp l)) := Lib.hid (by rw [dEp, if_pos hin, Ha.out])
    have Hepo : Hid (epOk l = (numB a && decide (a.length ≤ 9))) := Lib.hid (by rw [epOk, hin, Ha.out]; rfl)
    go_enter Tryd.func47, Tryd.ntmps47
    go_wp2_with fail
    refine (cut_any (bs l) 58 _ (by rw [bs_size]; omega)).mono ?_
    rintro e w1 ⟨rfl, hb1⟩
    rw [bs_list, hin, ← HR.out, ← Ha.out]
    clear hin hA hB
    go_wp2_with fail
    refine (number_any (bs a) _ (by rw [bs_size]; omega)).mono ?_
    rintro e w2 ⟨rfl, rfl⟩
    rw [bs_list, show (!a.isEmpty && a.all isDig) = numB a from rfl]
    have hz : ((bs a).size : Int) = (a.length : Int) := by rw [bs_size]
    cases hnum : numB a with
    | false =>
      have hno : dOk l = false := by rw [dOk, Hepo.out, hnum]; rfl
      go_wp2_with fail
      (try simp only [Exit.inBlock, Exit.then])
      refine bodyPost_ret (results4 rfl _ _ _) rfl ?_
      exact ⟨_, _, _, by rw [hno]; rfl, fun h => by (rw [hno] at h; cases h), hb1⟩
    | true =>
      by_cases h9 : a.length ≤ 9
      · have hd9 : decide (9 < ((bs a).size : Int)) = false := by rw [hz]; simp; omega
        have Hepok : Hid (epOk l = true) := Lib.hid (by rw [Hepo.out, hnum]; simp [h9])
        clear hz
        go_wp2_with fail
        refine (lib_any (bs r) _ (by rw [bs_size]; omega)).mono ?_
        rintro e w3 ⟨rfl, rfl⟩
        rw [show Lib.lastIndexByte (bs r) 45 = lastI r from rfl]
        have hlge := lastI_ge r
        have hllt := lastI_lt r
        by_cases h0 : 0 ≤ lastI r
        · obtain ⟨k, hk⟩ := Int.eq_ofNat_of_zero_le h0
          obtain ⟨p, Hp⟩ : ∃ p, Hid (p = dPr r) := ⟨_, Lib.hid rfl⟩
          obtain ⟨v, Hv⟩ : ∃ v, Hid (v = dRev r) := ⟨_, Lib.hid rfl⟩
          have hpl : p.length ≤ r.length := by rw [Hp.out, dPr, if_pos h0, List.length_take]; omega
          have hvl : v.length ≤ r.length := by rw [Hv.out, dRev, if_pos h0, List.length_drop]; omega
          have hkl : k < r.length := by omega
          have HX : Hid ((bs r).extract 0 k = bs p) := Lib.hid (by rw [ext_take _ _ (by rw [bs_size]; omega), Hp.out, dPr, if_pos h0, hk]; rfl)
          have HY : Hid ((bs r).extract (k + 1) (bs r).size = bs v) := Lib.hid (by rw [ext_drop, Hv.out, dRev, if_pos h0, hk]; rfl)
          have Hrk : Hid (restOk r = (madeB v [46, 43, 126] && (madeB p [46, 43, 126, 45] && headDig p))) := Lib.hid (by rw [restOk, show decide (lastI r < 0) = false by simp; omega, Hp.out, Hv.out]; rfl)
          rw [hk]
          clear hk h0 hlge hllt
          have hz : ((bs r).size : Int) = (r.length : Int) := by rw [bs_size]
          have hi1 : (0 : Int) ≤ (k : Int) := by omega
          have hi2 : (k : Int) ≤ ((bs r).size : Int) := by omega
          have hi3 : (0 : Int) ≤ (k : Int) + 1 := by omega
          have hi4 : (k : Int) + 1 ≤ ((bs r).size : Int) := by omega
          have hi5 : ((k : Int) + 1).toNat = k + 1 := by omega
          have hi6 : IntKind.i64.wrap ((k : Int) + 1) = (k : Int) + 1 := i64_in _ (by omega) (by omega)
          clear hz
          go_wp2_with fail
          refine wp_region_plan (fun _ => True) [(false, 0), (false, 1), (false, 2), (false, 3), (false, 4), (false, 5), (false, 6), (false, 7), (false, 8)] (by kernel_rfl) (by kernel_rfl) (trivial) ?_
          simp only [planOps, List.map, List.getD_cons_zero, List.getD_cons_succ]
          iterate 9 ((first | refine plan_quiet (v := ?_) rfl rfl (fun w' hw' => ?_) ?_ | refine plan_calm (v := ?_) (tt_of) rfl (fun w' hw' => ?_) ?_); rotate_left; (focus (go_simp <;> (first | with_reducible rfl | (rw [if_neg (by simp [undef])]; try rfl) | omega))); simp only [Act.put, List.setIfInBounds_toArray, List.set_cons_zero, List.set_cons_succ])
          refine plan_end ?_
          rw [HX.out, HY.out]
          clear hi1 hi2 hi3 hi4 hi5 hi6
          go_wp2_with fail
          refine (made_any (bs v) ⟨#[46, 43, 126]⟩ _ (by rw [bs_size]; omega)).mono ?_
          rintro e w7 ⟨rfl, hb7⟩
          rw [bs_list, show (ByteArray.mk #[46, 43, 126]).data.toList = [46, 43, 126] from rfl]
          have q7 := below_trans (hb1).drew hb7
          cases hmv : madeB v [46, 43, 126] with
          | false =>
            go_wp2_with fail
            (try simp only [Exit.inBlock, Exit.then])
            refine bodyPost_ret (results4 rfl _ _ _) rfl ?_
            have hno : dOk l = false := by rw [dOk, Hr.out, Hrk.out, hmv]; simp
            exact ⟨_, _, _, by rw [hno]; rfl, fun h => by (rw [hno] at h; cases h), q7⟩
          | true =>
            have Hok : Hid (dOk l = (madeB p [46, 43, 126, 45] && headDig p)) := Lib.hid (by rw [dOk, Hr.out, Hrk.out, hmv, Hepok.out]; simp)
            have Hts : Hid (bs a = bs (dEp l) ∧ bs p = bs (dPr (dRest l)) ∧ bs v = bs (dRev (dRest l))) := Lib.hid ⟨Hep.out, by rw [Hr.out, Hp.out], by rw [Hr.out, Hv.out]⟩
            go_wp2_with fail
            refine (made_any (bs p) ⟨#[46, 43, 126, 45]⟩ _ (by rw [bs_size]; omega)).mono ?_
            rintro e w8 ⟨rfl, hb8⟩
            rw [bs_list, show (ByteArray.mk #[46, 43, 126, 45]).data.toList = [46, 43, 126, 45] from rfl]
            have q8 := below_trans q7 hb8
            cases hm : madeB p [46, 43, 126, 45] with
            | false =>
              go_wp2_with fail
              (try simp only [Exit.inBlock, Exit.then])
              refine bodyPost_ret (results4 rfl _ _ _) rfl ?_
              exact ⟨_, _, _, by rw [Hok.out, hm]; rfl, fun h => by (rw [Hok.out, hm] at h; cases h), q8⟩
            | true =>
              have hp0 := madeB_pos p _ hm
              have hi2 : (0 : Int) < ((bs p).size : Int) := by omega
              go_wp2_with fail
              refine (digit_any (bs p)[0] _).mono ?_
              rintro e w9 ⟨rfl, rfl⟩
              go_wp2_with fail
              (try simp only [Exit.inBlock, Exit.then])
              refine bodyPost_ret (results4 rfl _ _ _) rfl ?_
              exact ⟨_, _, _, by rw [Hok.out, hm, get0 p hp0]; rfl, fun _ => Hts.out, q8⟩
        · have h1 : lastI r = -1 := by omega
          obtain ⟨p, Hp⟩ : ∃ p, Hid (p = r) := ⟨_, Lib.hid rfl⟩
          have hpl : p.length ≤ r.length := by rw [Hp.out]; omega
          have Hrk : Hid (restOk r = (madeB p [46, 43, 126, 45] && headDig p)) := Lib.hid (by rw [restOk, show decide (lastI r < 0) = true by simp; omega, dPr, if_neg h0, Hp.out]; rfl)
          have Hok : Hid (dOk l = (madeB p [46, 43, 126, 45] && headDig p)) := Lib.hid (by rw [dOk, Hr.out, Hrk.out, Hepok.out]; simp)
          have Hts : Hid (bs a = bs (dEp l) ∧ bs p = bs (dPr (dRest l)) ∧ (⟨#[]⟩ : ByteArray) = bs (dRev (dRest l))) := Lib.hid ⟨Hep.out, by rw [Hr.out, dPr, if_neg h0, Hp.out], by rw [Hr.out, dRev, if_neg h0]; rfl⟩
          rw [h1, ← Hp.out]
          clear h0 h1 hlge hllt
          go_wp2_with fail
          refine (made_any (bs p) ⟨#[46, 43, 126, 45]⟩ _ (by rw [bs_size]; omega)).mono ?_
          rintro e w8 ⟨rfl, hb8⟩
          rw [bs_list, show (ByteArray.mk #[46, 43, 126, 45]).data.toList = [46, 43, 126, 45] from rfl]
          have q8 := below_trans hb1 hb8
          cases hm : madeB p [46, 43, 126, 45] with
          | false =>
            go_wp2_with fail
            (try simp only [Exit.inBlock, Exit.then])
            refine bodyPost_ret (results4 rfl _ _ _) rfl ?_
            exact ⟨_, _, _, by rw [Hok.out, hm]; rfl, fun h => by (rw [Hok.out, hm] at h; cases h), q8⟩
          | true =>
            have hp0 := madeB_pos p _ hm
            have hi2 : (0 : Int) < ((bs p).size : Int) := by omega
            go_wp2_with fail
            refine (digit_any (bs p)[0] _).mono ?_
            rintro e w9 ⟨rfl, rfl⟩
            go_wp2_with fail
            (try simp only [Exit.inBlock, Exit.then])
            refine bodyPost_ret (results4 rfl _ _ _) rfl ?_
            exact ⟨_, _, _, by rw [Hok.out, hm, get0 p hp0]; rfl, fun _ => Hts.out, q8⟩
      · have hd9 : decide (9 < ((bs a).size : Int)) = true := by rw [hz]; simp; omega
        have hno : dOk l = false := by rw [dOk, Hepo.out, hnum]; simp [h9]
        clear hz
        go_wp2_with fail
        (try simp only [Exit.inBlock, Exit.then])
        refine bodyPost_ret (results4 rfl _ _ _) rfl ?_
        exact ⟨_, _, _, by rw [hno]; rfl, fun h => by (rw [hno] at h; cases h), hb1⟩
  | false =>
    obtain ⟨r, HR⟩ : ∃ r, Hid (r = l) := ⟨_, Lib.hid rfl⟩
    have hrl : r.length ≤ l.length := by rw [HR.out]; exact Nat.le_refl _
    have Hr : Hid (dRest l = r) := Lib.hid (by rw [dRest, if_neg (by rw [hin]; simp), HR.out])
    have Hep : Hid ((⟨#[]⟩ : ByteArray) = bs (dEp l)) := Lib.hid (by rw [dEp, if_neg (by rw [hin]; simp)]; rfl)
    have Hepok : Hid (epOk l = true) := Lib.hid (by rw [epOk, hin]; rfl)
    go_enter Tryd.func47, Tryd.ntmps47
    go_wp2_with fail
    refine (cut_any (bs l) 58 _ (by rw [bs_size]; omega)).mono ?_
    rintro e w1 ⟨rfl, hb1⟩
    rw [bs_list, hin]
    clear hin hA hB
    go_wp2_with fail
    rw [← HR.out]
    refine (lib_any (bs r) _ (by rw [bs_size]; omega)).mono ?_
    rintro e w3 ⟨rfl, rfl⟩
    rw [show Lib.lastIndexByte (bs r) 45 = lastI r from rfl]
    have hlge := lastI_ge r
    have hllt := lastI_lt r
    by_cases h0 : 0 ≤ lastI r
    · obtain ⟨k, hk⟩ := Int.eq_ofNat_of_zero_le h0
      obtain ⟨p, Hp⟩ : ∃ p, Hid (p = dPr r) := ⟨_, Lib.hid rfl⟩
      obtain ⟨v, Hv⟩ : ∃ v, Hid (v = dRev r) := ⟨_, Lib.hid rfl⟩
      have hpl : p.length ≤ r.length := by rw [Hp.out, dPr, if_pos h0, List.length_take]; omega
      have hvl : v.length ≤ r.length := by rw [Hv.out, dRev, if_pos h0, List.length_drop]; omega
      have hkl : k < r.length := by omega
      have HX : Hid ((bs r).extract 0 k = bs p) := Lib.hid (by rw [ext_take _ _ (by rw [bs_size]; omega), Hp.out, dPr, if_pos h0, hk]; rfl)
      have HY : Hid ((bs r).extract (k + 1) (bs r).size = bs v) := Lib.hid (by rw [ext_drop, Hv.out, dRev, if_pos h0, hk]; rfl)
      have Hrk : Hid (restOk r = (madeB v [46, 43, 126] && (madeB p [46, 43, 126, 45] && headDig p))) := Lib.hid (by rw [restOk, show decide (lastI r < 0) = false by simp; omega, Hp.out, Hv.out]; rfl)
      rw [hk]
      clear hk h0 hlge hllt
      have hz : ((bs r).size : Int) = (r.length : Int) := by rw [bs_size]
      have hi1 : (0 : Int) ≤ (k : Int) := by omega
      have hi2 : (k : Int) ≤ ((bs r).size : Int) := by omega
      have hi3 : (0 : Int) ≤ (k : Int) + 1 := by omega
      have hi4 : (k : Int) + 1 ≤ ((bs r).size : Int) := by omega
      have hi5 : ((k : Int) + 1).toNat = k + 1 := by omega
      have hi6 : IntKind.i64.wrap ((k : Int) + 1) = (k : Int) + 1 := i64_in _ (by omega) (by omega)
      clear hz
      go_wp2_with fail
      refine wp_region_plan (fun _ => True) [(false, 0), (false, 1), (false, 2), (false, 3), (false, 4), (false, 5), (false, 6), (false, 7), (false, 8)] (by kernel_rfl) (by kernel_rfl) (trivial) ?_
      simp only [planOps, List.map, List.getD_cons_zero, List.getD_cons_succ]
      iterate 9 ((first | refine plan_quiet (v := ?_) rfl rfl (fun w' hw' => ?_) ?_ | refine plan_calm (v := ?_) (tt_of) rfl (fun w' hw' => ?_) ?_); rotate_left; (focus (go_simp <;> (first | with_reducible rfl | (rw [if_neg (by simp [undef])]; try rfl) | omega))); simp only [Act.put, List.setIfInBounds_toArray, List.set_cons_zero, List.set_cons_succ])
      refine plan_end ?_
      rw [HX.out, HY.out]
      clear hi1 hi2 hi3 hi4 hi5 hi6
      go_wp2_with fail
      refine (made_any (bs v) ⟨#[46, 43, 126]⟩ _ (by rw [bs_size]; omega)).mono ?_
      rintro e w7 ⟨rfl, hb7⟩
      rw [bs_list, show (ByteArray.mk #[46, 43, 126]).data.toList = [46, 43, 126] from rfl]
      have q7 := below_trans (hb1).drew hb7
      cases hmv : madeB v [46, 43, 126] with
      | false =>
        go_wp2_with fail
        (try simp only [Exit.inBlock, Exit.then])
        refine bodyPost_ret (results4 rfl _ _ _) rfl ?_
        have hno : dOk l = false := by rw [dOk, Hr.out, Hrk.out, hmv]; simp
        exact ⟨_, _, _, by rw [hno]; rfl, fun h => by (rw [hno] at h; cases h), q7⟩
      | true =>
        have Hok : Hid (dOk l = (madeB p [46, 43, 126, 45] && headDig p)) := Lib.hid (by rw [dOk, Hr.out, Hrk.out, hmv, Hepok.out]; simp)
        have Hts : Hid ((⟨#[]⟩ : ByteArray) = bs (dEp l) ∧ bs p = bs (dPr (dRest l)) ∧ bs v = bs (dRev (dRest l))) := Lib.hid ⟨Hep.out, by rw [Hr.out, Hp.out], by rw [Hr.out, Hv.out]⟩
        go_wp2_with fail
        refine (made_any (bs p) ⟨#[46, 43, 126, 45]⟩ _ (by rw [bs_size]; omega)).mono ?_
        rintro e w8 ⟨rfl, hb8⟩
        rw [bs_list, show (ByteArray.mk #[46, 43, 126, 45]).data.toList = [46, 43, 126, 45] from rfl]
        have q8 := below_trans q7 hb8
        cases hm : madeB p [46, 43, 126, 45] with
        | false =>
          go_wp2_with fail
          (try simp only [Exit.inBlock, Exit.then])
          refine bodyPost_ret (results4 rfl _ _ _) rfl ?_
          exact ⟨_, _, _, by rw [Hok.out, hm]; rfl, fun h => by (rw [Hok.out, hm] at h; cases h), q8⟩
        | true =>
          have hp0 := madeB_pos p _ hm
          have hi2 : (0 : Int) < ((bs p).size : Int) := by omega
          go_wp2_with fail
          refine (digit_any (bs p)[0] _).mono ?_
          rintro e w9 ⟨rfl, rfl⟩
          go_wp2_with fail
          (try simp only [Exit.inBlock, Exit.then])
          refine bodyPost_ret (results4 rfl _ _ _) rfl ?_
          exact ⟨_, _, _, by rw [Hok.out, hm, get0 p hp0]; rfl, fun _ => Hts.out, q8⟩
    · have h1 : lastI r = -1 := by omega
      obtain ⟨p, Hp⟩ : ∃ p, Hid (p = r) := ⟨_, Lib.hid rfl⟩
      have hpl : p.length ≤ r.length := by rw [Hp.out]; omega
      have Hrk : Hid (restOk r = (madeB p [46, 43, 126, 45] && headDig p)) := Lib.hid (by rw [restOk, show decide (lastI r < 0) = true by simp; omega, dPr, if_neg h0, Hp.out]; rfl)
      have Hok : Hid (dOk l = (madeB p [46, 43, 126, 45] && headDig p)) := Lib.hid (by rw [dOk, Hr.out, Hrk.out, Hepok.out]; simp)
      have Hts : Hid ((⟨#[]⟩ : ByteArray) = bs (dEp l) ∧ bs p = bs (dPr (dRest l)) ∧ (⟨#[]⟩ : ByteArray) = bs (dRev (dRest l))) := Lib.hid ⟨Hep.out, by rw [Hr.out, dPr, if_neg h0, Hp.out], by rw [Hr.out, dRev, if_neg h0]; rfl⟩
      rw [h1, ← Hp.out]
      clear h0 h1 hlge hllt
      go_wp2_with fail
      refine (made_any (bs p) ⟨#[46, 43, 126, 45]⟩ _ (by rw [bs_size]; omega)).mono ?_
      rintro e w8 ⟨rfl, hb8⟩
      rw [bs_list, show (ByteArray.mk #[46, 43, 126, 45]).data.toList = [46, 43, 126, 45] from rfl]
      have q8 := below_trans hb1 hb8
      cases hm : madeB p [46, 43, 126, 45] with
      | false =>
        go_wp2_with fail
        (try simp only [Exit.inBlock, Exit.then])
        refine bodyPost_ret (results4 rfl _ _ _) rfl ?_
        exact ⟨_, _, _, by rw [Hok.out, hm]; rfl, fun h => by (rw [Hok.out, hm] at h; cases h), q8⟩
      | true =>
        have hp0 := madeB_pos p _ hm
        have hi2 : (0 : Int) < ((bs p).size : Int) := by omega
        go_wp2_with fail
        refine (digit_any (bs p)[0] _).mono ?_
        rintro e w9 ⟨rfl, rfl⟩
        go_wp2_with fail
        (try simp only [Exit.inBlock, Exit.then])
        refine bodyPost_ret (results4 rfl _ _ _) rfl ?_
        exact ⟨_, _, _, by rw [Hok.out, hm, get0 p hp0]; rfl, fun _ => Hts.out, q8⟩
end Go.Proofs.YtjdcegogkafmoaaDoor
namespace Go.Proofs.YtjdcegogkafmoaaDoor
open Go.RowKit
def rOthers : List UInt8 := [46, 95, 43, 126, 94]
def rEpOk (l : List UInt8) : Bool := !inB l 58 || (numB (cutA l 58) && decide ((cutA l 58).length ≤ 9) && !noughtB (cutA l 58))
def rOk (l : List UInt8) : Bool := rEpOk l && (madeB (cutA (dRest l) 45) rOthers && madeB (cutB (dRest l) 45) rOthers)
set_option maxRecDepth 20000 in
set_option maxHeartbeats 4000000 in
theorem splitRpm_any (s : ByteArray) (w : World) (hs : s.size ≤ 1000000000) :
    Calls Tryd.prog 48 #[.string s] w (Splits w (dEp s.data.toList) (cutA (dRest s.data.toList) 45) (cutB (dRest s.data.toList) 45) (rOk s.data.toList)) := by
  obtain ⟨l, rfl⟩ : ∃ l, s = bs l := ⟨_, bs_self s⟩
  rw [bs_list]
  rw [bs_size] at hs
  have hA := cutA_len l 58
  have hB := cutB_len l 58
  cases hin : inB l 58 with
  | true =>
    obtain ⟨r, HR⟩ : ∃ r, Hid (r = cutB l 58) := ⟨_, Lib.hid rfl⟩
    obtain ⟨a, Ha⟩ : ∃ a, Hid (a = cutA l 58) := ⟨_, Lib.hid rfl⟩
    have hrl : r.length ≤ l.length := by rw [HR.out]; exact hB
    have hal : a.length ≤ l.length := by rw [Ha.out]; exact hA
    have Hr : Hid (dRest l = r) := Lib.hid (by rw [dRest, if_pos hin, HR.out])
    have Hep : Hid (bs a = bs (dEp l)) := Lib.hid (by rw [dEp, if_pos hin, Ha.out])
    have Hepo : Hid (rEpOk l = (numB a && decide (a.length ≤ 9) && !noughtB a)) := Lib.hid (by rw [rEpOk, hin, Ha.out]; rfl)
    go_enter Tryd.func48, Tryd.ntmps48
    go_wp2_with fail
    refine (cut_any (bs l) 58 _ (by rw [bs_size]; omega)).mono ?_
    rintro e w1 ⟨rfl, hb1⟩
    rw [bs_list, hin, ← HR.out, ← Ha.out]
    clear hin hA hB
    go_wp2_with fail
    refine (number_any (bs a) _ (by rw [bs_size]; omega)).mono ?_
    rintro e w2 ⟨rfl, rfl⟩
    rw [bs_list, show (!a.isEmpty && a.all isDig) = numB a from rfl]
    have hz : ((bs a).size : Int) = (a.length : Int) := by rw [bs_size]
    cases hnum : numB a with
    | false =>
      have hno : rOk l = false := by rw [rOk, Hepo.out, hnum]; rfl
      go_wp2_with fail
      (try simp only [Exit.inBlock, Exit.then])
      refine bodyPost_ret (results4 rfl _ _ _) rfl ?_
      exact ⟨_, _, _, by rw [hno]; rfl, fun h => by (rw [hno] at h; cases h), hb1⟩
    | true =>
      by_cases h9 : a.length ≤ 9
      · have hd9 : decide (9 < ((bs a).size : Int)) = false := by rw [hz]; simp; omega
        clear hz
        go_wp2_with fail
        refine (nought_any (bs a) _).mono ?_
        rintro e w2 ⟨rfl, rfl⟩
        rw [bs_list]
        cases hno2 : noughtB a with
        | true =>
          have hno : rOk l = false := by rw [rOk, Hepo.out, hnum, hno2]; simp
          go_wp2_with fail
          (try simp only [Exit.inBlock, Exit.then])
          refine bodyPost_ret (results4 rfl _ _ _) rfl ?_
          exact ⟨_, _, _, by rw [hno]; rfl, fun h => by (rw [hno] at h; cases h), hb1⟩
        | false =>
          have Hepok : Hid (rEpOk l = true) := Lib.hid (by rw [Hepo.out, hnum, hno2]; simp [h9])
          go_wp2_with fail
          have hpl := cutA_len r 45
          have hvl := cutB_len r 45
          refine (cut_any (bs r) 45 _ (by rw [bs_size]; omega)).mono ?_
          rintro e w3 ⟨rfl, hb3⟩
          rw [bs_list]
          have q3 := below_trans hb1 hb3
          obtain ⟨p, Hp⟩ : ∃ p, Hid (p = cutA r 45) := ⟨_, Lib.hid rfl⟩
          obtain ⟨v, Hv⟩ : ∃ v, Hid (v = cutB r 45) := ⟨_, Lib.hid rfl⟩
          rw [← Hp.out, ← Hv.out]
          rw [← Hp.out] at hpl
          rw [← Hv.out] at hvl
          have Hok : Hid (rOk l = (madeB p rOthers && madeB v rOthers)) := Lib.hid (by rw [rOk, Hr.out, Hepok.out, Hp.out, Hv.out]; simp)
          have Hts : Hid (bs a = bs (dEp l) ∧ bs p = bs (cutA (dRest l) 45) ∧ bs v = bs (cutB (dRest l) 45)) := Lib.hid ⟨Hep.out, by rw [Hr.out, Hp.out], by rw [Hr.out, Hv.out]⟩
          go_wp2_with fail
          refine (made_any (bs p) ⟨#[46, 95, 43, 126, 94]⟩ _ (by rw [bs_size]; omega)).mono ?_
          rintro e w8 ⟨rfl, hb8⟩
          rw [bs_list, show (ByteArray.mk #[46, 95, 43, 126, 94]).data.toList = rOthers from rfl]
          have q8 := below_trans q3 hb8
          cases hm : madeB p rOthers with
          | false =>
            go_wp2_with fail
            (try simp only [Exit.inBlock, Exit.then])
            refine bodyPost_ret (results4 rfl _ _ _) rfl ?_
            exact ⟨_, _, _, by rw [Hok.out, hm]; rfl, fun h => by (rw [Hok.out, hm] at h; cases h), q8⟩
          | true =>
            go_wp2_with fail
            refine (made_any (bs v) ⟨#[46, 95, 43, 126, 94]⟩ _ (by rw [bs_size]; omega)).mono ?_
            rintro e w9 ⟨rfl, hb9⟩
            rw [bs_list, show (ByteArray.mk #[46, 95, 43, 126, 94]).data.toList = rOthers from rfl]
            have q9 := below_trans q8 hb9
            go_wp2_with fail
            (try simp only [Exit.inBlock, Exit.then])
            refine bodyPost_ret (results4 rfl _ _ _) rfl ?_
            exact ⟨_, _, _, by rw [Hok.out, hm]; rfl, fun _ => Hts.out, q9⟩
      · have hd9 : decide (9 < ((bs a).size : Int)) = true := by rw [hz]; simp; omega
        have hno : rOk l = false := by rw [rOk, Hepo.out, hnum]; simp [h9]
        clear hz
        go_wp2_with fail
        (try simp only [Exit.inBlock, Exit.then])
        refine bodyPost_ret (results4 rfl _ _ _) rfl ?_
        exact ⟨_, _, _, by rw [hno]; rfl, fun h => by (rw [hno] at h; cases h), hb1⟩
  | false =>
    obtain ⟨r, HR⟩ : ∃ r, Hid (r = l) := ⟨_, Lib.hid rfl⟩
    have hrl : r.length ≤ l.length := by rw [HR.out]; exact Nat.le_refl _
    have Hr : Hid (dRest l = r) := Lib.hid (by rw [dRest, if_neg (by rw [hin]; simp), HR.out])
    have Hep : Hid ((⟨#[]⟩ : ByteArray) = bs (dEp l)) := Lib.hid (by rw [dEp, if_neg (by rw [hin]; simp)]; rfl)
    have Hepok : Hid (rEpOk l = true) := Lib.hid (by rw [rEpOk, hin]; rfl)
    go_enter Tryd.func48, Tryd.ntmps48
    go_wp2_with fail
    refine (cut_any (bs l) 58 _ (by rw [bs_size]; omega)).mono ?_
    rintro e w1 ⟨rfl, hb1⟩
    rw [bs_list, hin]
    clear hin hA hB
    go_wp2_with fail
    rw [← HR.out]
    have hpl := cutA_len r 45
    have hvl := cutB_len r 45
    refine (cut_any (bs r) 45 _ (by rw [bs_size]; omega)).mono ?_
    rintro e w3 ⟨rfl, hb3⟩
    rw [bs_list]
    have q3 := below_trans hb1 hb3
    obtain ⟨p, Hp⟩ : ∃ p, Hid (p = cutA r 45) := ⟨_, Lib.hid rfl⟩
    obtain ⟨v, Hv⟩ : ∃ v, Hid (v = cutB r 45) := ⟨_, Lib.hid rfl⟩
    rw [← Hp.out, ← Hv.out]
    rw [← Hp.out] at hpl
    rw [← Hv.out] at hvl
    have Hok : Hid (rOk l = (madeB p rOthers && madeB v rOthers)) := Lib.hid (by rw [rOk, Hr.out, Hepok.out, Hp.out, Hv.out]; simp)
    have Hts : Hid ((⟨#[]⟩ : ByteArray) = bs (dEp l) ∧ bs p = bs (cutA (dRest l) 45) ∧ bs v = bs (cutB (dRest l) 45)) := Lib.hid ⟨Hep.out, by rw [Hr.out, Hp.out], by rw [Hr.out, Hv.out]⟩
    go_wp2_with fail
    refine (made_any (bs p) ⟨#[46, 95, 43, 126, 94]⟩ _ (by rw [bs_size]; omega)).mono ?_
    rintro e w8 ⟨rfl, hb8⟩
    rw [bs_list, show (ByteArray.mk #[46, 95, 43, 126, 94]).data.toList = rOthers from rfl]
    have q8 := below_trans q3 hb8
    cases hm : madeB p rOthers with
    | false =>
      go_wp2_with fail
      (try simp only [Exit.inBlock, Exit.then])
      refine bodyPost_ret (results4 rfl _ _ _) rfl ?_
      exact ⟨_, _, _, by rw [Hok.out, hm]; rfl, fun h => by (rw [Hok.out, hm] at h; cases h), q8⟩
    | true =>
      go_wp2_with fail
      refine (made_any (bs v) ⟨#[46, 95, 43, 126, 94]⟩ _ (by rw [bs_size]; omega)).mono ?_
      rintro e w9 ⟨rfl, hb9⟩
      rw [bs_list, show (ByteArray.mk #[46, 95, 43, 126, 94]).data.toList = rOthers from rfl]
      have q9 := below_trans q8 hb9
      go_wp2_with fail
      (try simp only [Exit.inBlock, Exit.then])
      refine bodyPost_ret (results4 rfl _ _ _) rfl ?_
      exact ⟨_, _, _, by rw [Hok.out, hm]; rfl, fun _ => Hts.out, q9⟩
end Go.Proofs.YtjdcegogkafmoaaDoor
namespace Go.Proofs.YtjdcegogkafmoaaDoor
open Go.RowKit
def wordsL : List (List UInt8) := [[97, 108, 112, 104, 97], [98, 101, 116, 97], [112, 114, 101], [114, 99], [99, 118, 115], [115, 118, 110], [103, 105, 116], [104, 103], [112]]
/-- The table of words, as its initialiser lays it. -/
def Words (w : World) : Prop := ∀ i, i < 9 → w.cell? ⟨3, i, none⟩ = some (.string (bs (wordsL.getD i [])))
theorem Words.below {w w' : World} (h : Words w) (hb : Below w.heap.size w w') : Words w' := fun i hi => by
  have := h i hi
  rw [hb.cell (p := ⟨3, i, none⟩) (lt_of_cell this)]
  exact this
def wordFrom (l : List UInt8) : List (List UInt8) → Nat → Int
  | [], _ => -1
  | x :: r, k => if x = l then k else wordFrom l r (k + 1)
def wordI (l : List UInt8) : Int := wordFrom l wordsL 0
set_option maxRecDepth 20000 in
set_option maxHeartbeats 4000000 in
theorem wordAt_any (l : List UInt8) (w : World) (hw : Words w) :
    Calls Tryd.prog 66 #[.string (bs l)] w fun e w' => e = .returned (.int .i64 (wordI l)) ∧ w = w' := by
  obtain ⟨W, HW⟩ : ∃ W : Nat → ByteArray, Hid (∀ i, W i = bs (wordsL.getD i [])) := ⟨_, Lib.hid fun _ => rfl⟩
  have hW : ∀ i, i < 9 → w.cell? ⟨3, i, none⟩ = some (.string (W i)) := fun i hi => by rw [HW.out]; exact hw i hi
  have h0 := hW 0 (by omega)
  have h1 := hW 1 (by omega)
  have h2 := hW 2 (by omega)
  have h3 := hW 3 (by omega)
  have h4 := hW 4 (by omega)
  have h5 := hW 5 (by omega)
  have h6 := hW 6 (by omega)
  have h7 := hW 7 (by omega)
  have h8 := hW 8 (by omega)
  clear hw hW
  go_enter Tryd.func66, Tryd.ntmps66
  go_wp2
  clear h0 h1 h2 h3 h4 h5 h6 h7 h8
  go_loop [6] (fun i => ∃ k : Nat, k ≤ 9 ∧ i = .int .i64 k ∧ Hid (wordI l = wordFrom l (wordsL.drop k) k)) (fun i => 9 - (intOf i).toNat)
  case atStart => exact ⟨0, Nat.zero_le _, rfl, Lib.hid rfl⟩
  case round =>
    obtain ⟨k, hk, rfl, HE⟩ := hrel
    by_cases hlt : k < 9
    · have hix : (Instr.index 102 (.agg #[.string (W 0), .string (W 1), .string (W 2), .string (W 3), .string (W 4), .string (W 5), .string (W 6), .string (W 7), .string (W 8)]) (.int .i64 (k : Int))).run Tryd.prog w = .ok (.string (W k)) w := by
        obtain rfl | rfl | rfl | rfl | rfl | rfl | rfl | rfl | rfl : k = 0 ∨ k = 1 ∨ k = 2 ∨ k = 3 ∨ k = 4 ∨ k = 5 ∨ k = 6 ∨ k = 7 ∨ k = 8 := by omega
        all_goals simp [Instr.index, run_underlying Tryd.underlying102, asIntOf, part, go_sem]
      have key : (W k).toList = wordsL.getD k [] := by rw [HW.out, toList_bs]
      have hstep : wordFrom l (wordsL.drop k) k = if wordsL.getD k [] = l then (k : Int) else wordFrom l (wordsL.drop (k + 1)) (k + 1) := by
        obtain rfl | rfl | rfl | rfl | rfl | rfl | rfl | rfl | rfl : k = 0 ∨ k = 1 ∨ k = 2 ∨ k = 3 ∨ k = 4 ∨ k = 5 ∨ k = 6 ∨ k = 7 ∨ k = 8 := by omega
        all_goals rfl
      by_cases hc : wordsL.getD k [] = l
      · rw [if_pos hc] at hstep
        have HS := Lib.hid hstep
        have hb : (W k).toList = (bs l).toList := by rw [toList_bs]; exact key.trans hc
        clear hstep hc key
        go_wp2
        go_ret
        exact ⟨by rw [HE.out, HS.out]; rfl, rfl⟩
      · rw [if_neg hc] at hstep
        have HS := Lib.hid hstep
        have hb : ((W k).toList == (bs l).toList) = false := by rw [toList_bs, key]; simpa using hc
        clear hstep hc key
        go_wp2
        go_round
        case rel => exact ⟨k + 1, by omega, by go_num, Lib.hid (HE.out.trans HS.out)⟩
        case measure => simp [intOf]; omega
    · obtain rfl : k = 9 := by omega
      go_wp2
      go_ret
      exact ⟨by rw [HE.out]; rfl, rfl⟩
end Go.Proofs.YtjdcegogkafmoaaDoor
namespace Go.Proofs.YtjdcegogkafmoaaDoor
open Go
/-- The numbers with points between them; none: there is one lacking. -/
def numsP (kind : Int) (r : List UInt8) (acc : List Pc) : Option (List Pc × List UInt8) :=
  if h : digs r = [] then none
  else match hr : past isDig r with
    | 46 :: t => numsP 6 t (acc ++ [(kind, digs r, 0)])
    | q => some (acc ++ [(kind, digs r, 0)], q)
termination_by r.length
decreasing_by
  have := congrArg List.length hr
  have h2 := past_len isDig r
  simp only [List.length_cons] at this
  omega
theorem nums_none (kind : Int) (r : List UInt8) (acc : List Pc) (h : digs r = []) : numsP kind r acc = none := by rw [numsP, dif_pos h]
theorem nums_dot (kind : Int) (r t : List UInt8) (acc : List Pc) (h : digs r ≠ []) (hr : past isDig r = 46 :: t) : numsP kind r acc = numsP 6 t (acc ++ [(kind, digs r, 0)]) := by
  rw [numsP, dif_neg h]
  split
  · rename_i u hu
    rw [hr] at hu
    injection hu with _ e
    rw [e]
  · rename_i hq
    exact absurd hr (hq t)
theorem nums_end (kind : Int) (r : List UInt8) (acc : List Pc) (h : digs r ≠ []) (hr : ∀ t, past isDig r ≠ 46 :: t) : numsP kind r acc = some (acc ++ [(kind, digs r, 0)], past isDig r) := by
  rw [numsP, dif_neg h]
  split
  · rename_i u hu
    exact absurd hu (hr u)
  · rfl
/-- The letter. -/
def signP (r : List UInt8) (acc : List Pc) : List Pc × List UInt8 :=
  match r with
  | c :: t => if isSmall c = true then (acc ++ [(5, [c], 0)], t) else (acc, r)
  | [] => (acc, [])
def smalls (l : List UInt8) : List UInt8 := l.takeWhile isSmall
def wKind (wd : Int) : Int := if 4 ≤ wd then 4 else 0
def wAcc (u : List UInt8) (a : List Pc) : List Pc := if digs u = [] then a else a ++ [(3, digs u, 0)]
/-- The words with their numbers; none: there is one that is no word. -/
def wordsP (r : List UInt8) (acc : List Pc) : Option (List Pc × List UInt8) :=
  match r with
  | 95 :: t =>
    if wordI (smalls t) < 0 then none
    else wordsP (past isDig (past isSmall t)) (wAcc (past isSmall t) (acc ++ [(wKind (wordI (smalls t)), smalls t, wordI (smalls t))]))
  | q => some (acc, q)
termination_by r.length
decreasing_by
  have h1 := past_len isSmall t
  have h2 := past_len isDig (past isSmall t)
  simp only [List.length_cons]
  omega
theorem words_none (t : List UInt8) (acc : List Pc) (h : wordI (smalls t) < 0) : wordsP (95 :: t) acc = none := by rw [wordsP, if_pos h]
theorem words_next (t : List UInt8) (acc : List Pc) (h : ¬ wordI (smalls t) < 0) :
    wordsP (95 :: t) acc = wordsP (past isDig (past isSmall t)) (wAcc (past isSmall t) (acc ++ [(wKind (wordI (smalls t)), smalls t, wordI (smalls t))])) := by rw [wordsP, if_neg h]
theorem words_end (r : List UInt8) (acc : List Pc) (h : ∀ t, r ≠ 95 :: t) : wordsP r acc = some (acc, r) := by
  rw [wordsP]
  exact h
/-- The number behind -r, where that is all. -/
def revT (q : List UInt8) : Option (List UInt8) := match q with
  | 45 :: 114 :: t => if numB t = true then some t else none
  | _ => none
/-- A version of Apk: pieces, what is proper, the revision. -/
def apkEnd (l : List UInt8) : Option (List Pc × List UInt8) → Option (List Pc × List UInt8 × List UInt8)
  | none => none
  | some (b, q) => if q = [] then some (b ++ [(1, [], 0)], l, [])
    else match revT q with
      | some t => some (b ++ [(2, t, 0), (1, [], 0)], l.take (l.length - q.length), t)
      | none => none
def apkP (l : List UInt8) : Option (List Pc × List UInt8 × List UInt8) :=
  match numsP 7 l [] with
  | none => none
  | some (a, r) => apkEnd l (wordsP (signP r a).2 (signP r a).1)
end Go.Proofs.YtjdcegogkafmoaaDoor

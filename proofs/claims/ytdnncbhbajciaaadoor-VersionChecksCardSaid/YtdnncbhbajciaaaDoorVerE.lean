/- Walks of the reference's place, and of version's splits. -/
import Derived.Test.YtdnncbhbajciaaaDoorVerD
namespace Go.Proofs.YtdnncbhbajciaaaDoor
open Go.RowKit
theorem lib_any (s : ByteArray) (w : World) (hs : s.size ≤ 1000000000000) : Calls Tryd.prog 63 #[.string s, .int .u8 45] w fun e w' => e = .returned (.int .i64 (Lib.lastIndexByte s 45)) ∧ w = w' :=
  (Tryd.strings_LastIndexByte s 45 (by omega) w).mono fun e w' ⟨h1, h2⟩ => ⟨h1, h2.symm⟩
theorem get_bang (s : ByteArray) (k : Nat) (h : k < s.size) : s.data[k]! = s[k] := by
  show s.data[k]! = s.data[k]
  exact getElem!_pos s.data k h
set_option maxHeartbeats 400000 in
theorem place_any (s : ByteArray) (w : World) (hs : s.size ≤ 1000000000000) :
    Calls Tryd.prog 38 #[.string s, .int .u8 45] w fun e w' => e = .returned (.int .i64 (Lib.lastIndexByte s 45)) ∧ w = w' := by
  go_enter Tryd.func38, Tryd.ntmps38
  go_wp2
  go_loop [5] (fun i => ∃ k : Nat, k ≤ s.size ∧ i = .int .i64 ((k : Int) - 1) ∧ Hid (Lib.lastIndexByte s 45 = Lib.lastIdx s 45 k)) (fun i => (intOf i + 1).toNat)
  case atStart => exact ⟨s.size, Nat.le_refl _, rfl, Lib.hid rfl⟩
  case round =>
    obtain ⟨k, hk, rfl, HE⟩ := hrel
    by_cases h0 : 0 < k
    · obtain ⟨j, rfl⟩ : ∃ j, k = j + 1 := ⟨k - 1, by omega⟩
      have hj : j < s.size := by omega
      rw [show ((j + 1 : Nat) : Int) - 1 = (j : Int) by omega]
      by_cases hc : (s[j].toNat : Int) = 45
      · have hb : ((s[j].toNat : Int) == 45) = true := by rw [hc]; rfl
        have HF := Lib.hid (Lib.lastIdx_hit s 45 j (by rw [get_bang s j hj]; exact hc))
        clear hc
        go_wp2
        go_ret
        exact ⟨by rw [HE.out, HF.out]; rfl, rfl⟩
      · have hb : ((s[j].toNat : Int) == 45) = false := by simpa using hc
        have HF := Lib.hid (Lib.lastIdx_miss s 45 j (by rw [get_bang s j hj]; exact hc))
        clear hc
        go_wp2
        go_round
        case rel => exact ⟨j, by omega, by go_num, Lib.hid (HE.out.trans HF.out)⟩
        case measure => simp [intOf]
    · obtain rfl : k = 0 := by omega
      go_wp2
      go_ret
      exact ⟨by rw [HE.out]; rfl, rfl⟩
def numB (l : List UInt8) : Bool := !l.isEmpty && l.all isDig
def dEp (l : List UInt8) : List UInt8 := if inB l 58 = true then cutA l 58 else []
def dRest (l : List UInt8) : List UInt8 := if inB l 58 = true then cutB l 58 else l
def epOk (l : List UInt8) : Bool := !inB l 58 || (numB (cutA l 58) && decide ((cutA l 58).length ≤ 9))
def lastI (l : List UInt8) : Int := Lib.lastIndexByte (bs l) 45
def dPr (r : List UInt8) : List UInt8 := if 0 ≤ lastI r then r.take (lastI r).toNat else r
def dRev (r : List UInt8) : List UInt8 := if 0 ≤ lastI r then r.drop ((lastI r).toNat + 1) else []
def headDig (l : List UInt8) : Bool := match l with
  | [] => false
  | c :: _ => isDig c
def restOk (r : List UInt8) : Bool := (decide (lastI r < 0) || madeB (dRev r) [46, 43, 126]) && (madeB (dPr r) [46, 43, 126, 45] && headDig (dPr r))
def dOk (l : List UInt8) : Bool := epOk l && restOk (dRest l)
theorem lastI_lt (r : List UInt8) : lastI r < r.length := by
  rcases Lib.lastIndexByte_spec (bs r) 45 with ⟨h, _⟩ | ⟨i, h1, h2, _⟩
  · show Lib.lastIndexByte (bs r) 45 < _
    rw [h]; omega
  · show Lib.lastIndexByte (bs r) 45 < _
    rw [h2]
    rw [bs_size] at h1
    omega
theorem lastI_ge (r : List UInt8) : -1 ≤ lastI r := by
  rcases Lib.lastIndexByte_spec (bs r) 45 with ⟨h, _⟩ | ⟨i, h1, h2, _⟩
  · show -1 ≤ Lib.lastIndexByte (bs r) 45
    rw [h]; omega
  · show -1 ≤ Lib.lastIndexByte (bs r) 45
    rw [h2]; omega
theorem cutA_len (l : List UInt8) (c : UInt8) : (cutA l c).length ≤ l.length := by
  unfold cutA
  split
  · rw [List.length_take]; omega
  · exact Nat.le_refl _
theorem cutB_len (l : List UInt8) (c : UInt8) : (cutB l c).length ≤ l.length := by
  unfold cutB
  split
  · rw [List.length_drop]; omega
  · simp
/-- What a split gives: three texts and whether it is one; where it is, the texts are these. -/
def Splits (w : World) (a b c : List UInt8) (ok : Bool) (e : Ending) (w' : World) : Prop :=
  ∃ x y z, e = .returned (.tuple #[.string x, .string y, .string z, .bool ok]) ∧ (ok = true → x = bs a ∧ y = bs b ∧ z = bs c) ∧ Below w.heap.size w w'
theorem get0 (p : List UInt8) (h : 0 < (bs p).size) : headDig p = isDig (bs p)[0] := by
  cases p with
  | nil => exact absurd h (by decide)
  | cons c r => rfl
theorem madeB_pos (p o : List UInt8) (h : madeB p o = true) : 0 < (bs p).size := by
  cases p with
  | nil => simp [madeB] at h
  | cons c r => rw [bs_size]; simp
set_option maxRecDepth 20000 in
set_option maxHeartbeats 4000000 in
theorem splitDpkg_any (s : ByteArray) (w : World) (hs : s.size ≤ 1000000000) :
    Calls Tryd.prog 33 #[.string s] w (Splits w (dEp s.data.toList) (dPr (dRest s.data.toList)) (dRev (dRest s.data.toList)) (dOk s.data.toList)) := by
  obtain ⟨l, rfl⟩ : ∃ l, s = bs l := ⟨_, bs_self s⟩
  rw [bs_list]
  rw [bs_size] at hs
  have hA := cutA_len l 58
  have hB := cutB_len l 58
  cases hin : inB l 58 with
  | true =>
    obtain ⟨r, HR⟩ : ∃ r, Hid (r = cutB l 58) := ⟨_, Lib.hid rfl⟩
    obtain ⟨a, Ha⟩ : ∃ a, Hid (a = cutA l 58) := ⟨_, Lib.hid rfl⟩
    have hrl : r.length ≤ l.length := by rw [HR.out]; exact hB
    have hal : a.length ≤ l.length := by rw [Ha.out]; exact hA
    have Hr : Hid (dRest l = r) := Lib.hid (by rw [dRest, if_pos hin, HR.out])
    have Hep : Hid (bs a = bs (dEp l)) := Lib.hid (by rw [dEp, if_pos hin, Ha.out])
    have Hepo : Hid (epOk l = (numB a && decide (a.length ≤ 9))) := Lib.hid (by rw [epOk, hin, Ha.out]; rfl)
    go_enter Tryd.func33, Tryd.ntmps33
    go_wp2_with fail
    refine (cut_any (bs l) 58 _ (by rw [bs_size]; omega)).mono ?_
    rintro e w1 ⟨rfl, hb1⟩
    rw [bs_list, hin, ← HR.out, ← Ha.out]
    clear hin hA hB
    go_wp2_with fail
    refine (number_any (bs a) _ (by rw [bs_size]; omega)).mono ?_
    rintro e w2 ⟨rfl, rfl⟩
    rw [bs_list, show (!a.isEmpty && a.all isDig) = numB a from rfl]
    have hz : ((bs a).size : Int) = (a.length : Int) := by rw [bs_size]
    cases hnum : numB a with
    | false =>
      have hno : dOk l = false := by rw [dOk, Hepo.out, hnum]; rfl
      go_wp2_with fail
      (try simp only [Exit.inBlock, Exit.then])
      refine bodyPost_ret (results4 rfl _ _ _) rfl ?_
      exact ⟨_, _, _, by rw [hno]; rfl, fun h => by (rw [hno] at h; cases h), hb1⟩
    | true =>
      by_cases h9 : a.length ≤ 9
      · have hd9 : decide (9 < ((bs a).size : Int)) = false := by rw [hz]; simp; omega
        have Hepok : Hid (epOk l = true) := Lib.hid (by rw [Hepo.out, hnum]; simp [h9])
        clear hz
        go_wp2_with fail
        refine (lib_any (bs r) _ (by rw [bs_size]; omega)).mono ?_
        rintro e w3 ⟨rfl, rfl⟩
        rw [show Lib.lastIndexByte (bs r) 45 = lastI r from rfl]
        have hlge := lastI_ge r
        have hllt := lastI_lt r
        by_cases h0 : 0 ≤ lastI r
        · obtain ⟨k, hk⟩ := Int.eq_ofNat_of_zero_le h0
          obtain ⟨p, Hp⟩ : ∃ p, Hid (p = dPr r) := ⟨_, Lib.hid rfl⟩
          obtain ⟨v, Hv⟩ : ∃ v, Hid (v = dRev r) := ⟨_, Lib.hid rfl⟩
          have hpl : p.length ≤ r.length := by rw [Hp.out, dPr, if_pos h0, List.length_take]; omega
          have hvl : v.length ≤ r.length := by rw [Hv.out, dRev, if_pos h0, List.length_drop]; omega
          have hkl : k < r.length := by omega
          have HX : Hid ((bs r).extract 0 k = bs p) := Lib.hid (by rw [ext_take _ _ (by rw [bs_size]; omega), Hp.out, dPr, if_pos h0, hk]; rfl)
          have HY : Hid ((bs r).extract (k + 1) (bs r).size = bs v) := Lib.hid (by rw [ext_drop, Hv.out, dRev, if_pos h0, hk]; rfl)
          have Hrk : Hid (restOk r = (madeB v [46, 43, 126] && (madeB p [46, 43, 126, 45] && headDig p))) := Lib.hid (by rw [restOk, show decide (lastI r < 0) = false by simp; omega, Hp.out, Hv.out]; rfl)
          rw [hk]
          clear hk h0 hlge hllt
          have hz : ((bs r).size : Int) = (r.length : Int) := by rw [bs_size]
          have hi1 : (0 : Int) ≤ (k : Int) := by omega
          have hi2 : (k : Int) ≤ ((bs r).size : Int) := by omega
          have hi3 : (0 : Int) ≤ (k : Int) + 1 := by omega
          have hi4 : (k : Int) + 1 ≤ ((bs r).size : Int) := by omega
          have hi5 : ((k : Int) + 1).toNat = k + 1 := by omega
          have hi6 : IntKind.i64.wrap ((k : Int) + 1) = (k : Int) + 1 := i64_in _ (by omega) (by omega)
          clear hz
          go_wp2_with fail
          refine wp_region_plan (fun _ => True) [(false, 0), (false, 1), (false, 2), (false, 3), (false, 4), (false, 5), (false, 6), (false, 7), (false, 8)] (by kernel_rfl) (by kernel_rfl) (trivial) ?_
          simp only [planOps, List.map, List.getD_cons_zero, List.getD_cons_succ]
          iterate 9 ((first | refine plan_quiet (v := ?_) rfl rfl (fun w' hw' => ?_) ?_ | refine plan_calm (v := ?_) (tt_of) rfl (fun w' hw' => ?_) ?_); rotate_left; (focus (go_simp <;> with_reducible rfl)); simp only [Act.put, List.setIfInBounds_toArray, List.set_cons_zero, List.set_cons_succ])
          refine plan_end ?_
          rw [HX.out, HY.out]
          clear hi1 hi2 hi3 hi4 hi5 hi6
          go_wp2_with fail
          refine (made_any (bs v) ⟨#[46, 43, 126]⟩ _ (by rw [bs_size]; omega)).mono ?_
          rintro e w7 ⟨rfl, hb7⟩
          rw [bs_list, show (ByteArray.mk #[46, 43, 126]).data.toList = [46, 43, 126] from rfl]
          have q7 := below_trans (hb1).drew hb7
          cases hmv : madeB v [46, 43, 126] with
          | false =>
            go_wp2_with fail
            (try simp only [Exit.inBlock, Exit.then])
            refine bodyPost_ret (results4 rfl _ _ _) rfl ?_
            have hno : dOk l = false := by rw [dOk, Hr.out, Hrk.out, hmv]; simp
            exact ⟨_, _, _, by rw [hno]; rfl, fun h => by (rw [hno] at h; cases h), q7⟩
          | true =>
            have Hok : Hid (dOk l = (madeB p [46, 43, 126, 45] && headDig p)) := Lib.hid (by rw [dOk, Hr.out, Hrk.out, hmv, Hepok.out]; simp)
            have Hts : Hid (bs a = bs (dEp l) ∧ bs p = bs (dPr (dRest l)) ∧ bs v = bs (dRev (dRest l))) := Lib.hid ⟨Hep.out, by rw [Hr.out, Hp.out], by rw [Hr.out, Hv.out]⟩
            go_wp2_with fail
            refine (made_any (bs p) ⟨#[46, 43, 126, 45]⟩ _ (by rw [bs_size]; omega)).mono ?_
            rintro e w8 ⟨rfl, hb8⟩
            rw [bs_list, show (ByteArray.mk #[46, 43, 126, 45]).data.toList = [46, 43, 126, 45] from rfl]
            have q8 := below_trans q7 hb8
            cases hm : madeB p [46, 43, 126, 45] with
            | false =>
              go_wp2_with fail
              (try simp only [Exit.inBlock, Exit.then])
              refine bodyPost_ret (results4 rfl _ _ _) rfl ?_
              exact ⟨_, _, _, by rw [Hok.out, hm]; rfl, fun h => by (rw [Hok.out, hm] at h; cases h), q8⟩
            | true =>
              have hp0 := madeB_pos p _ hm
              have hi2 : (0 : Int) < ((bs p).size : Int) := by omega
              go_wp2_with fail
              refine (digit_any (bs p)[0] _).mono ?_
              rintro e w9 ⟨rfl, rfl⟩
              go_wp2_with fail
              (try simp only [Exit.inBlock, Exit.then])
              refine bodyPost_ret (results4 rfl _ _ _) rfl ?_
              exact ⟨_, _, _, by rw [Hok.out, hm, get0 p hp0]; rfl, fun _ => Hts.out, q8⟩
        · have h1 : lastI r = -1 := by omega
          obtain ⟨p, Hp⟩ : ∃ p, Hid (p = r) := ⟨_, Lib.hid rfl⟩
          have hpl : p.length ≤ r.length := by rw [Hp.out]; omega
          have Hrk : Hid (restOk r = (madeB p [46, 43, 126, 45] && headDig p)) := Lib.hid (by rw [restOk, show decide (lastI r < 0) = true by simp; omega, dPr, if_neg h0, Hp.out]; rfl)
          have Hok : Hid (dOk l = (madeB p [46, 43, 126, 45] && headDig p)) := Lib.hid (by rw [dOk, Hr.out, Hrk.out, Hepok.out]; simp)
          have Hts : Hid (bs a = bs (dEp l) ∧ bs p = bs (dPr (dRest l)) ∧ (⟨#[]⟩ : ByteArray) = bs (dRev (dRest l))) := Lib.hid ⟨Hep.out, by rw [Hr.out, dPr, if_neg h0, Hp.out], by rw [Hr.out, dRev, if_neg h0]; rfl⟩
          rw [h1, ← Hp.out]
          clear h0 h1 hlge hllt
          go_wp2_with fail
          refine (made_any (bs p) ⟨#[46, 43, 126, 45]⟩ _ (by rw [bs_size]; omega)).mono ?_
          rintro e w8 ⟨rfl, hb8⟩
          rw [bs_list, show (ByteArray.mk #[46, 43, 126, 45]).data.toList = [46, 43, 126, 45] from rfl]
          have q8 := below_trans hb1 hb8
          cases hm : madeB p [46, 43, 126, 45] with
          | false =>
            go_wp2_with fail
            (try simp only [Exit.inBlock, Exit.then])
            refine bodyPost_ret (results4 rfl _ _ _) rfl ?_
            exact ⟨_, _, _, by rw [Hok.out, hm]; rfl, fun h => by (rw [Hok.out, hm] at h; cases h), q8⟩
          | true =>
            have hp0 := madeB_pos p _ hm
            have hi2 : (0 : Int) < ((bs p).size : Int) := by omega
            go_wp2_with fail
            refine (digit_any (bs p)[0] _).mono ?_
            rintro e w9 ⟨rfl, rfl⟩
            go_wp2_with fail
            (try simp only [Exit.inBlock, Exit.then])
            refine bodyPost_ret (results4 rfl _ _ _) rfl ?_
            exact ⟨_, _, _, by rw [Hok.out, hm, get0 p hp0]; rfl, fun _ => Hts.out, q8⟩
      · have hd9 : decide (9 < ((bs a).size : Int)) = true := by rw [hz]; simp; omega
        have hno : dOk l = false := by rw [dOk, Hepo.out, hnum]; simp [h9]
        clear hz
        go_wp2_with fail
        (try simp only [Exit.inBlock, Exit.then])
        refine bodyPost_ret (results4 rfl _ _ _) rfl ?_
        exact ⟨_, _, _, by rw [hno]; rfl, fun h => by (rw [hno] at h; cases h), hb1⟩
  | false =>
    obtain ⟨r, HR⟩ : ∃ r, Hid (r = l) := ⟨_, Lib.hid rfl⟩
    have hrl : r.length ≤ l.length := by rw [HR.out]; exact Nat.le_refl _
    have Hr : Hid (dRest l = r) := Lib.hid (by rw [dRest, if_neg (by rw [hin]; simp), HR.out])
    have Hep : Hid ((⟨#[]⟩ : ByteArray) = bs (dEp l)) := Lib.hid (by rw [dEp, if_neg (by rw [hin]; simp)]; rfl)
    have Hepok : Hid (epOk l = true) := Lib.hid (by rw [epOk, hin]; rfl)
    go_enter Tryd.func33, Tryd.ntmps33
    go_wp2_with fail
    refine (cut_any (bs l) 58 _ (by rw [bs_size]; omega)).mono ?_
    rintro e w1 ⟨rfl, hb1⟩
    rw [bs_list, hin]
    clear hin hA hB
    go_wp2_with fail
    rw [← HR.out]
    refine (lib_any (bs r) _ (by rw [bs_size]; omega)).mono ?_
    rintro e w3 ⟨rfl, rfl⟩
    rw [show Lib.lastIndexByte (bs r) 45 = lastI r from rfl]
    have hlge := lastI_ge r
    have hllt := lastI_lt r
    by_cases h0 : 0 ≤ lastI r
    · obtain ⟨k, hk⟩ := Int.eq_ofNat_of_zero_le h0
      obtain ⟨p, Hp⟩ : ∃ p, Hid (p = dPr r) := ⟨_, Lib.hid rfl⟩
      obtain ⟨v, Hv⟩ : ∃ v, Hid (v = dRev r) := ⟨_, Lib.hid rfl⟩
      have hpl : p.length ≤ r.length := by rw [Hp.out, dPr, if_pos h0, List.length_take]; omega
      have hvl : v.length ≤ r.length := by rw [Hv.out, dRev, if_pos h0, List.length_drop]; omega
      have hkl : k < r.length := by omega
      have HX : Hid ((bs r).extract 0 k = bs p) := Lib.hid (by rw [ext_take _ _ (by rw [bs_size]; omega), Hp.out, dPr, if_pos h0, hk]; rfl)
      have HY : Hid ((bs r).extract (k + 1) (bs r).size = bs v) := Lib.hid (by rw [ext_drop, Hv.out, dRev, if_pos h0, hk]; rfl)
      have Hrk : Hid (restOk r = (madeB v [46, 43, 126] && (madeB p [46, 43, 126, 45] && headDig p))) := Lib.hid (by rw [restOk, show decide (lastI r < 0) = false by simp; omega, Hp.out, Hv.out]; rfl)
      rw [hk]
      clear hk h0 hlge hllt
      have hz : ((bs r).size : Int) = (r.length : Int) := by rw [bs_size]
      have hi1 : (0 : Int) ≤ (k : Int) := by omega
      have hi2 : (k : Int) ≤ ((bs r).size : Int) := by omega
      have hi3 : (0 : Int) ≤ (k : Int) + 1 := by omega
      have hi4 : (k : Int) + 1 ≤ ((bs r).size : Int) := by omega
      have hi5 : ((k : Int) + 1).toNat = k + 1 := by omega
      have hi6 : IntKind.i64.wrap ((k : Int) + 1) = (k : Int) + 1 := i64_in _ (by omega) (by omega)
      clear hz
      go_wp2_with fail
      refine wp_region_plan (fun _ => True) [(false, 0), (false, 1), (false, 2), (false, 3), (false, 4), (false, 5), (false, 6), (false, 7), (false, 8)] (by kernel_rfl) (by kernel_rfl) (trivial) ?_
      simp only [planOps, List.map, List.getD_cons_zero, List.getD_cons_succ]
      iterate 9 ((first | refine plan_quiet (v := ?_) rfl rfl (fun w' hw' => ?_) ?_ | refine plan_calm (v := ?_) (tt_of) rfl (fun w' hw' => ?_) ?_); rotate_left; (focus (go_simp <;> with_reducible rfl)); simp only [Act.put, List.setIfInBounds_toArray, List.set_cons_zero, List.set_cons_succ])
      refine plan_end ?_
      rw [HX.out, HY.out]
      clear hi1 hi2 hi3 hi4 hi5 hi6
      go_wp2_with fail
      refine (made_any (bs v) ⟨#[46, 43, 126]⟩ _ (by rw [bs_size]; omega)).mono ?_
      rintro e w7 ⟨rfl, hb7⟩
      rw [bs_list, show (ByteArray.mk #[46, 43, 126]).data.toList = [46, 43, 126] from rfl]
      have q7 := below_trans (hb1).drew hb7
      cases hmv : madeB v [46, 43, 126] with
      | false =>
        go_wp2_with fail
        (try simp only [Exit.inBlock, Exit.then])
        refine bodyPost_ret (results4 rfl _ _ _) rfl ?_
        have hno : dOk l = false := by rw [dOk, Hr.out, Hrk.out, hmv]; simp
        exact ⟨_, _, _, by rw [hno]; rfl, fun h => by (rw [hno] at h; cases h), q7⟩
      | true =>
        have Hok : Hid (dOk l = (madeB p [46, 43, 126, 45] && headDig p)) := Lib.hid (by rw [dOk, Hr.out, Hrk.out, hmv, Hepok.out]; simp)
        have Hts : Hid ((⟨#[]⟩ : ByteArray) = bs (dEp l) ∧ bs p = bs (dPr (dRest l)) ∧ bs v = bs (dRev (dRest l))) := Lib.hid ⟨Hep.out, by rw [Hr.out, Hp.out], by rw [Hr.out, Hv.out]⟩
        go_wp2_with fail
        refine (made_any (bs p) ⟨#[46, 43, 126, 45]⟩ _ (by rw [bs_size]; omega)).mono ?_
        rintro e w8 ⟨rfl, hb8⟩
        rw [bs_list, show (ByteArray.mk #[46, 43, 126, 45]).data.toList = [46, 43, 126, 45] from rfl]
        have q8 := below_trans q7 hb8
        cases hm : madeB p [46, 43, 126, 45] with
        | false =>
          go_wp2_with fail
          (try simp only [Exit.inBlock, Exit.then])
          refine bodyPost_ret (results4 rfl _ _ _) rfl ?_
          exact ⟨_, _, _, by rw [Hok.out, hm]; rfl, fun h => by (rw [Hok.out, hm] at h; cases h), q8⟩
        | true =>
          have hp0 := madeB_pos p _ hm
          have hi2 : (0 : Int) < ((bs p).size : Int) := by omega
          go_wp2_with fail
          refine (digit_any (bs p)[0] _).mono ?_
          rintro e w9 ⟨rfl, rfl⟩
          go_wp2_with fail
          (try simp only [Exit.inBlock, Exit.then])
          refine bodyPost_ret (results4 rfl _ _ _) rfl ?_
          exact ⟨_, _, _, by rw [Hok.out, hm, get0 p hp0]; rfl, fun _ => Hts.out, q8⟩
    · have h1 : lastI r = -1 := by omega
      obtain ⟨p, Hp⟩ : ∃ p, Hid (p = r) := ⟨_, Lib.hid rfl⟩
      have hpl : p.length ≤ r.length := by rw [Hp.out]; omega
      have Hrk : Hid (restOk r = (madeB p [46, 43, 126, 45] && headDig p)) := Lib.hid (by rw [restOk, show decide (lastI r < 0) = true by simp; omega, dPr, if_neg h0, Hp.out]; rfl)
      have Hok : Hid (dOk l = (madeB p [46, 43, 126, 45] && headDig p)) := Lib.hid (by rw [dOk, Hr.out, Hrk.out, Hepok.out]; simp)
      have Hts : Hid ((⟨#[]⟩ : ByteArray) = bs (dEp l) ∧ bs p = bs (dPr (dRest l)) ∧ (⟨#[]⟩ : ByteArray) = bs (dRev (dRest l))) := Lib.hid ⟨Hep.out, by rw [Hr.out, dPr, if_neg h0, Hp.out], by rw [Hr.out, dRev, if_neg h0]; rfl⟩
      rw [h1, ← Hp.out]
      clear h0 h1 hlge hllt
      go_wp2_with fail
      refine (made_any (bs p) ⟨#[46, 43, 126, 45]⟩ _ (by rw [bs_size]; omega)).mono ?_
      rintro e w8 ⟨rfl, hb8⟩
      rw [bs_list, show (ByteArray.mk #[46, 43, 126, 45]).data.toList = [46, 43, 126, 45] from rfl]
      have q8 := below_trans hb1 hb8
      cases hm : madeB p [46, 43, 126, 45] with
      | false =>
        go_wp2_with fail
        (try simp only [Exit.inBlock, Exit.then])
        refine bodyPost_ret (results4 rfl _ _ _) rfl ?_
        exact ⟨_, _, _, by rw [Hok.out, hm]; rfl, fun h => by (rw [Hok.out, hm] at h; cases h), q8⟩
      | true =>
        have hp0 := madeB_pos p _ hm
        have hi2 : (0 : Int) < ((bs p).size : Int) := by omega
        go_wp2_with fail
        refine (digit_any (bs p)[0] _).mono ?_
        rintro e w9 ⟨rfl, rfl⟩
        go_wp2_with fail
        (try simp only [Exit.inBlock, Exit.then])
        refine bodyPost_ret (results4 rfl _ _ _) rfl ?_
        exact ⟨_, _, _, by rw [Hok.out, hm, get0 p hp0]; rfl, fun _ => Hts.out, q8⟩
end Go.Proofs.YtdnncbhbajciaaaDoor

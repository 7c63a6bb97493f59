/- The walk of version.splitRpm. -/
import Derived.Test.YtdnncbhbajciaaaDoorVerE
namespace Go.Proofs.YtdnncbhbajciaaaDoor
open Go.RowKit
def rOthers : List UInt8 := [46, 95, 43, 126, 94]
def rEpOk (l : List UInt8) : Bool := !inB l 58 || (numB (cutA l 58) && decide ((cutA l 58).length ≤ 9) && !noughtB (cutA l 58))
def rOk (l : List UInt8) : Bool := rEpOk l && (madeB (cutA (dRest l) 45) rOthers && madeB (cutB (dRest l) 45) rOthers)
set_option maxRecDepth 20000 in
set_option maxHeartbeats 4000000 in
theorem splitRpm_any (s : ByteArray) (w : World) (hs : s.size ≤ 1000000000) :
    Calls Tryd.prog 34 #[.string s] w (Splits w (dEp s.data.toList) (cutA (dRest s.data.toList) 45) (cutB (dRest s.data.toList) 45) (rOk s.data.toList)) := by
  obtain ⟨l, rfl⟩ : ∃ l, s = bs l := ⟨_, bs_self s⟩
  rw [bs_list]
  rw [bs_size] at hs
  have hA := cutA_len l 58
  have hB := cutB_len l 58
  cases hin : inB l 58 with
  | true =>
    obtain ⟨r, HR⟩ : ∃ r, Hid (r = cutB l 58) := ⟨_, Lib.hid rfl⟩
    obtain ⟨a, Ha⟩ : ∃ a, Hid (a = cutA l 58) := ⟨_, Lib.hid rfl⟩
    have hrl : r.length ≤ l.length := by rw [HR.out]; exact hB
    have hal : a.length ≤ l.length := by rw [Ha.out]; exact hA
    have Hr : Hid (dRest l = r) := Lib.hid (by rw [dRest, if_pos hin, HR.out])
    have Hep : Hid (bs a = bs (dEp l)) := Lib.hid (by rw [dEp, if_pos hin, Ha.out])
    have Hepo : Hid (rEpOk l = (numB a && decide (a.length ≤ 9) && !noughtB a)) := Lib.hid (by rw [rEpOk, hin, Ha.out]; rfl)
    go_enter Tryd.func34, Tryd.ntmps34
    go_wp2_with fail
    refine (cut_any (bs l) 58 _ (by rw [bs_size]; omega)).mono ?_
    rintro e w1 ⟨rfl, hb1⟩
    rw [bs_list, hin, ← HR.out, ← Ha.out]
    clear hin hA hB
    go_wp2_with fail
    refine (number_any (bs a) _ (by rw [bs_size]; omega)).mono ?_
    rintro e w2 ⟨rfl, rfl⟩
    rw [bs_list, show (!a.isEmpty && a.all isDig) = numB a from rfl]
    have hz : ((bs a).size : Int) = (a.length : Int) := by rw [bs_size]
    cases hnum : numB a with
    | false =>
      have hno : rOk l = false := by rw [rOk, Hepo.out, hnum]; rfl
      go_wp2_with fail
      (try simp only [Exit.inBlock, Exit.then])
      refine bodyPost_ret (results4 rfl _ _ _) rfl ?_
      exact ⟨_, _, _, by rw [hno]; rfl, fun h => by (rw [hno] at h; cases h), hb1⟩
    | true =>
      by_cases h9 : a.length ≤ 9
      · have hd9 : decide (9 < ((bs a).size : Int)) = false := by rw [hz]; simp; omega
        clear hz
        go_wp2_with fail
        refine (nought_any (bs a) _).mono ?_
        rintro e w2 ⟨rfl, rfl⟩
        rw [bs_list]
        cases hno2 : noughtB a with
        | true =>
          have hno : rOk l = false := by rw [rOk, Hepo.out, hnum, hno2]; simp
          go_wp2_with fail
          (try simp only [Exit.inBlock, Exit.then])
          refine bodyPost_ret (results4 rfl _ _ _) rfl ?_
          exact ⟨_, _, _, by rw [hno]; rfl, fun h => by (rw [hno] at h; cases h), hb1⟩
        | false =>
          have Hepok : Hid (rEpOk l = true) := Lib.hid (by rw [Hepo.out, hnum, hno2]; simp [h9])
          go_wp2_with fail
          have hpl := cutA_len r 45
          have hvl := cutB_len r 45
          refine (cut_any (bs r) 45 _ (by rw [bs_size]; omega)).mono ?_
          rintro e w3 ⟨rfl, hb3⟩
          rw [bs_list]
          have q3 := below_trans hb1 hb3
          obtain ⟨p, Hp⟩ : ∃ p, Hid (p = cutA r 45) := ⟨_, Lib.hid rfl⟩
          obtain ⟨v, Hv⟩ : ∃ v, Hid (v = cutB r 45) := ⟨_, Lib.hid rfl⟩
          rw [← Hp.out, ← Hv.out]
          rw [← Hp.out] at hpl
          rw [← Hv.out] at hvl
          have Hok : Hid (rOk l = (madeB p rOthers && madeB v rOthers)) := Lib.hid (by rw [rOk, Hr.out, Hepok.out, Hp.out, Hv.out]; simp)
          have Hts : Hid (bs a = bs (dEp l) ∧ bs p = bs (cutA (dRest l) 45) ∧ bs v = bs (cutB (dRest l) 45)) := Lib.hid ⟨Hep.out, by rw [Hr.out, Hp.out], by rw [Hr.out, Hv.out]⟩
          go_wp2_with fail
          refine (made_any (bs p) ⟨#[46, 95, 43, 126, 94]⟩ _ (by rw [bs_size]; omega)).mono ?_
          rintro e w8 ⟨rfl, hb8⟩
          rw [bs_list, show (ByteArray.mk #[46, 95, 43, 126, 94]).data.toList = rOthers from rfl]
          have q8 := below_trans q3 hb8
          cases hm : madeB p rOthers with
          | false =>
            go_wp2_with fail
            (try simp only [Exit.inBlock, Exit.then])
            refine bodyPost_ret (results4 rfl _ _ _) rfl ?_
            exact ⟨_, _, _, by rw [Hok.out, hm]; rfl, fun h => by (rw [Hok.out, hm] at h; cases h), q8⟩
          | true =>
            go_wp2_with fail
            refine (made_any (bs v) ⟨#[46, 95, 43, 126, 94]⟩ _ (by rw [bs_size]; omega)).mono ?_
            rintro e w9 ⟨rfl, hb9⟩
            rw [bs_list, show (ByteArray.mk #[46, 95, 43, 126, 94]).data.toList = rOthers from rfl]
            have q9 := below_trans q8 hb9
            go_wp2_with fail
            (try simp only [Exit.inBlock, Exit.then])
            refine bodyPost_ret (results4 rfl _ _ _) rfl ?_
            exact ⟨_, _, _, by rw [Hok.out, hm]; rfl, fun _ => Hts.out, q9⟩
      · have hd9 : decide (9 < ((bs a).size : Int)) = true := by rw [hz]; simp; omega
        have hno : rOk l = false := by rw [rOk, Hepo.out, hnum]; simp [h9]
        clear hz
        go_wp2_with fail
        (try simp only [Exit.inBlock, Exit.then])
        refine bodyPost_ret (results4 rfl _ _ _) rfl ?_
        exact ⟨_, _, _, by rw [hno]; rfl, fun h => by (rw [hno] at h; cases h), hb1⟩
  | false =>
    obtain ⟨r, HR⟩ : ∃ r, Hid (r = l) := ⟨_, Lib.hid rfl⟩
    have hrl : r.length ≤ l.length := by rw [HR.out]; exact Nat.le_refl _
    have Hr : Hid (dRest l = r) := Lib.hid (by rw [dRest, if_neg (by rw [hin]; simp), HR.out])
    have Hep : Hid ((⟨#[]⟩ : ByteArray) = bs (dEp l)) := Lib.hid (by rw [dEp, if_neg (by rw [hin]; simp)]; rfl)
    have Hepok : Hid (rEpOk l = true) := Lib.hid (by rw [rEpOk, hin]; rfl)
    go_enter Tryd.func34, Tryd.ntmps34
    go_wp2_with fail
    refine (cut_any (bs l) 58 _ (by rw [bs_size]; omega)).mono ?_
    rintro e w1 ⟨rfl, hb1⟩
    rw [bs_list, hin]
    clear hin hA hB
    go_wp2_with fail
    rw [← HR.out]
    have hpl := cutA_len r 45
    have hvl := cutB_len r 45
    refine (cut_any (bs r) 45 _ (by rw [bs_size]; omega)).mono ?_
    rintro e w3 ⟨rfl, hb3⟩
    rw [bs_list]
    have q3 := below_trans hb1 hb3
    obtain ⟨p, Hp⟩ : ∃ p, Hid (p = cutA r 45) := ⟨_, Lib.hid rfl⟩
    obtain ⟨v, Hv⟩ : ∃ v, Hid (v = cutB r 45) := ⟨_, Lib.hid rfl⟩
    rw [← Hp.out, ← Hv.out]
    rw [← Hp.out] at hpl
    rw [← Hv.out] at hvl
    have Hok : Hid (rOk l = (madeB p rOthers && madeB v rOthers)) := Lib.hid (by rw [rOk, Hr.out, Hepok.out, Hp.out, Hv.out]; simp)
    have Hts : Hid ((⟨#[]⟩ : ByteArray) = bs (dEp l) ∧ bs p = bs (cutA (dRest l) 45) ∧ bs v = bs (cutB (dRest l) 45)) := Lib.hid ⟨Hep.out, by rw [Hr.out, Hp.out], by rw [Hr.out, Hv.out]⟩
    go_wp2_with fail
    refine (made_any (bs p) ⟨#[46, 95, 43, 126, 94]⟩ _ (by rw [bs_size]; omega)).mono ?_
    rintro e w8 ⟨rfl, hb8⟩
    rw [bs_list, show (ByteArray.mk #[46, 95, 43, 126, 94]).data.toList = rOthers from rfl]
    have q8 := below_trans q3 hb8
    cases hm : madeB p rOthers with
    | false =>
      go_wp2_with fail
      (try simp only [Exit.inBlock, Exit.then])
      refine bodyPost_ret (results4 rfl _ _ _) rfl ?_
      exact ⟨_, _, _, by rw [Hok.out, hm]; rfl, fun h => by (rw [Hok.out, hm] at h; cases h), q8⟩
    | true =>
      go_wp2_with fail
      refine (made_any (bs v) ⟨#[46, 95, 43, 126, 94]⟩ _ (by rw [bs_size]; omega)).mono ?_
      rintro e w9 ⟨rfl, hb9⟩
      rw [bs_list, show (ByteArray.mk #[46, 95, 43, 126, 94]).data.toList = rOthers from rfl]
      have q9 := below_trans q8 hb9
      go_wp2_with fail
      (try simp only [Exit.inBlock, Exit.then])
      refine bodyPost_ret (results4 rfl _ _ _) rfl ?_
      exact ⟨_, _, _, by rw [Hok.out, hm]; rfl, fun _ => Hts.out, q9⟩
end Go.Proofs.YtdnncbhbajciaaaDoor

/- The walks of entry.parents, owner, target and of the document's owner, above, alike. -/
import Derived.Test.YtjhikglgaoncjaaDoorEnE
import Derived.Test.YtjhikglgaoncjaaDoorAny
namespace Go.Proofs.YtjhikglgaoncjaaDoor
open Go.RowKit
theorem up_step (s : List UInt8) (k : Nat) (h : k < s.length) : upP (s.take k) (s.drop k) = if s[k] = 47 then s.take k :: upP (s.take (k + 1)) (s.drop (k + 1)) else upP (s.take (k + 1)) (s.drop (k + 1)) := by
  rw [List.drop_eq_getElem_cons h, upP, List.take_succ_eq_append_getElem h]
theorem up_len : ∀ (l acc : List UInt8), (upP acc l).length ≤ l.length
  | [], _ => by simp [upP]
  | c :: t, acc => by
    have := up_len t (acc ++ [c])
    rw [upP]
    split <;> simp <;> omega
set_option maxRecDepth 20000 in
set_option maxHeartbeats 8000000 in
theorem parents_any (s : List UInt8) (w : World) (hs : s.length ≤ 1000000000) :
    Calls Tryd.prog 26 #[.string (bs s)] w fun e w' => (∃ v, e = .returned v ∧ Sl 1 Rtext nowhere w' v (upsL s)) ∧ Below w.heap.size w w' := by
  have HX : Hid (upsL s = [] ++ upP (s.take 0) (s.drop 0)) := Lib.hid (by simp [upsL])
  generalize upsL s = res at HX
  have hz : ((bs s).size : Int) = (s.length : Int) := by rw [bs_size]
  go_enter Tryd.func26, Tryd.ntmps26
  go_wp2_with fail
  go_loopg [3, 7] s.length (fun G s3 s7 wr => ∃ (k : Nat) (acc : List (List UInt8)), k ≤ s.length ∧ acc.length ≤ k ∧ G = s.length - k ∧ s7 = .int .i64 k ∧ Below w.heap.size w wr ∧ OwnL 1 Rtext 9 w.heap.size (old w.heap.size) wr s3 acc ∧ Hid (res = acc ++ upP (s.take k) (s.drop k)))
  case atStart => exact ⟨0, [], Nat.zero_le _, Nat.le_refl _, rfl, rfl, Below.refl _ _, OwnL.nil _ _ _ _ _ _, HX⟩
  case round =>
    clear HX
    obtain ⟨k, acc, hk, hac, rfl, rfl, hbw, hown, HE⟩ := hrel
    obtain ⟨A3, cap3, rfl⟩ := hown.form
    by_cases hlt : k < s.length
    · have hks : (k : Int) < ((bs s).size : Int) := by omega
      have hks2 : k < (bs s).size := by rw [bs_size]; exact hlt
      obtain ⟨b, hb⟩ : ∃ b, b = s[k]'hlt := ⟨_, rfl⟩
      have HST : Hid (res = acc ++ (if b = 47 then s.take k :: upP (s.take (k + 1)) (s.drop (k + 1)) else upP (s.take (k + 1)) (s.drop (k + 1)))) := Lib.hid (by rw [HE.out, up_step s k hlt, hb])
      have hbb : (bs s)[k]'hks2 = b := hb.symm
      have i1 : (0 : Int) ≤ (k : Int) := by omega
      have i2 : (k : Int) < (s.length : Int) := by omega
      have i3 : (k : Int) ≤ ((bs s).size : Int) := by omega
      have hext : (bs s).extract 0 k = bs (s.take k) := by rw [ext_take _ _ (by rw [bs_size]; omega), bs_list]
      clear hb HE
      have hq : ((b.toNat : Int) == 47) = decide (b = 47) := by rw [show (47 : Int) = ((47 : UInt8).toNat : Int) from rfl, beq_byte]
      by_cases he : b = 47
      · have HN : Hid (res = (acc ++ [s.take k]) ++ upP (s.take (k + 1)) (s.drop (k + 1))) := Lib.hid (by rw [HST.out, if_pos he]; simp)
        rw [decide_eq_true he] at hq
        have hnew := hown.new
        clear he HST
        generalize s.take k = piece at hext HN
        go_wp2_with (at_builtin; refine wpList_appendL (l := acc) good_text rfl _ _ _ _ _ 16 rfl Tryd.underlying49 info_str rfl (by omega) _ rfl hown [.string (bs piece)] piece rfl rfl (by omega) (by omega) hbw.size (fun k hk hk2 => by have := hbw.size; unfold old at hk2; omega) ?_; intro v5 w5 hown5 hk5)
        have q5 := hbw.trans (hk5.below hbw.size (fun k _ h => hnew k h))
        clear hk5 hnew hown
        go_wp2_with fail
        go_roundg (s.length - (k + 1))
        case measure => omega
        case rel => exact ⟨k + 1, acc ++ [piece], by omega, by simp; omega, rfl, by simp, q5, hown5, HN⟩
      · have HN : Hid (res = acc ++ upP (s.take (k + 1)) (s.drop (k + 1))) := Lib.hid (by rw [HST.out, if_neg he])
        rw [decide_eq_false he] at hq
        clear he HST
        go_wp2_with fail
        go_roundg (s.length - (k + 1))
        case measure => omega
        case rel => exact ⟨k + 1, acc, by omega, by omega, rfl, by simp, hbw, hown, HN⟩
    · have HV : Hid (res = acc) := Lib.hid (by rw [HE.out, List.drop_eq_nil_of_le (by omega)]; simp [upP])
      have hke : k = s.length := by omega
      subst hke
      clear HE
      go_wp2_with fail
      go_ret
      rw [HV.out]
      exact ⟨⟨_, rfl, (hown.no free_text).sl good_text⟩, hbw⟩
theorem idxAny_has (s C : List UInt8) : decide ((0 : Int) ≤ Lib.indexAny s C) = s.any fun c => C.contains c := by
  induction s with
  | nil => rfl
  | cons b s ih =>
    have hge := Lib.indexAny_ge C s
    rw [Lib.indexAny, List.any_cons]
    cases hb : C.contains b with
    | true => rfl
    | false =>
      rw [if_neg (by simp), Bool.false_or, ← ih]
      by_cases hm : Lib.indexAny s C = -1
      · rw [hm]; rfl
      · rw [if_neg (by simpa using hm)]
        exact decide_eq_decide.2 (by omega)
set_option maxRecDepth 20000 in
set_option maxHeartbeats 4000000 in
theorem cany_any (s : List UInt8) (C : ByteArray) (D : List UInt8) (hD : C.data.toList = D) (w : World) (hs : s.length ≤ 1000000000) (h2 : 2 ≤ C.size) (h8 : C.size ≤ 1000) (hch : ∀ b ∈ C.data.toList, b.toNat < 128) :
    Calls Tryd.prog 48 #[.string (bs s), .string C] w fun e w' => e = .returned (.bool (s.any fun c => D.contains c)) ∧ Below w.heap.size w w' := by
  have hI := iany (bs s) C w (by rw [bs_size]; omega) h2 h8 hch
  have HB := Lib.hid (idxAny_has s D)
  rw [bs_list, hD] at hI
  generalize (s.any fun c => D.contains c) = res at HB
  go_enter Tryd.func48, Tryd.ntmps48
  go_wp2_with fail
  refine hI.mono ?_
  rintro e w1 ⟨rfl, hb⟩
  have hge := HB.out
  generalize Lib.indexAny s D = z at hge
  clear HB
  go_wp2_with fail
  go_ret
  exact ⟨by first | rfl | (rw [← hge]) | (rw [← hge]; rfl), hb⟩
theorem own_any (s : List UInt8) : (s.any fun c => ([0, 10, 58] : List UInt8).contains c) = s.any fun c => decide (c = 0) || (decide (c = 10) || decide (c = 58)) := by
  congr 1
  funext c
  rw [Bool.eq_iff_iff]; simp
theorem tgt_any (s : List UInt8) : (s.any fun c => ([0, 10] : List UInt8).contains c) = s.any fun c => decide (c = 0) || decide (c = 10) := by
  congr 1
  funext c
  rw [Bool.eq_iff_iff]; simp
set_option maxRecDepth 20000 in
set_option maxHeartbeats 4000000 in
theorem powner_any (s : List UInt8) (w : World) (hs : s.length ≤ 1000000000) :
    Calls Tryd.prog 28 #[.string (bs s)] w fun e w' => e = .returned (.bool (ownOk s)) ∧ Below w.heap.size w w' := by
  have HX : Hid (ownOk s = (decide (s.length ≤ 31) && !s.any fun c => ([0, 10, 58] : List UInt8).contains c)) := Lib.hid (by rw [own_any]; rfl)
  generalize ownOk s = res at HX
  have hz : ((bs s).size : Int) = (s.length : Int) := by rw [bs_size]
  go_enter Tryd.func28, Tryd.ntmps28
  by_cases h1 : s.length ≤ 31
  · have d1 : decide ((s.length : Int) ≤ 31) = true := by simp; omega
    have HX2 := Lib.hid (show res = !s.any fun c => ([0, 10, 58] : List UInt8).contains c by rw [HX.out, decide_eq_true h1, Bool.true_and])
    clear HX h1
    go_wp2_with fail
    refine (cany_any s ⟨#[0, 10, 58]⟩ [0, 10, 58] rfl _ hs (by decide) (by decide) (by decide)).mono ?_
    rintro e w1 ⟨rfl, hb1⟩
    generalize (s.any fun c => ([0, 10, 58] : List UInt8).contains c) = z at HX2 ⊢
    go_wp2_with fail
    go_ret
    exact ⟨by rw [HX2.out]; rfl, hb1⟩
  · have d1 : decide ((s.length : Int) ≤ 31) = false := by simp; omega
    have HV := Lib.hid (show res = false by rw [HX.out, decide_eq_false h1]; rfl)
    clear HX h1
    go_wp2_with fail
    go_ret
    exact ⟨by rw [HV.out]; rfl, Below.refl _ _⟩
set_option maxRecDepth 20000 in
set_option maxHeartbeats 4000000 in
theorem ptarget_any (s : List UInt8) (w : World) (hs : s.length ≤ 1000000000) :
    Calls Tryd.prog 29 #[.string (bs s)] w fun e w' => e = .returned (.bool (tgtOk s)) ∧ Below w.heap.size w w' := by
  have HX : Hid (tgtOk s = (decide (1 ≤ s.length) && (decide (s.length ≤ 200) && !s.any fun c => ([0, 10] : List UInt8).contains c))) := Lib.hid (by rw [tgt_any]; rfl)
  generalize tgtOk s = res at HX
  have hz : ((bs s).size : Int) = (s.length : Int) := by rw [bs_size]
  go_enter Tryd.func29, Tryd.ntmps29
  by_cases h0 : 1 ≤ s.length
  · have d0 : decide ((1 : Int) ≤ (s.length : Int)) = true := by simp; omega
    by_cases h1 : s.length ≤ 200
    · have d1 : decide ((s.length : Int) ≤ 200) = true := by simp; omega
      have HX2 := Lib.hid (show res = !s.any fun c => ([0, 10] : List UInt8).contains c by rw [HX.out, decide_eq_true h0, decide_eq_true h1, Bool.true_and, Bool.true_and])
      clear HX h0 h1
      go_wp2_with fail
      refine (cany_any s ⟨#[0, 10]⟩ [0, 10] rfl _ hs (by decide) (by decide) (by decide)).mono ?_
      rintro e w1 ⟨rfl, hb1⟩
      generalize (s.any fun c => ([0, 10] : List UInt8).contains c) = z at HX2 ⊢
      go_wp2_with fail
      go_ret
      exact ⟨by rw [HX2.out]; rfl, hb1⟩
    · have d1 : decide ((s.length : Int) ≤ 200) = false := by simp; omega
      have HV := Lib.hid (show res = false by rw [HX.out, decide_eq_false h1]; simp)
      clear HX h0 h1
      go_wp2_with fail
      go_ret
      exact ⟨by rw [HV.out]; rfl, Below.refl _ _⟩
  · have d0 : decide ((1 : Int) ≤ (s.length : Int)) = false := by simp; omega
    have HV := Lib.hid (show res = false by rw [HX.out, decide_eq_false h0]; rfl)
    clear HX h0
    go_wp2_with fail
    go_ret
    exact ⟨by rw [HV.out]; rfl, Below.refl _ _⟩
theorem any_has3 (s : List UInt8) : (s.any fun c => decide (c = 0) || (decide (c = 10) || decide (c = 58))) = (s.contains 0 || (s.contains 10 || s.contains 58)) := by
  induction s with
  | nil => rfl
  | cons c t ih =>
    rw [List.any_cons, ih, List.contains_cons, List.contains_cons, List.contains_cons]
    have e : ∀ d : UInt8, decide (c = d) = (d == c) := fun d => by rw [Bool.eq_iff_iff, decide_eq_true_iff, beq_iff_eq]; exact eq_comm
    rw [e 0, e 10, e 58]
    cases (0 : UInt8) == c <;> cases (10 : UInt8) == c <;> cases (58 : UInt8) == c <;> cases t.contains 0 <;> cases t.contains 10 <;> cases t.contains 58 <;> rfl
theorem any_has2 (s : List UInt8) : (s.any fun c => decide (c = 0) || decide (c = 10)) = (s.contains 0 || s.contains 10) := by
  induction s with
  | nil => rfl
  | cons c t ih =>
    rw [List.any_cons, ih, List.contains_cons, List.contains_cons]
    have e : ∀ d : UInt8, decide (c = d) = (d == c) := fun d => by rw [Bool.eq_iff_iff, decide_eq_true_iff, beq_iff_eq]; exact eq_comm
    rw [e 0, e 10]
    cases (0 : UInt8) == c <;> cases (10 : UInt8) == c <;> cases t.contains 0 <;> cases t.contains 10 <;> rfl
set_option maxRecDepth 20000 in
set_option maxHeartbeats 4000000 in
theorem rowner_any (s : List UInt8) (w : World) (hs : s.length ≤ 1000000000) :
    Calls Tryd.prog 30 #[.string (bs s)] w fun e w' => e = .returned (.bool (ownOk s)) ∧ w = w' := by
  have HX : Hid (ownOk s = (decide (s.length ≤ 31) && !(s.contains 0 || (s.contains 10 || s.contains 58)))) := Lib.hid (by rw [← any_has3]; rfl)
  generalize ownOk s = res at HX
  have hz : ((bs s).size : Int) = (s.length : Int) := by rw [bs_size]
  go_enter Tryd.func30, Tryd.ntmps30
  by_cases h1 : s.length ≤ 31
  · have d1 : decide ((s.length : Int) ≤ 31) = true := by simp; omega
    have HX2 := Lib.hid (show res = !(s.contains 0 || (s.contains 10 || s.contains 58)) by rw [HX.out, decide_eq_true h1, Bool.true_and])
    clear HX h1
    go_wp2_with fail
    refine (has_lit s 0 0 rfl _ hs).mono ?_
    rintro e w1 ⟨rfl, rfl⟩
    cases h0 : s.contains 0 with
    | true =>
      have HV := Lib.hid (show res = false by rw [HX2.out, h0]; rfl)
      clear h0 HX2
      go_wp2_with fail
      go_ret
      exact ⟨by rw [HV.out]; rfl, rfl⟩
    | false =>
      have HX3 := Lib.hid (show res = !(s.contains 10 || s.contains 58) by rw [HX2.out, h0]; rfl)
      clear h0 HX2
      go_wp2_with fail
      refine (has_lit s 10 10 rfl _ hs).mono ?_
      rintro e w1 ⟨rfl, rfl⟩
      cases h1 : s.contains 10 with
      | true =>
        have HV := Lib.hid (show res = false by rw [HX3.out, h1]; rfl)
        clear h1 HX3
        go_wp2_with fail
        go_ret
        exact ⟨by rw [HV.out]; rfl, rfl⟩
      | false =>
        have HX4 := Lib.hid (show res = !s.contains 58 by rw [HX3.out, h1]; rfl)
        clear h1 HX3
        go_wp2_with fail
        refine (has_lit s 58 58 rfl _ hs).mono ?_
        rintro e w1 ⟨rfl, rfl⟩
        generalize s.contains 58 = z at HX4 ⊢
        go_wp2_with fail
        go_ret
        exact ⟨by rw [HX4.out]; rfl, rfl⟩
  · have d1 : decide ((s.length : Int) ≤ 31) = false := by simp; omega
    have HV := Lib.hid (show res = false by rw [HX.out, decide_eq_false h1]; rfl)
    clear HX h1
    go_wp2_with fail
    go_ret
    exact ⟨by rw [HV.out]; rfl, rfl⟩
end Go.Proofs.YtjhikglgaoncjaaDoor

/- The walks of version's numbers, order, againstDpkg. -/
import Derived.Test.YtdnncbhbajciaaaDoorVerJ
namespace Go.Proofs.YtdnncbhbajciaaaDoor
open Go.RowKit
/-- The first of some numbers that is not 0. -/
def orL : List Int → Int
  | [] => 0
  | x :: r => if x = 0 then orL r else x
theorem orL_drop (xs : List Int) (k : Nat) (h : k < xs.length) : orL (xs.drop k) = if xs[k] = 0 then orL (xs.drop (k + 1)) else xs[k] := by
  rw [List.drop_eq_getElem_cons h, orL]
set_option maxHeartbeats 1000000 in
theorem or_any (g cap : Nat) (xs : List Int) (w : World) (hl : xs.length ≤ 100) (hx : ∀ j (h : j < xs.length), w.cell? ⟨g, j, none⟩ = some (.int .i64 xs[j])) :
    Calls Tryd.prog 45 #[.slice (some ⟨g, 0, none⟩) xs.length cap] w fun e w' => e = .returned (.int .i64 (orL xs)) ∧ w = w' := by
  have HX := Lib.hid hx
  clear hx
  go_enter Tryd.func45, Tryd.ntmps45
  go_wp2_with fail
  go_loop [8] (fun i => ∃ k : Nat, k ≤ xs.length ∧ i = .int .i64 k ∧ Hid (orL xs = orL (xs.drop k))) (fun i => xs.length - (intOf i).toNat)
  case atStart => exact ⟨0, Nat.zero_le _, rfl, Lib.hid rfl⟩
  case round =>
    obtain ⟨k, hk, rfl, HE⟩ := hrel
    by_cases hlt : k < xs.length
    · have hc := HX.out k hlt
      have hs := orL_drop xs k hlt
      obtain ⟨x, hxe⟩ : ∃ x, xs[k] = x := ⟨_, rfl⟩
      rw [hxe] at hs hc
      by_cases h0 : x = 0
      · rw [if_pos h0] at hs
        have HS := Lib.hid hs
        subst h0
        clear hs hxe
        go_wp2_with fail
        go_round
        case rel => exact ⟨k + 1, by omega, by go_num, Lib.hid (HE.out.trans HS.out)⟩
        case measure => simp [intOf]; omega
      · have hn : (x != 0) = true := by simpa using h0
        rw [if_neg h0] at hs
        have HS := Lib.hid hs
        clear hs hxe h0
        go_wp2_with fail
        go_ret
        exact ⟨by rw [HE.out, HS.out]; rfl, rfl⟩
    · obtain rfl : k = xs.length := by omega
      go_wp2_with fail
      go_ret
      refine ⟨?_, rfl⟩
      rw [HE.out, List.drop_length]
      rfl
theorem compareInt_eq (x y : Int) : Lib.compareInt x y = cmpI x y := rfl
theorem compareBytes_eq (a b : List UInt8) : Lib.compareBytes a b = cmpB a b := by
  induction a generalizing b with
  | nil => cases b <;> rfl
  | cons x a ih =>
    cases b with
    | nil => rfl
    | cons y b =>
      simp only [Lib.compareBytes, cmpB]
      by_cases e : x = y
      · subst e
        have : ¬ x < x := by simp
        simp [ih]
      · have hne : x.toNat ≠ y.toNat := fun h => e (UInt8.toNat_inj.1 h)
        by_cases h1 : x < y
        · have h2 : x.toNat < y.toNat := UInt8.lt_iff_toNat_lt.1 h1
          simp [e, h1, h2]
        · have h2 : ¬ x.toNat < y.toNat := fun h => h1 (UInt8.lt_iff_toNat_lt.2 h)
          have h3 : y < x := UInt8.lt_iff_toNat_lt.2 (by omega)
          simp [e, h1, h2, h3]
theorem trim0 (l : List UInt8) : Lib.trimLeftB l 48 = cut0 l := by
  simp only [Lib.trimLeftB, cut0]
  congr 1
theorem ccmp (x y : Int) (w : World) : Calls Tryd.prog 78 #[.int .i64 x, .int .i64 y] w fun e w' => e = .returned (.int .i64 (cmpI x y)) ∧ w = w' :=
  (Tryd.cmp_Compare_int x y w).mono fun e w' ⟨h1, h2⟩ => ⟨h1, h2.symm⟩
theorem scmp (a b : List UInt8) (w : World) : Calls Tryd.prog 79 #[.string (bs a), .string (bs b)] w fun e w' => e = .returned (.int .i64 (cmpB a b)) ∧ w = w' :=
  (Tryd.strings_Compare _ _ w).mono fun e w' ⟨h1, h2⟩ => ⟨by rw [h1, compareBytes_eq]; rfl, h2.symm⟩
theorem tl0 (a : List UInt8) (w : World) : Calls Tryd.prog 83 #[.string (bs a), .string ⟨#[48]⟩] w fun e w' => e = .returned (.string (bs (cut0 a))) ∧ w = w' :=
  (Tryd.strings_TrimLeft_one _ 48 (by decide) w).mono fun e w' ⟨h1, h2⟩ => ⟨by rw [h1, bs_list, trim0]; rfl, h2.symm⟩
set_option maxHeartbeats 1000000 in
theorem numbers_any (a b : List UInt8) (w : World) :
    Calls Tryd.prog 46 #[.string (bs a), .string (bs b)] w fun e w' => e = .returned (.int .i64 (cmpN a b)) ∧ Below w.heap.size w w' := by
  go_enter Tryd.func46, Tryd.ntmps46
  go_wp2_with fail
  refine (tl0 a _).mono ?_
  rintro e wq ⟨rfl, rfl⟩
  go_wp2_with fail
  refine (tl0 b _).mono ?_
  rintro e wq ⟨rfl, rfl⟩
  have h1 : ((bs (cut0 a)).size : Int) = ((cut0 a).length : Int) := by rw [bs_size]
  have h2 : ((bs (cut0 b)).size : Int) = ((cut0 b).length : Int) := by rw [bs_size]
  go_wp2_with fail
  refine (ccmp _ _ _).mono ?_
  rintro e wq ⟨rfl, rfl⟩
  clear h1 h2
  go_wp2_with fail
  refine (scmp (cut0 a) (cut0 b) _).mono ?_
  rintro e wq ⟨rfl, rfl⟩
  obtain ⟨x, Hx⟩ : ∃ x, Hid (cmpI (cut0 a).length (cut0 b).length = x) := ⟨_, Lib.hid rfl⟩
  obtain ⟨y, Hy⟩ : ∃ y, Hid (cmpB (cut0 a) (cut0 b) = y) := ⟨_, Lib.hid rfl⟩
  rw [Hx.out, Hy.out]
  go_wp2_with fail
  refine (or_any w.heap.size 2 [x, y] _ (by simp) ?_).mono ?_
  · intro j hj
    match j, hj with
    | 0, _ => simp
    | 1, _ => simp
  · rintro e wq ⟨rfl, rfl⟩
    go_wp2_with fail
    go_ret
    refine ⟨?_, (Below.refl _ _).alloc (Nat.le_refl _) _⟩
    rw [cmpN, Hx.out, Hy.out]
    show Ending.returned (.int .i64 (if x = 0 then (if y = 0 then 0 else y) else x)) = _
    by_cases h : x = 0
    · rw [if_pos h, if_pos h]
      by_cases h2 : y = 0
      · rw [if_pos h2, h2]
      · rw [if_neg h2]
    · rw [if_neg h, if_neg h]
set_option maxRecDepth 20000 in
set_option maxHeartbeats 1000000 in
theorem order_any (l : List UInt8) (w : World) : Calls Tryd.prog 80 #[.string (bs l)] w fun e w' => e = .returned (.int .i64 (ordD l)) ∧ w = w' := by
  cases l with
  | nil =>
    have hn1 : (bs []).toList = [] := toList_bs []
    have hn2 : (bs []).toList.isEmpty = true := by rw [toList_bs]; rfl
    go_enter Tryd.func80, Tryd.ntmps80
    go_wp2_with fail
    go_ret
    exact ⟨rfl, rfl⟩
  | cons c t =>
    have hi2 : (0 : Int) < ((bs (c :: t)).size : Int) := by rw [bs_size]; simp
    have hne2 : ¬ (bs (c :: t)).toList = [] := by rw [toList_bs]; simp
    have hne : (bs (c :: t)).toList.isEmpty = false := by rw [toList_bs]; rfl
    have hc := byte_lt c
    have hg : (bs (c :: t))[0]'(by rw [bs_size]; simp) = c := rfl
    cases hd : isDig c with
    | true =>
      go_enter Tryd.func80, Tryd.ntmps80
      go_wp2_with fail
      refine (digit_any (bs (c :: t))[0] _).mono ?_
      rintro e wq ⟨rfl, rfl⟩
      rw [hg, hd]
      go_wp2_with fail
      go_ret
      exact ⟨by rw [ordD, ordC, if_pos hd]; rfl, rfl⟩
    | false =>
      by_cases h126 : c = 126
      · have hb : (((bs (c :: t))[0].toNat : Int) == 126) = true := by rw [hg, h126]; rfl
        have H126 := Lib.hid h126
        clear hg h126
        go_enter Tryd.func80, Tryd.ntmps80
        go_wp2_with fail
        refine (digit_any (bs (c :: t))[0] _).mono ?_
        rintro e wq ⟨rfl, rfl⟩
        rw [show isDig (bs (c :: t))[0] = false from hd]
        go_wp2_with fail
        go_ret
        exact ⟨by rw [ordD, ordC, if_neg (by rw [hd]; simp), if_pos H126.out]; rfl, rfl⟩
      · have hb : (((bs (c :: t))[0].toNat : Int) == 126) = false := by
          have : c.toNat ≠ 126 := fun e => h126 (UInt8.toNat_inj.1 (by simpa using e))
          rw [hg]; simp; omega
        clear hg
        cases hl : isLet c with
        | true =>
          have hc2 : ((bs (c :: t))[0].toNat : Int) < 256 := hc
          go_enter Tryd.func80, Tryd.ntmps80
          go_wp2_with fail
          refine (digit_any (bs (c :: t))[0] _).mono ?_
          rintro e wq ⟨rfl, rfl⟩
          rw [show isDig (bs (c :: t))[0] = false from hd]
          go_wp2_with fail
          refine (letter_any (bs (c :: t))[0] _).mono ?_
          rintro e wq ⟨rfl, rfl⟩
          rw [show isLet (bs (c :: t))[0] = true from hl]
          go_wp2_with fail
          go_ret
          exact ⟨by rw [ordD, ordC, if_neg (by rw [hd]; simp), if_neg h126, if_pos hl]; rfl, rfl⟩
        | false =>
          have hc2 : ((bs (c :: t))[0].toNat : Int) < 256 := hc
          go_enter Tryd.func80, Tryd.ntmps80
          go_wp2_with fail
          refine (digit_any (bs (c :: t))[0] _).mono ?_
          rintro e wq ⟨rfl, rfl⟩
          rw [show isDig (bs (c :: t))[0] = false from hd]
          go_wp2_with fail
          refine (letter_any (bs (c :: t))[0] _).mono ?_
          rintro e wq ⟨rfl, rfl⟩
          rw [show isLet (bs (c :: t))[0] = false from hl]
          go_wp2_with fail
          go_ret
          exact ⟨by rw [ordD, ordC, if_neg (by rw [hd]; simp), if_neg h126, if_neg (by rw [hl]; simp)]; rfl, rfl⟩
end Go.Proofs.YtdnncbhbajciaaaDoor

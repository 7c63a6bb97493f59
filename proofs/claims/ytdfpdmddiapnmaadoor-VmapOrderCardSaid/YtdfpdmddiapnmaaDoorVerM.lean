/- The walks of version's numbers, order, againstDpkg. The walk of version.againstDpkg. -/
import Derived.Test.YtdfpdmddiapnmaaDoorVerH
namespace Go.Proofs.YtdfpdmddiapnmaaDoor
open Go.RowKit
/-- The first of some numbers that is not 0. -/
def orL : List Int → Int
  | [] => 0
  | x :: r => if x = 0 then orL r else x
theorem orL_drop (xs : List Int) (k : Nat) (h : k < xs.length) : orL (xs.drop k) = if xs[k] = 0 then orL (xs.drop (k + 1)) else xs[k] := by
  rw [List.drop_eq_getElem_cons h, orL]
set_option maxHeartbeats 1000000 in
theorem or_any (g cap : Nat) (xs : List Int) (w : World) (hl : xs.length ≤ 100) (hx : ∀ j (h : j < xs.length), w.cell? ⟨g, j, none⟩ = some (.int .i64 xs[j])) :
    Calls Tryd.prog 22 #[.slice (some ⟨g, 0, none⟩) xs.length cap] w fun e w' => e = .returned (.int .i64 (orL xs)) ∧ w = w' := by
  have HX := Lib.hid hx
  clear hx
  go_enter Tryd.func22, Tryd.ntmps22
  go_wp2_with fail
  go_loop [8] (fun i => ∃ k : Nat, k ≤ xs.length ∧ i = .int .i64 k ∧ Hid (orL xs = orL (xs.drop k))) (fun i => xs.length - (intOf i).toNat)
  case atStart => exact ⟨0, Nat.zero_le _, rfl, Lib.hid rfl⟩
  case round =>
    obtain ⟨k, hk, rfl, HE⟩ := hrel
    by_cases hlt : k < xs.length
    · have hc := HX.out k hlt
      have hs := orL_drop xs k hlt
      obtain ⟨x, hxe⟩ : ∃ x, xs[k] = x := ⟨_, rfl⟩
      rw [hxe] at hs hc
      by_cases h0 : x = 0
      · rw [if_pos h0] at hs
        have HS := Lib.hid hs
        subst h0
        clear hs hxe
        go_wp2_with fail
        go_round
        case rel => exact ⟨k + 1, by omega, by go_num, Lib.hid (HE.out.trans HS.out)⟩
        case measure => simp [intOf]; omega
      · have hn : (x != 0) = true := by simpa using h0
        rw [if_neg h0] at hs
        have HS := Lib.hid hs
        clear hs hxe h0
        go_wp2_with fail
        go_ret
        exact ⟨by rw [HE.out, HS.out]; rfl, rfl⟩
    · obtain rfl : k = xs.length := by omega
      go_wp2_with fail
      go_ret
      refine ⟨?_, rfl⟩
      rw [HE.out, List.drop_length]
      rfl
theorem compareInt_eq (x y : Int) : Lib.compareInt x y = cmpI x y := rfl
theorem compareBytes_eq (a b : List UInt8) : Lib.compareBytes a b = cmpB a b := by
  induction a generalizing b with
  | nil => cases b <;> rfl
  | cons x a ih =>
    cases b with
    | nil => rfl
    | cons y b =>
      simp only [Lib.compareBytes, cmpB]
      by_cases e : x = y
      · subst e
        have : ¬ x < x := by simp
        simp [ih]
      · have hne : x.toNat ≠ y.toNat := fun h => e (UInt8.toNat_inj.1 h)
        by_cases h1 : x < y
        · have h2 : x.toNat < y.toNat := UInt8.lt_iff_toNat_lt.1 h1
          simp [e, h1, h2]
        · have h2 : ¬ x.toNat < y.toNat := fun h => h1 (UInt8.lt_iff_toNat_lt.2 h)
          have h3 : y < x := UInt8.lt_iff_toNat_lt.2 (by omega)
          simp [e, h1, h2, h3]
theorem trim0 (l : List UInt8) : Lib.trimLeftB l 48 = cut0 l := by
  simp only [Lib.trimLeftB, cut0]
  congr 1
theorem ccmp (x y : Int) (w : World) : Calls Tryd.prog 21 #[.int .i64 x, .int .i64 y] w fun e w' => e = .returned (.int .i64 (cmpI x y)) ∧ w = w' :=
  (Tryd.cmp_Compare_int x y w).mono fun e w' ⟨h1, h2⟩ => ⟨h1, h2.symm⟩
theorem scmp (a b : List UInt8) (w : World) : Calls Tryd.prog 23 #[.string (bs a), .string (bs b)] w fun e w' => e = .returned (.int .i64 (cmpB a b)) ∧ w = w' :=
  (Tryd.strings_Compare _ _ w).mono fun e w' ⟨h1, h2⟩ => ⟨by rw [h1, compareBytes_eq]; rfl, h2.symm⟩
theorem tl0 (a : List UInt8) (w : World) : Calls Tryd.prog 67 #[.string (bs a), .string ⟨#[48]⟩] w fun e w' => e = .returned (.string (bs (cut0 a))) ∧ w = w' :=
  (Tryd.strings_TrimLeft_one _ 48 (by decide) w).mono fun e w' ⟨h1, h2⟩ => ⟨by rw [h1, bs_list, trim0]; rfl, h2.symm⟩
set_option maxHeartbeats 1000000 in
theorem numbers_any (a b : List UInt8) (w : World) :
    Calls Tryd.prog 40 #[.string (bs a), .string (bs b)] w fun e w' => e = .returned (.int .i64 (cmpN a b)) ∧ Below w.heap.size w w' := by
  go_enter Tryd.func40, Tryd.ntmps40
  go_wp2_with fail
  refine (tl0 a _).mono ?_
  rintro e wq ⟨rfl, rfl⟩
  go_wp2_with fail
  refine (tl0 b _).mono ?_
  rintro e wq ⟨rfl, rfl⟩
  have h1 : ((bs (cut0 a)).size : Int) = ((cut0 a).length : Int) := by rw [bs_size]
  have h2 : ((bs (cut0 b)).size : Int) = ((cut0 b).length : Int) := by rw [bs_size]
  go_wp2_with fail
  refine (ccmp _ _ _).mono ?_
  rintro e wq ⟨rfl, rfl⟩
  clear h1 h2
  go_wp2_with fail
  refine (scmp (cut0 a) (cut0 b) _).mono ?_
  rintro e wq ⟨rfl, rfl⟩
  obtain ⟨x, Hx⟩ : ∃ x, Hid (cmpI (cut0 a).length (cut0 b).length = x) := ⟨_, Lib.hid rfl⟩
  obtain ⟨y, Hy⟩ : ∃ y, Hid (cmpB (cut0 a) (cut0 b) = y) := ⟨_, Lib.hid rfl⟩
  rw [Hx.out, Hy.out]
  go_wp2_with fail
  refine (or_any w.heap.size 2 [x, y] _ (by simp) ?_).mono ?_
  · intro j hj
    match j, hj with
    | 0, _ => simp
    | 1, _ => simp
  · rintro e wq ⟨rfl, rfl⟩
    go_wp2_with fail
    go_ret
    refine ⟨?_, (Below.refl _ _).alloc (Nat.le_refl _) _⟩
    rw [cmpN, Hx.out, Hy.out]
    show Ending.returned (.int .i64 (if x = 0 then (if y = 0 then 0 else y) else x)) = _
    by_cases h : x = 0
    · rw [if_pos h, if_pos h]
      by_cases h2 : y = 0
      · rw [if_pos h2, h2]
      · rw [if_neg h2]
    · rw [if_neg h, if_neg h]
set_option maxRecDepth 20000 in
set_option maxHeartbeats 1000000 in
theorem order_any (l : List UInt8) (w : World) : Calls Tryd.prog 64 #[.string (bs l)] w fun e w' => e = .returned (.int .i64 (ordD l)) ∧ w = w' := by
  cases l with
  | nil =>
    have hn1 : (bs []).toList = [] := toList_bs []
    have hn2 : (bs []).toList.isEmpty = true := by rw [toList_bs]; rfl
    go_enter Tryd.func64, Tryd.ntmps64
    go_wp2_with fail
    go_ret
    exact ⟨rfl, rfl⟩
  | cons c t =>
    have hi2 : (0 : Int) < ((bs (c :: t)).size : Int) := by rw [bs_size]; simp
    have hne2 : ¬ (bs (c :: t)).toList = [] := by rw [toList_bs]; simp
    have hne : (bs (c :: t)).toList.isEmpty = false := by rw [toList_bs]; rfl
    have hc := byte_lt c
    have hg : (bs (c :: t))[0]'(by rw [bs_size]; simp) = c := rfl
    cases hd : isDig c with
    | true =>
      go_enter Tryd.func64, Tryd.ntmps64
      go_wp2_with fail
      refine (digit_any (bs (c :: t))[0] _).mono ?_
      rintro e wq ⟨rfl, rfl⟩
      rw [hg, hd]
      go_wp2_with fail
      go_ret
      exact ⟨by rw [ordD, ordC, if_pos hd]; rfl, rfl⟩
    | false =>
      by_cases h126 : c = 126
      · have hb : (((bs (c :: t))[0].toNat : Int) == 126) = true := by rw [hg, h126]; rfl
        have H126 := Lib.hid h126
        clear hg h126
        go_enter Tryd.func64, Tryd.ntmps64
        go_wp2_with fail
        refine (digit_any (bs (c :: t))[0] _).mono ?_
        rintro e wq ⟨rfl, rfl⟩
        rw [show isDig (bs (c :: t))[0] = false from hd]
        go_wp2_with fail
        go_ret
        exact ⟨by rw [ordD, ordC, if_neg (by rw [hd]; simp), if_pos H126.out]; rfl, rfl⟩
      · have hb : (((bs (c :: t))[0].toNat : Int) == 126) = false := by
          have : c.toNat ≠ 126 := fun e => h126 (UInt8.toNat_inj.1 (by simpa using e))
          rw [hg]; simp; omega
        clear hg
        cases hl : isLet c with
        | true =>
          have hc2 : ((bs (c :: t))[0].toNat : Int) < 256 := hc
          go_enter Tryd.func64, Tryd.ntmps64
          go_wp2_with fail
          refine (digit_any (bs (c :: t))[0] _).mono ?_
          rintro e wq ⟨rfl, rfl⟩
          rw [show isDig (bs (c :: t))[0] = false from hd]
          go_wp2_with fail
          refine (letter_any (bs (c :: t))[0] _).mono ?_
          rintro e wq ⟨rfl, rfl⟩
          rw [show isLet (bs (c :: t))[0] = true from hl]
          go_wp2_with fail
          go_ret
          exact ⟨by rw [ordD, ordC, if_neg (by rw [hd]; simp), if_neg h126, if_pos hl]; rfl, rfl⟩
        | false =>
          have hc2 : ((bs (c :: t))[0].toNat : Int) < 256 := hc
          go_enter Tryd.func64, Tryd.ntmps64
          go_wp2_with fail
          refine (digit_any (bs (c :: t))[0] _).mono ?_
          rintro e wq ⟨rfl, rfl⟩
          rw [show isDig (bs (c :: t))[0] = false from hd]
          go_wp2_with fail
          refine (letter_any (bs (c :: t))[0] _).mono ?_
          rintro e wq ⟨rfl, rfl⟩
          rw [show isLet (bs (c :: t))[0] = false from hl]
          go_wp2_with fail
          go_ret
          exact ⟨by rw [ordD, ordC, if_neg (by rw [hd]; simp), if_neg h126, if_neg (by rw [hl]; simp)]; rfl, rfl⟩
end Go.Proofs.YtdfpdmddiapnmaaDoor
namespace Go.Proofs.YtdfpdmddiapnmaaDoor
open Go.RowKit
theorem cmpD_end : cmpD [] [] = 0 := by rw [cmpD]; rfl
theorem cmpD_ne (a b : List UInt8) (h : ordD a ≠ 0 ∨ ordD b ≠ 0) (he : cmpI (ordD a) (ordD b) ≠ 0) : cmpD a b = cmpI (ordD a) (ordD b) := by
  rw [cmpD, if_neg (fun e => by rw [e.1, e.2] at he; exact he rfl), dif_pos h, dif_neg he]
theorem cmpD_eq (a b : List UInt8) (h : ordD a ≠ 0 ∨ ordD b ≠ 0) (he : cmpI (ordD a) (ordD b) = 0) : cmpD a b = cmpD a.tail b.tail := by
  rw [cmpD, if_neg (fun e => by rw [e.1, e.2] at h; simp [ordD] at h), dif_pos h, dif_pos he]
theorem cmpD_num (a b : List UInt8) (ha : ordD a = 0) (hb : ordD b = 0) : cmpD a b = if cmpN (digs a) (digs b) = 0 then cmpD (past isDig a) (past isDig b) else cmpN (digs a) (digs b) := by
  by_cases h0 : a = [] ∧ b = []
  · rw [h0.1, h0.2, show digs [] = [] from rfl, show past isDig [] = [] from rfl, show cmpN [] [] = 0 from rfl, if_pos rfl]
  · rw [cmpD, if_neg h0, dif_neg (by simp [ha, hb])]
theorem cmpI_cases (a b : Int) : cmpI a b = -1 ∨ cmpI a b = 0 ∨ cmpI a b = 1 := by
  unfold cmpI; split <;> (try split) <;> simp
theorem ordD_cons (a : List UInt8) (h : ordD a ≠ 0) : ∃ c t, a = c :: t := by
  cases a with
  | nil => exact absurd rfl h
  | cons c t => exact ⟨c, t, rfl⟩
set_option maxRecDepth 20000 in
set_option maxHeartbeats 8000000 in
theorem againstDpkg_any (a b : List UInt8) (w : World) (ha : a.length ≤ 1000000) (hb : b.length ≤ 1000000) :
    Calls Tryd.prog 38 #[.string (bs a), .string (bs b)] w fun e w' => e = .returned (.int .i64 (cmpD a b)) ∧ Below w.heap.size w w' := by
  go_enter Tryd.func38, Tryd.ntmps38
  go_wp2_with fail
  go_loopg [0, 1] (a.length + b.length) (fun g s0 s1 wr => ∃ x y, s0 = .string (bs x) ∧ s1 = .string (bs y) ∧ g = x.length + y.length ∧ x.length ≤ a.length ∧ y.length ≤ b.length ∧ Below w.heap.size w wr ∧ Hid (cmpD a b = cmpD x y))
  case atStart => exact ⟨a, b, rfl, rfl, rfl, Nat.le_refl _, Nat.le_refl _, Below.refl _ _, Lib.hid rfl⟩
  case round =>
    obtain ⟨x, y, rfl, rfl, rfl, hxl, hyl, hbw, HE⟩ := hrel
    by_cases h0 : x = [] ∧ y = []
    · obtain ⟨rfl, rfl⟩ := h0
      have hn1 : (bs []).toList = [] := toList_bs []
      have hn2 : (bs []).toList.isEmpty = true := by rw [toList_bs]; rfl
      go_wp2_with fail
      go_ret
      exact ⟨by rw [HE.out, cmpD_end]; rfl, hbw⟩
    · obtain ⟨X, HX⟩ : ∃ X, Hid (X = bs x) := ⟨_, Lib.hid rfl⟩
      obtain ⟨Y, HY⟩ : ∃ Y, Hid (Y = bs y) := ⟨_, Lib.hid rfl⟩
      go_upto_region 1 with fail
      go_cut [14] (fun s14 wx => s14 = .bool true ∧ wr = wx)
      case first =>
        by_cases hx : x = []
        · have hy : y ≠ [] := fun e => h0 ⟨hx, e⟩
          have hn1 : (bs x).toList = [] := by rw [toList_bs]; exact hx
          have hn2 : (bs x).toList.isEmpty = true := by rw [hn1]; rfl
          have hn3 : ¬ (bs y).toList = [] := by rw [toList_bs]; exact hy
          have hn4 : (bs y).toList.isEmpty = false := by simpa using hn3
          clear hx hy h0
          go_wp2_with fail
          go_meet
          exact ⟨rfl, rfl⟩
        · have hn3 : ¬ (bs x).toList = [] := by rw [toList_bs]; exact hx
          have hn4 : (bs x).toList.isEmpty = false := by simpa using hn3
          clear hx h0
          go_wp2_with fail
          go_meet
          exact ⟨rfl, rfl⟩
      case rest =>
        obtain ⟨rfl, rfl⟩ := hcut
        have hpos : 0 < x.length + y.length := by
          rcases Nat.eq_zero_or_pos (x.length + y.length) with h | h
          · exact absurd ⟨List.eq_nil_of_length_eq_zero (by omega), List.eq_nil_of_length_eq_zero (by omega)⟩ h0
          · exact h
        clear h0
        go_wp2_with fail
        go_loopg [0, 1] (x.length + y.length) (fun g s0 s1 wx => ∃ u v, s0 = .string (bs u) ∧ s1 = .string (bs v) ∧ g = u.length + v.length ∧ u.length ≤ x.length ∧ v.length ≤ y.length ∧ Below w.heap.size w wx ∧ Hid (cmpD a b = cmpD u v) ∧ Hid (u.length + v.length = x.length + y.length → u = x ∧ v = y))
        case atStart => exact ⟨x, y, rfl, rfl, rfl, Nat.le_refl _, Nat.le_refl _, hbw, HE, Lib.hid fun _ => ⟨rfl, rfl⟩⟩
        case round =>
          clear HE HX HY hbw
          obtain ⟨u, v, rfl, rfl, rfl, hul, hvl, hbw, HE, HS⟩ := hrel
          go_upto_region 2 with fail
          go_cut [22] (fun s22 wx => s22 = .bool ((ordD u != 0) || (ordD v != 0)) ∧ wr = wx)
          case first =>
            obtain ⟨m, Hm⟩ : ∃ m, Hid (ordD u = m) := ⟨_, Lib.hid rfl⟩
            obtain ⟨n, Hn⟩ : ∃ n, Hid (ordD v = n) := ⟨_, Lib.hid rfl⟩
            go_wp2_with fail
            refine (order_any u _).mono ?_
            rintro e wq ⟨rfl, rfl⟩
            rw [Hm.out]
            by_cases hm : m = 0
            · subst hm
              go_wp2_with fail
              refine (order_any v _).mono ?_
              rintro e wq ⟨rfl, rfl⟩
              rw [Hn.out]
              go_wp2_with fail
              go_meet
              exact ⟨by rw [Hm.out, Hn.out]; rfl, rfl⟩
            · have hmb : (m != 0) = true := by simpa using hm
              go_wp2_with fail
              go_meet
              exact ⟨by rw [Hm.out, Hn.out, hmb]; rfl, rfl⟩
          case rest =>
            obtain ⟨rfl, rfl⟩ := hcut
            cases hor : (ordD u != 0) || (ordD v != 0) with
            | true =>
              have Hor : Hid (ordD u ≠ 0 ∨ ordD v ≠ 0) := Lib.hid (by simpa using hor)
              clear hor
              obtain ⟨m, Hm⟩ : ∃ m, Hid (ordD u = m) := ⟨_, Lib.hid rfl⟩
              obtain ⟨n, Hn⟩ : ∃ n, Hid (ordD v = n) := ⟨_, Lib.hid rfl⟩
              obtain ⟨c, Hc⟩ : ∃ c, Hid (cmpI m n = c) := ⟨_, Lib.hid rfl⟩
              go_wp2_with fail
              refine (order_any u _).mono ?_
              rintro e wq ⟨rfl, rfl⟩
              rw [Hm.out]
              go_wp2_with fail
              refine (order_any v _).mono ?_
              rintro e wq ⟨rfl, rfl⟩
              rw [Hn.out]
              go_wp2_with fail
              refine (ccmp m n _).mono ?_
              rintro e wq ⟨rfl, rfl⟩
              rw [Hc.out]
              by_cases hc : c = 0
              · have HD := Lib.hid (cmpD_eq u v Hor.out (by rw [Hm.out, Hn.out, Hc.out]; exact hc))
                have hmn : m = n := cmpI_zero (Hc.out.trans hc)
                obtain ⟨cu, tu, rfl⟩ := ordD_cons u (fun e => by have := Hor.out; rw [Hm.out, Hn.out] at this; rw [Hm.out] at e; omega)
                obtain ⟨cv, tv, rfl⟩ := ordD_cons v (fun e => by have := Hor.out; rw [Hm.out, Hn.out] at this; rw [Hn.out] at e; omega)
                subst hc
                clear hmn
                have hi1 : (1 : Int) ≤ ((bs (cu :: tu)).size : Int) := by rw [bs_size]; simp; omega
                have hi2 : (1 : Int) ≤ ((bs (cv :: tv)).size : Int) := by rw [bs_size]; simp; omega
                have HX : Hid ((bs (cu :: tu)).extract 1 (bs (cu :: tu)).size = bs tu) := Lib.hid (by rw [ext_drop]; rfl)
                have HY : Hid ((bs (cv :: tv)).extract 1 (bs (cv :: tv)).size = bs tv) := Lib.hid (by rw [ext_drop]; rfl)
                go_wp2_with fail
                refine wp_region_plan (fun _ => True) [(false, 0), (false, 1), (false, 2), (false, 3), (false, 4), (false, 5)] (by kernel_rfl) (by kernel_rfl) (trivial) ?_
                simp only [planOps, List.map, List.getD_cons_zero, List.getD_cons_succ]
                iterate 6 ((first | refine plan_quiet (v := ?_) rfl rfl (fun w' hw' => ?_) ?_ | refine plan_calm (v := ?_) (tt_of) rfl (fun w' hw' => ?_) ?_); rotate_left; (focus (go_simp <;> with_reducible rfl)); simp only [Act.put, List.setIfInBounds_toArray, List.set_cons_zero, List.set_cons_succ])
                refine plan_end ?_
                rw [HX.out, HY.out]
                go_wp2_with fail
                rw [List.length_cons] at hul hvl
                go_roundg (tu.length + tv.length)
                case measure => simp; omega
                case rel => exact ⟨tu, tv, rfl, rfl, rfl, by omega, by omega, hbw.drew, Lib.hid (HE.out.trans HD.out), Lib.hid (fun h => by omega)⟩
              · have hcb : (c != 0) = true := by simpa using hc
                go_wp2_with fail
                go_ret
                exact ⟨by rw [HE.out, cmpD_ne u v Hor.out (by rw [Hm.out, Hn.out, Hc.out]; exact hc), Hm.out, Hn.out, Hc.out]; rfl, hbw⟩
            | false =>
              have hu0 : ordD u = 0 := by
                simp only [Bool.or_eq_false_iff, bne_eq_false_iff_eq] at hor
                exact hor.1
              have hv0 : ordD v = 0 := by
                simp only [Bool.or_eq_false_iff, bne_eq_false_iff_eq] at hor
                exact hor.2
              have HD := Lib.hid (cmpD_num u v hu0 hv0)
              have hlt : (past isDig u).length + (past isDig v).length < x.length + y.length := by
                have p1 := past_len isDig u
                have p2 := past_len isDig v
                by_cases hs : u.length + v.length = x.length + y.length
                · obtain ⟨rfl, rfl⟩ := HS.out hs
                  cases u with
                  | nil =>
                    cases v with
                    | nil => simp at hpos
                    | cons c v => have := past_lt isDig c v (ordC_zero c hv0); omega
                  | cons c u => have := past_lt isDig c u (ordC_zero c hu0); omega
                · omega
              clear hu0 hv0 hor HS
              obtain ⟨du, Hdu⟩ : ∃ d, Hid (digs u = d) := ⟨_, Lib.hid rfl⟩
              obtain ⟨dv, Hdv⟩ : ∃ d, Hid (digs v = d) := ⟨_, Lib.hid rfl⟩
              have hdul : du.length ≤ u.length := by rw [← Hdu.out]; exact tw_len isDig u
              have hdvl : dv.length ≤ v.length := by rw [← Hdv.out]; exact tw_len isDig v
              have hpu := past_len isDig u
              have hpv := past_len isDig v
              go_wp2_with fail
              refine (run_dig u _ (by omega)).mono ?_
              rintro e wq ⟨rfl, rfl⟩
              rw [Hdu.out]
              go_wp2_with fail
              refine (run_dig v _ (by omega)).mono ?_
              rintro e wq ⟨rfl, rfl⟩
              rw [Hdv.out]
              have H1 : Hid ((bs u).extract 0 du.length = bs du) := Lib.hid (by rw [← Hdu.out]; exact tw_ext isDig u)
              have H2 : Hid ((bs v).extract 0 dv.length = bs dv) := Lib.hid (by rw [← Hdv.out]; exact tw_ext isDig v)
              have H3 : Hid ((bs u).extract du.length (bs u).size = bs (past isDig u)) := Lib.hid (by rw [← Hdu.out]; exact past_drop isDig u)
              have H4 : Hid ((bs v).extract dv.length (bs v).size = bs (past isDig v)) := Lib.hid (by rw [← Hdv.out]; exact past_drop isDig v)
              have hz1 : ((bs u).size : Int) = (u.length : Int) := by rw [bs_size]
              have hz2 : ((bs v).size : Int) = (v.length : Int) := by rw [bs_size]
              have hi1 : (0 : Int) ≤ (du.length : Int) := by omega
              have hi2 : (du.length : Int) ≤ ((bs u).size : Int) := by omega
              have hi3 : (0 : Int) ≤ (dv.length : Int) := by omega
              have hi4 : (dv.length : Int) ≤ ((bs v).size : Int) := by omega
              clear hz1 hz2
              obtain ⟨c, Hc⟩ : ∃ c, Hid (cmpN du dv = c) := ⟨_, Lib.hid rfl⟩
              go_wp2_with fail
              refine wp_region_plan (fun _ => True) [(false, 0), (false, 1), (false, 2), (false, 3), (false, 4), (false, 5), (true, 6), (false, 7)] (by kernel_rfl) (by kernel_rfl) (trivial) ?_
              simp only [planOps, List.map, List.getD_cons_zero, List.getD_cons_succ]
              iterate 6 ((first | refine plan_quiet (v := ?_) rfl rfl (fun w' hw' => ?_) ?_ | refine plan_calm (v := ?_) (tt_of) rfl (fun w' hw' => ?_) ?_); rotate_left; (focus (go_simp <;> with_reducible rfl)); simp only [Act.put, List.setIfInBounds_toArray, List.set_cons_zero, List.set_cons_succ])
              refine plan_loud rfl (fun K hK => ?_)
              go_simp
              rw [H1.out, H2.out]
              refine (numbers_any du dv _).mono ?_
              rintro e w2 ⟨rfl, hb2⟩
              rw [Hc.out]
              refine hK _ _ (trivial) ?_
              clear hK K
              (try simp only [Act.put, List.setIfInBounds_toArray, List.set_cons_zero, List.set_cons_succ])
              iterate 1 ((first | refine plan_quiet (v := ?_) rfl rfl (fun w' hw' => ?_) ?_ | refine plan_calm (v := ?_) (tt_of) rfl (fun w' hw' => ?_) ?_); rotate_left; (focus (go_simp <;> with_reducible rfl)); simp only [Act.put, List.setIfInBounds_toArray, List.set_cons_zero, List.set_cons_succ])
              refine plan_end ?_
              have hbw2 := below_trans hbw.drew hb2
              by_cases hc : c = 0
              · subst hc
                go_wp2_with fail
                refine wp_region_plan (fun _ => True) [(false, 0), (false, 1), (false, 2), (false, 3), (false, 4), (false, 5), (false, 6), (false, 7)] (by kernel_rfl) (by kernel_rfl) (trivial) ?_
                simp only [planOps, List.map, List.getD_cons_zero, List.getD_cons_succ]
                iterate 8 ((first | refine plan_quiet (v := ?_) rfl rfl (fun w' hw' => ?_) ?_ | refine plan_calm (v := ?_) (tt_of) rfl (fun w' hw' => ?_) ?_); rotate_left; (focus (go_simp <;> with_reducible rfl)); simp only [Act.put, List.setIfInBounds_toArray, List.set_cons_zero, List.set_cons_succ])
                refine plan_end ?_
                rw [H3.out, H4.out]
                go_wp2_with fail
                go_roundg ((past isDig u).length + (past isDig v).length)
                case measure => omega
                case rel => exact ⟨past isDig u, past isDig v, rfl, rfl, rfl, by omega, by omega, hbw2.drew, Lib.hid (by rw [HE.out, HD.out, Hdu.out, Hdv.out, Hc.out, if_pos rfl])⟩
              · have hcb : (c != 0) = true := by simpa using hc
                go_wp2_with fail
                go_ret
                exact ⟨by rw [HE.out, HD.out, Hdu.out, Hdv.out, Hc.out, if_neg hc]; rfl, hbw2⟩
end Go.Proofs.YtdfpdmddiapnmaaDoor

/- The walks of version's skip and againstRpm. -/
import Derived.Test.YtdfpdmddiapnmaaDoorVerM
namespace Go.Proofs.YtdfpdmddiapnmaaDoor
open Go.RowKit
set_option maxRecDepth 20000 in
set_option maxHeartbeats 2000000 in
theorem skip1_any (c : UInt8) (w : World) : Calls Tryd.prog 84 #[.int .u8 (c.toNat : Int)] w fun e w' => e = .returned (.bool (idleC c)) ∧ w = w' := by
  have e1 : decide (c = 126) = ((c.toNat : Int) == 126) := by
    by_cases h : c = 126
    · subst h; rfl
    · have : c.toNat ≠ 126 := fun e => h (UInt8.toNat_inj.1 (by simpa using e))
      simp [h]; omega
  have e2 : decide (c = 94) = ((c.toNat : Int) == 94) := by
    by_cases h : c = 94
    · subst h; rfl
    · have : c.toNat ≠ 94 := fun e => h (UInt8.toNat_inj.1 (by simpa using e))
      simp [h]; omega
  have HV : Hid (idleC c = (!isLet c && !isDig c && !((c.toNat : Int) == 126) && !((c.toNat : Int) == 94))) := Lib.hid (by rw [idleC, e1, e2])
  clear e1 e2
  cases hl : isLet c with
  | true =>
    go_enter Tryd.func84, Tryd.ntmps84
    go_wp2_with fail
    refine (letter_any c _).mono ?_
    rintro e wq ⟨rfl, rfl⟩
    rw [hl]
    go_wp2_with fail
    go_ret
    exact ⟨by rw [HV.out, hl]; rfl, rfl⟩
  | false =>
    cases hd : isDig c with
    | true =>
      go_enter Tryd.func84, Tryd.ntmps84
      go_wp2_with fail
      refine (letter_any c _).mono ?_
      rintro e wq ⟨rfl, rfl⟩
      rw [hl]
      go_wp2_with fail
      refine (digit_any c _).mono ?_
      rintro e wq ⟨rfl, rfl⟩
      rw [hd]
      go_wp2_with fail
      go_ret
      exact ⟨by rw [HV.out, hl, hd]; rfl, rfl⟩
    | false =>
      cases h1 : ((c.toNat : Int) == 126) with
      | true =>
        have h1' : ((c.toNat : Int) != 126) = false := by rw [bne, h1]; rfl
        go_enter Tryd.func84, Tryd.ntmps84
        go_wp2_with fail
        refine (letter_any c _).mono ?_
        rintro e wq ⟨rfl, rfl⟩
        rw [hl]
        go_wp2_with fail
        refine (digit_any c _).mono ?_
        rintro e wq ⟨rfl, rfl⟩
        rw [hd]
        go_wp2_with fail
        go_ret
        exact ⟨by rw [HV.out, hl, hd, h1]; rfl, rfl⟩
      | false =>
        have h1' : ((c.toNat : Int) != 126) = true := by rw [bne, h1]; rfl
        cases h2 : ((c.toNat : Int) == 94) with
        | true =>
          have h2' : ((c.toNat : Int) != 94) = false := by rw [bne, h2]; rfl
          go_enter Tryd.func84, Tryd.ntmps84
          go_wp2_with fail
          refine (letter_any c _).mono ?_
          rintro e wq ⟨rfl, rfl⟩
          rw [hl]
          go_wp2_with fail
          refine (digit_any c _).mono ?_
          rintro e wq ⟨rfl, rfl⟩
          rw [hd]
          go_wp2_with fail
          go_ret
          exact ⟨by rw [HV.out, hl, hd, h1, h2]; rfl, rfl⟩
        | false =>
          have h2' : ((c.toNat : Int) != 94) = true := by rw [bne, h2]; rfl
          go_enter Tryd.func84, Tryd.ntmps84
          go_wp2_with fail
          refine (letter_any c _).mono ?_
          rintro e wq ⟨rfl, rfl⟩
          rw [hl]
          go_wp2_with fail
          refine (digit_any c _).mono ?_
          rintro e wq ⟨rfl, rfl⟩
          rw [hd]
          go_wp2_with fail
          go_ret
          exact ⟨by rw [HV.out, hl, hd, h1, h2]; rfl, rfl⟩
set_option maxRecDepth 20000 in
set_option maxHeartbeats 1000000 in
theorem skip_any (l : List UInt8) (w : World) (hl : l.length ≤ 1000000000) : Calls Tryd.prog 65 #[.string (bs l)] w fun e w' => e = .returned (.string (bs (skipR l))) ∧ w = w' := by
  obtain ⟨d, Hd⟩ : ∃ d, Hid (l.takeWhile idleC = d) := ⟨_, Lib.hid rfl⟩
  have hdl : d.length ≤ l.length := by rw [← Hd.out]; exact tw_len idleC l
  have H1 : Hid ((bs l).extract d.length (bs l).size = bs (skipR l)) := Lib.hid (by rw [← Hd.out]; exact past_drop idleC l)
  have hz1 : ((bs l).size : Int) = (l.length : Int) := by rw [bs_size]
  have hi1 : (0 : Int) ≤ (d.length : Int) := by omega
  have hi2 : (d.length : Int) ≤ ((bs l).size : Int) := by omega
  clear hz1
  go_enter Tryd.func65, Tryd.ntmps65
  go_wp2_with fail
  refine (run_any (bs l) 84 #[] idleC _ (by rw [bs_size]; omega) (enters Tryd.func84 (by kernel_rfl) (by kernel_rfl)) (fun c => skip1_any c _)).mono ?_
  rintro e wq ⟨rfl, rfl⟩
  rw [bs_list, Hd.out]
  go_wp2_with fail
  go_ret
  exact ⟨by rw [← H1.out]; rfl, rfl⟩
theorem run_let (q : List UInt8) (w : World) (hq : q.length ≤ 1000000000) : Calls Tryd.prog 57 #[.string (bs q), .func (.func 66) #[] #[]] w fun e w' => e = .returned (.int .i64 ((lets q).length : Int)) ∧ w = w' :=
  run_any (bs q) 66 #[] isLet _ (by rw [bs_size]; omega) (enters Tryd.func66 (by kernel_rfl) (by kernel_rfl)) (fun c => letter_any c _)
/-- How a text begins. -/
def RF (a : List UInt8) (k : Int) (t c e d : Bool) : Prop := cls a = k ∧ hasB a 126 = t ∧ hasB a 94 = c ∧ a.isEmpty = e ∧ headDig a = d
theorem cls5 (l : List UInt8) : RF (skipR l) (-1) true false false false ∨ RF (skipR l) 0 false false true false ∨ RF (skipR l) 1 false true false false ∨ RF (skipR l) 2 false false false false ∨ RF (skipR l) 3 false false false true := by
  cases hs : skipR l with
  | nil => exact .inr (.inl ⟨rfl, rfl, rfl, rfl, rfl⟩)
  | cons c t =>
    by_cases h1 : c = 126
    · subst h1; exact .inl ⟨rfl, rfl, rfl, rfl, rfl⟩
    · by_cases h2 : c = 94
      · subst h2; exact .inr (.inr (.inl ⟨rfl, rfl, rfl, rfl, rfl⟩))
      · by_cases h3 : isLet c = true
        · have hd : isDig c = false := by
            simp [isLet, isSmall, isBig] at h3
            simp [isDig]; omega
          exact .inr (.inr (.inr (.inl ⟨by simp [cls, clsC, h1, h2, h3], by simp [hasB, h1], by simp [hasB, h2], rfl, by simp [headDig, hd]⟩)))
        · have hk : clsC c = 3 := by simp [clsC, h1, h2, h3]
          have hd := cls_dig l c t hs hk
          exact .inr (.inr (.inr (.inr ⟨hk, by simp [hasB, h1], by simp [hasB, h2], rfl, by simp [headDig, hd]⟩)))
theorem cmpR_ne (x y : List UInt8) (h : cmpI (cls (skipR x)) (cls (skipR y)) ≠ 0) : cmpR x y = cmpI (cls (skipR x)) (cls (skipR y)) := by rw [cmpR, dif_neg h]
theorem cmpR_0 (x y : List UInt8) (h1 : cls (skipR x) = 0) (h2 : cls (skipR y) = 0) : cmpR x y = 0 := by rw [cmpR, dif_pos (by rw [h1, h2]; rfl), dif_pos h1]
theorem cmpR_t (x y : List UInt8) (k : Int) (h1 : cls (skipR x) = k) (h2 : cls (skipR y) = k) (h : k = -1 ∨ k = 1) : cmpR x y = cmpR (skipR x).tail (skipR y).tail := by
  rw [cmpR, dif_pos (by rw [h1, h2]; exact cmpI_same k), dif_neg (by omega), dif_neg (by omega), dif_neg (by omega)]
theorem cmpR_2 (x y : List UInt8) (h1 : cls (skipR x) = 2) (h2 : cls (skipR y) = 2) : cmpR x y = if cmpB (lets (skipR x)) (lets (skipR y)) = 0 then cmpR (past isLet (skipR x)) (past isLet (skipR y)) else cmpB (lets (skipR x)) (lets (skipR y)) := by
  rw [cmpR, dif_pos (by rw [h1, h2]; rfl), dif_neg (by omega), dif_pos h1]
theorem cmpR_3 (x y : List UInt8) (h1 : cls (skipR x) = 3) (h2 : cls (skipR y) = 3) : cmpR x y = if cmpN (digs (skipR x)) (digs (skipR y)) = 0 then cmpR (past isDig (skipR x)) (past isDig (skipR y)) else cmpN (digs (skipR x)) (digs (skipR y)) := by
  rw [cmpR, dif_pos (by rw [h1, h2]; rfl), dif_neg (by omega), dif_neg (by omega), dif_pos h1]
theorem cmpI_lt (a b : Int) (h : a < b) : cmpI a b = -1 := by rw [cmpI, if_pos h]
theorem cmpI_gt (a b : Int) (h : b < a) : cmpI a b = 1 := by rw [cmpI, if_neg (by omega), if_pos h]
theorem empty_eq (a : List UInt8) (h : a.isEmpty = true) : a = [] := by simpa using h
theorem nonempty_len (a : List UInt8) (h : a.isEmpty = false) : 0 < a.length := by
  cases a with
  | nil => cases h
  | cons => simp
theorem tail_ext (a : List UInt8) (h : a.isEmpty = false) : (bs a).extract 1 (bs a).size = bs a.tail := by
  cases a with
  | nil => cases h
  | cons c t => rw [ext_drop]; rfl
theorem head_get (a : List UInt8) (h : 0 < (bs a).size) : headDig a = isDig (bs a)[0] := by
  cases a with
  | nil => exact absurd h (by decide)
  | cons c t => rfl
theorem digs_none (a : List UInt8) (h : headDig a = false) : digs a = [] := by
  cases a with
  | nil => rfl
  | cons c t => 
    have : isDig c = false := h
    simp [digs, List.takeWhile_cons, this]
theorem lets_none (a : List UInt8) (h : headDig a = true) : lets a = [] := by
  cases a with
  | nil => rfl
  | cons c t => 
    have hd : isDig c = true := h
    have : isLet c = false := by
      simp [isDig] at hd
      simp [isLet, isSmall, isBig]; omega
    simp [lets, List.takeWhile_cons, this]
theorem lets_some (a : List UInt8) (h : cls a = 2) : 0 < (lets a).length := by
  cases a with
  | nil => cases h
  | cons c t => 
    have := clsC_let c h
    simp [lets, List.takeWhile_cons, this]
theorem digs_some (a : List UInt8) (h : headDig a = true) : 0 < (digs a).length := by
  cases a with
  | nil => cases h
  | cons c t => 
    have hd : isDig c = true := h
    simp [digs, List.takeWhile_cons, hd]
set_option maxRecDepth 20000 in
set_option maxHeartbeats 16000000 in
theorem againstRpm_any (x0 y0 : List UInt8) (w : World) (hx0 : x0.length ≤ 1000000) (hy0 : y0.length ≤ 1000000) :
    Calls Tryd.prog 39 #[.string (bs x0), .string (bs y0)] w fun e w' => e = .returned (.int .i64 (cmpR x0 y0)) ∧ Below w.heap.size w w' := by
  go_enter Tryd.func39, Tryd.ntmps39
  go_wp2_with fail
  go_loopg [0, 1] (x0.length + y0.length) (fun g s0 s1 wr => ∃ x y, s0 = .string (bs x) ∧ s1 = .string (bs y) ∧ g = x.length + y.length ∧ x.length ≤ x0.length ∧ y.length ≤ y0.length ∧ Below w.heap.size w wr ∧ Hid (cmpR x0 y0 = cmpR x y))
  case atStart => exact ⟨x0, y0, rfl, rfl, rfl, Nat.le_refl _, Nat.le_refl _, Below.refl _ _, Lib.hid rfl⟩
  case round =>
    obtain ⟨x, y, rfl, rfl, rfl, hxl, hyl, hbw, HE⟩ := hrel
    go_wp2_with fail
    refine (skip_any x _ (by omega)).mono ?_
    rintro e wq ⟨rfl, rfl⟩
    go_wp2_with fail
    refine (skip_any y _ (by omega)).mono ?_
    rintro e wq ⟨rfl, rfl⟩
    have fx := Lib.hid (cls5 x)
    have fy := Lib.hid (cls5 y)
    obtain ⟨a, Ha⟩ : ∃ a, Hid (skipR x = a) := ⟨_, Lib.hid rfl⟩
    obtain ⟨b, Hb⟩ : ∃ b, Hid (skipR y = b) := ⟨_, Lib.hid rfl⟩
    rw [Ha.out] at fx
    rw [Hb.out] at fy
    rw [Ha.out, Hb.out]
    have hal : a.length ≤ x.length := by rw [← Ha.out]; exact skipR_len x
    have hbl : b.length ≤ y.length := by rw [← Hb.out]; exact skipR_len y
    go_wp2_with fail
    refine (hpre_any 126 a _).mono ?_
    rintro e wq ⟨rfl, rfl⟩
    go_wp2_with fail
    refine (hpre_any 126 b _).mono ?_
    rintro e wq ⟨rfl, rfl⟩
    go_wp2_with fail
    refine (hpre_any 94 a _).mono ?_
    rintro e wq ⟨rfl, rfl⟩
    go_wp2_with fail
    refine (hpre_any 94 b _).mono ?_
    rintro e wq ⟨rfl, rfl⟩
    have fx := fx.out
    have fy := fy.out
    rcases fx with F | F | F | F | F <;> obtain ⟨ka, ta, ca, ea, da⟩ := F
    · rcases fy with F | F | F | F | F <;> obtain ⟨kb, tb, cb, eb, db⟩ := F
      · have Hal := nonempty_len a ea
        have Hbl := nonempty_len b eb
        have hz1 : ((bs a).size : Int) = (a.length : Int) := by rw [bs_size]
        have hz2 : ((bs b).size : Int) = (b.length : Int) := by rw [bs_size]
        have hi1 : (1 : Int) ≤ ((bs a).size : Int) := by omega
        have hi2 : (1 : Int) ≤ ((bs b).size : Int) := by omega
        have HX := Lib.hid (tail_ext a ea)
        have HY := Lib.hid (tail_ext b eb)
        have HD : Hid (cmpR x0 y0 = cmpR a.tail b.tail) := Lib.hid (by rw [HE.out, cmpR_t x y (-1) (by rw [Ha.out]; exact ka) (by rw [Hb.out]; exact kb) (by decide), Ha.out, Hb.out])
        rw [ta, tb, ca, cb]
        clear hz1 hz2 ka kb ta tb ca cb ea eb da db
        go_wp2_with fail
        refine wp_region_plan (fun _ => True) [(false, 0), (false, 1), (false, 2), (false, 3), (false, 4), (false, 5)] (by kernel_rfl) (by kernel_rfl) (trivial) ?_
        simp only [planOps, List.map, List.getD_cons_zero, List.getD_cons_succ]
        iterate 6 ((first | refine plan_quiet (v := ?_) rfl rfl (fun w' hw' => ?_) ?_ | refine plan_calm (v := ?_) (tt_of) rfl (fun w' hw' => ?_) ?_); rotate_left; (focus (go_simp <;> with_reducible rfl)); simp only [Act.put, List.setIfInBounds_toArray, List.set_cons_zero, List.set_cons_succ])
        refine plan_end ?_
        rw [HX.out, HY.out]
        go_wp2_with fail
        go_roundg (a.tail.length + b.tail.length)
        case measure => rw [List.length_tail, List.length_tail]; omega
        case rel => exact ⟨a.tail, b.tail, rfl, rfl, rfl, by rw [List.length_tail]; omega, by rw [List.length_tail]; omega, hbw.drew, HD⟩
      · have HV : Hid (cmpR x0 y0 = -1) := Lib.hid (by rw [HE.out, cmpR_ne x y (by rw [Ha.out, Hb.out, ka, kb]; decide), Ha.out, Hb.out, ka, kb]; rfl)
        have na1 : ¬ (bs a).toList = [] := by rw [toList_bs]; intro e; rw [e] at ea; cases ea
        have na2 : (bs a).toList.isEmpty = false := by rw [toList_bs]; exact ea
        have nb1 : (bs b).toList = [] := by rw [toList_bs]; exact empty_eq b eb
        have nb2 : (bs b).toList.isEmpty = true := by rw [toList_bs]; exact eb
        rw [ta, tb, ca, cb]
        clear ka kb ta tb ca cb ea eb da db
        go_wp2_with fail
        go_ret
        exact ⟨by rw [HV.out]; rfl, hbw⟩
      · have HV : Hid (cmpR x0 y0 = -1) := Lib.hid (by rw [HE.out, cmpR_ne x y (by rw [Ha.out, Hb.out, ka, kb]; decide), Ha.out, Hb.out, ka, kb]; rfl)
        have na1 : ¬ (bs a).toList = [] := by rw [toList_bs]; intro e; rw [e] at ea; cases ea
        have na2 : (bs a).toList.isEmpty = false := by rw [toList_bs]; exact ea
        have nb1 : ¬ (bs b).toList = [] := by rw [toList_bs]; intro e; rw [e] at eb; cases eb
        have nb2 : (bs b).toList.isEmpty = false := by rw [toList_bs]; exact eb
        rw [ta, tb, ca, cb]
        clear ka kb ta tb ca cb ea eb da db
        go_wp2_with fail
        go_ret
        exact ⟨by rw [HV.out]; rfl, hbw⟩
      · have HV : Hid (cmpR x0 y0 = -1) := Lib.hid (by rw [HE.out, cmpR_ne x y (by rw [Ha.out, Hb.out, ka, kb]; decide), Ha.out, Hb.out, ka, kb]; rfl)
        have na1 : ¬ (bs a).toList = [] := by rw [toList_bs]; intro e; rw [e] at ea; cases ea
        have na2 : (bs a).toList.isEmpty = false := by rw [toList_bs]; exact ea
        have nb1 : ¬ (bs b).toList = [] := by rw [toList_bs]; intro e; rw [e] at eb; cases eb
        have nb2 : (bs b).toList.isEmpty = false := by rw [toList_bs]; exact eb
        rw [ta, tb, ca, cb]
        clear ka kb ta tb ca cb ea eb da db
        go_wp2_with fail
        go_ret
        exact ⟨by rw [HV.out]; rfl, hbw⟩
      · have HV : Hid (cmpR x0 y0 = -1) := Lib.hid (by rw [HE.out, cmpR_ne x y (by rw [Ha.out, Hb.out, ka, kb]; decide), Ha.out, Hb.out, ka, kb]; rfl)
        have na1 : ¬ (bs a).toList = [] := by rw [toList_bs]; intro e; rw [e] at ea; cases ea
        have na2 : (bs a).toList.isEmpty = false := by rw [toList_bs]; exact ea
        have nb1 : ¬ (bs b).toList = [] := by rw [toList_bs]; intro e; rw [e] at eb; cases eb
        have nb2 : (bs b).toList.isEmpty = false := by rw [toList_bs]; exact eb
        rw [ta, tb, ca, cb]
        clear ka kb ta tb ca cb ea eb da db
        go_wp2_with fail
        go_ret
        exact ⟨by rw [HV.out]; rfl, hbw⟩
    · rcases fy with F | F | F | F | F <;> obtain ⟨kb, tb, cb, eb, db⟩ := F
      · have HV : Hid (cmpR x0 y0 = 1) := Lib.hid (by rw [HE.out, cmpR_ne x y (by rw [Ha.out, Hb.out, ka, kb]; decide), Ha.out, Hb.out, ka, kb]; rfl)
        have na1 : (bs a).toList = [] := by rw [toList_bs]; exact empty_eq a ea
        have na2 : (bs a).toList.isEmpty = true := by rw [toList_bs]; exact ea
        have nb1 : ¬ (bs b).toList = [] := by rw [toList_bs]; intro e; rw [e] at eb; cases eb
        have nb2 : (bs b).toList.isEmpty = false := by rw [toList_bs]; exact eb
        rw [ta, tb, ca, cb]
        clear ka kb ta tb ca cb ea eb da db
        go_wp2_with fail
        go_ret
        exact ⟨by rw [HV.out]; rfl, hbw⟩
      · have HV : Hid (cmpR x0 y0 = 0) := Lib.hid (by rw [HE.out]; exact cmpR_0 x y (by rw [Ha.out]; exact ka) (by rw [Hb.out]; exact kb))
        have na1 : (bs a).toList = [] := by rw [toList_bs]; exact empty_eq a ea
        have na2 : (bs a).toList.isEmpty = true := by rw [toList_bs]; exact ea
        have nb1 : (bs b).toList = [] := by rw [toList_bs]; exact empty_eq b eb
        have nb2 : (bs b).toList.isEmpty = true := by rw [toList_bs]; exact eb
        have hz1 : ((bs a).size : Int) = (a.length : Int) := by rw [bs_size]
        have hz2 : ((bs b).size : Int) = (b.length : Int) := by rw [bs_size]
        have Hla : Hid (a.length = 0) := Lib.hid (by rw [empty_eq a ea]; rfl)
        have Hlb : Hid (b.length = 0) := Lib.hid (by rw [empty_eq b eb]; rfl)
        rw [ta, tb, ca, cb]
        clear ka kb ta tb ca cb ea eb da db
        go_wp2_with fail
        refine (ccmp _ _ _).mono ?_
        rintro e wq ⟨rfl, rfl⟩
        rw [show cmpI (a.length : Int) (b.length : Int) = 0 by rw [Hla.out, Hlb.out]; rfl]
        go_wp2_with fail
        go_ret
        exact ⟨by rw [HV.out]; rfl, hbw⟩
      · have HV : Hid (cmpR x0 y0 = -1) := Lib.hid (by rw [HE.out, cmpR_ne x y (by rw [Ha.out, Hb.out, ka, kb]; decide), Ha.out, Hb.out, ka, kb]; rfl)
        have na1 : (bs a).toList = [] := by rw [toList_bs]; exact empty_eq a ea
        have na2 : (bs a).toList.isEmpty = true := by rw [toList_bs]; exact ea
        have nb1 : ¬ (bs b).toList = [] := by rw [toList_bs]; intro e; rw [e] at eb; cases eb
        have nb2 : (bs b).toList.isEmpty = false := by rw [toList_bs]; exact eb
        rw [ta, tb, ca, cb]
        clear ka kb ta tb ca cb ea eb da db
        go_wp2_with fail
        go_ret
        exact ⟨by rw [HV.out]; rfl, hbw⟩
      · have HV : Hid (cmpR x0 y0 = -1) := Lib.hid (by rw [HE.out, cmpR_ne x y (by rw [Ha.out, Hb.out, ka, kb]; decide), Ha.out, Hb.out, ka, kb]; rfl)
        have na1 : (bs a).toList = [] := by rw [toList_bs]; exact empty_eq a ea
        have na2 : (bs a).toList.isEmpty = true := by rw [toList_bs]; exact ea
        have nb1 : ¬ (bs b).toList = [] := by rw [toList_bs]; intro e; rw [e] at eb; cases eb
        have nb2 : (bs b).toList.isEmpty = false := by rw [toList_bs]; exact eb
        have hz1 : ((bs a).size : Int) = (a.length : Int) := by rw [bs_size]
        have hz2 : ((bs b).size : Int) = (b.length : Int) := by rw [bs_size]
        have Hla : Hid (a.length = 0) := Lib.hid (by rw [empty_eq a ea]; rfl)
        have Hlb : Hid (0 < b.length) := Lib.hid (by exact nonempty_len b eb)
        rw [ta, tb, ca, cb]
        clear ka kb ta tb ca cb ea eb da db
        go_wp2_with fail
        refine (ccmp _ _ _).mono ?_
        rintro e wq ⟨rfl, rfl⟩
        rw [show cmpI (a.length : Int) (b.length : Int) = -1 by exact cmpI_lt _ _ (by have := Hla.out; have := Hlb.out; omega)]
        go_wp2_with fail
        go_ret
        exact ⟨by rw [HV.out]; rfl, hbw⟩
      · have HV : Hid (cmpR x0 y0 = -1) := Lib.hid (by rw [HE.out, cmpR_ne x y (by rw [Ha.out, Hb.out, ka, kb]; decide), Ha.out, Hb.out, ka, kb]; rfl)
        have na1 : (bs a).toList = [] := by rw [toList_bs]; exact empty_eq a ea
        have na2 : (bs a).toList.isEmpty = true := by rw [toList_bs]; exact ea
        have nb1 : ¬ (bs b).toList = [] := by rw [toList_bs]; intro e; rw [e] at eb; cases eb
        have nb2 : (bs b).toList.isEmpty = false := by rw [toList_bs]; exact eb
        have hz1 : ((bs a).size : Int) = (a.length : Int) := by rw [bs_size]
        have hz2 : ((bs b).size : Int) = (b.length : Int) := by rw [bs_size]
        have Hla : Hid (a.length = 0) := Lib.hid (by rw [empty_eq a ea]; rfl)
        have Hlb : Hid (0 < b.length) := Lib.hid (by exact nonempty_len b eb)
        rw [ta, tb, ca, cb]
        clear ka kb ta tb ca cb ea eb da db
        go_wp2_with fail
        refine (ccmp _ _ _).mono ?_
        rintro e wq ⟨rfl, rfl⟩
        rw [show cmpI (a.length : Int) (b.length : Int) = -1 by exact cmpI_lt _ _ (by have := Hla.out; have := Hlb.out; omega)]
        go_wp2_with fail
        go_ret
        exact ⟨by rw [HV.out]; rfl, hbw⟩
    · rcases fy with F | F | F | F | F <;> obtain ⟨kb, tb, cb, eb, db⟩ := F
      · have HV : Hid (cmpR x0 y0 = 1) := Lib.hid (by rw [HE.out, cmpR_ne x y (by rw [Ha.out, Hb.out, ka, kb]; decide), Ha.out, Hb.out, ka, kb]; rfl)
        have na1 : ¬ (bs a).toList = [] := by rw [toList_bs]; intro e; rw [e] at ea; cases ea
        have na2 : (bs a).toList.isEmpty = false := by rw [toList_bs]; exact ea
        have nb1 : ¬ (bs b).toList = [] := by rw [toList_bs]; intro e; rw [e] at eb; cases eb
        have nb2 : (bs b).toList.isEmpty = false := by rw [toList_bs]; exact eb
        rw [ta, tb, ca, cb]
        clear ka kb ta tb ca cb ea eb da db
        go_wp2_with fail
        go_ret
        exact ⟨by rw [HV.out]; rfl, hbw⟩
      · have HV : Hid (cmpR x0 y0 = 1) := Lib.hid (by rw [HE.out, cmpR_ne x y (by rw [Ha.out, Hb.out, ka, kb]; decide), Ha.out, Hb.out, ka, kb]; rfl)
        have na1 : ¬ (bs a).toList = [] := by rw [toList_bs]; intro e; rw [e] at ea; cases ea
        have na2 : (bs a).toList.isEmpty = false := by rw [toList_bs]; exact ea
        have nb1 : (bs b).toList = [] := by rw [toList_bs]; exact empty_eq b eb
        have nb2 : (bs b).toList.isEmpty = true := by rw [toList_bs]; exact eb
        rw [ta, tb, ca, cb]
        clear ka kb ta tb ca cb ea eb da db
        go_wp2_with fail
        go_ret
        exact ⟨by rw [HV.out]; rfl, hbw⟩
      · have Hal := nonempty_len a ea
        have Hbl := nonempty_len b eb
        have hz1 : ((bs a).size : Int) = (a.length : Int) := by rw [bs_size]
        have hz2 : ((bs b).size : Int) = (b.length : Int) := by rw [bs_size]
        have hi1 : (1 : Int) ≤ ((bs a).size : Int) := by omega
        have hi2 : (1 : Int) ≤ ((bs b).size : Int) := by omega
        have HX := Lib.hid (tail_ext a ea)
        have HY := Lib.hid (tail_ext b eb)
        have HD : Hid (cmpR x0 y0 = cmpR a.tail b.tail) := Lib.hid (by rw [HE.out, cmpR_t x y (1) (by rw [Ha.out]; exact ka) (by rw [Hb.out]; exact kb) (by decide), Ha.out, Hb.out])
        rw [ta, tb, ca, cb]
        clear hz1 hz2 ka kb ta tb ca cb ea eb da db
        go_wp2_with fail
        refine wp_region_plan (fun _ => True) [(false, 0), (false, 1), (false, 2), (false, 3), (false, 4), (false, 5)] (by kernel_rfl) (by kernel_rfl) (trivial) ?_
        simp only [planOps, List.map, List.getD_cons_zero, List.getD_cons_succ]
        iterate 6 ((first | refine plan_quiet (v := ?_) rfl rfl (fun w' hw' => ?_) ?_ | refine plan_calm (v := ?_) (tt_of) rfl (fun w' hw' => ?_) ?_); rotate_left; (focus (go_simp <;> with_reducible rfl)); simp only [Act.put, List.setIfInBounds_toArray, List.set_cons_zero, List.set_cons_succ])
        refine plan_end ?_
        rw [HX.out, HY.out]
        go_wp2_with fail
        go_roundg (a.tail.length + b.tail.length)
        case measure => rw [List.length_tail, List.length_tail]; omega
        case rel => exact ⟨a.tail, b.tail, rfl, rfl, rfl, by rw [List.length_tail]; omega, by rw [List.length_tail]; omega, hbw.drew, HD⟩
      · have HV : Hid (cmpR x0 y0 = -1) := Lib.hid (by rw [HE.out, cmpR_ne x y (by rw [Ha.out, Hb.out, ka, kb]; decide), Ha.out, Hb.out, ka, kb]; rfl)
        have na1 : ¬ (bs a).toList = [] := by rw [toList_bs]; intro e; rw [e] at ea; cases ea
        have na2 : (bs a).toList.isEmpty = false := by rw [toList_bs]; exact ea
        have nb1 : ¬ (bs b).toList = [] := by rw [toList_bs]; intro e; rw [e] at eb; cases eb
        have nb2 : (bs b).toList.isEmpty = false := by rw [toList_bs]; exact eb
        rw [ta, tb, ca, cb]
        clear ka kb ta tb ca cb ea eb da db
        go_wp2_with fail
        go_ret
        exact ⟨by rw [HV.out]; rfl, hbw⟩
      · have HV : Hid (cmpR x0 y0 = -1) := Lib.hid (by rw [HE.out, cmpR_ne x y (by rw [Ha.out, Hb.out, ka, kb]; decide), Ha.out, Hb.out, ka, kb]; rfl)
        have na1 : ¬ (bs a).toList = [] := by rw [toList_bs]; intro e; rw [e] at ea; cases ea
        have na2 : (bs a).toList.isEmpty = false := by rw [toList_bs]; exact ea
        have nb1 : ¬ (bs b).toList = [] := by rw [toList_bs]; intro e; rw [e] at eb; cases eb
        have nb2 : (bs b).toList.isEmpty = false := by rw [toList_bs]; exact eb
        rw [ta, tb, ca, cb]
        clear ka kb ta tb ca cb ea eb da db
        go_wp2_with fail
        go_ret
        exact ⟨by rw [HV.out]; rfl, hbw⟩
    · rcases fy with F | F | F | F | F <;> obtain ⟨kb, tb, cb, eb, db⟩ := F
      · have HV : Hid (cmpR x0 y0 = 1) := Lib.hid (by rw [HE.out, cmpR_ne x y (by rw [Ha.out, Hb.out, ka, kb]; decide), Ha.out, Hb.out, ka, kb]; rfl)
        have na1 : ¬ (bs a).toList = [] := by rw [toList_bs]; intro e; rw [e] at ea; cases ea
        have na2 : (bs a).toList.isEmpty = false := by rw [toList_bs]; exact ea
        have nb1 : ¬ (bs b).toList = [] := by rw [toList_bs]; intro e; rw [e] at eb; cases eb
        have nb2 : (bs b).toList.isEmpty = false := by rw [toList_bs]; exact eb
        rw [ta, tb, ca, cb]
        clear ka kb ta tb ca cb ea eb da db
        go_wp2_with fail
        go_ret
        exact ⟨by rw [HV.out]; rfl, hbw⟩
      · have HV : Hid (cmpR x0 y0 = 1) := Lib.hid (by rw [HE.out, cmpR_ne x y (by rw [Ha.out, Hb.out, ka, kb]; decide), Ha.out, Hb.out, ka, kb]; rfl)
        have na1 : ¬ (bs a).toList = [] := by rw [toList_bs]; intro e; rw [e] at ea; cases ea
        have na2 : (bs a).toList.isEmpty = false := by rw [toList_bs]; exact ea
        have nb1 : (bs b).toList = [] := by rw [toList_bs]; exact empty_eq b eb
        have nb2 : (bs b).toList.isEmpty = true := by rw [toList_bs]; exact eb
        have hz1 : ((bs a).size : Int) = (a.length : Int) := by rw [bs_size]
        have hz2 : ((bs b).size : Int) = (b.length : Int) := by rw [bs_size]
        have Hla : Hid (0 < a.length) := Lib.hid (by exact nonempty_len a ea)
        have Hlb : Hid (b.length = 0) := Lib.hid (by rw [empty_eq b eb]; rfl)
        rw [ta, tb, ca, cb]
        clear ka kb ta tb ca cb ea eb da db
        go_wp2_with fail
        refine (ccmp _ _ _).mono ?_
        rintro e wq ⟨rfl, rfl⟩
        rw [show cmpI (a.length : Int) (b.length : Int) = 1 by exact cmpI_gt _ _ (by have := Hla.out; have := Hlb.out; omega)]
        go_wp2_with fail
        go_ret
        exact ⟨by rw [HV.out]; rfl, hbw⟩
      · have HV : Hid (cmpR x0 y0 = 1) := Lib.hid (by rw [HE.out, cmpR_ne x y (by rw [Ha.out, Hb.out, ka, kb]; decide), Ha.out, Hb.out, ka, kb]; rfl)
        have na1 : ¬ (bs a).toList = [] := by rw [toList_bs]; intro e; rw [e] at ea; cases ea
        have na2 : (bs a).toList.isEmpty = false := by rw [toList_bs]; exact ea
        have nb1 : ¬ (bs b).toList = [] := by rw [toList_bs]; intro e; rw [e] at eb; cases eb
        have nb2 : (bs b).toList.isEmpty = false := by rw [toList_bs]; exact eb
        rw [ta, tb, ca, cb]
        clear ka kb ta tb ca cb ea eb da db
        go_wp2_with fail
        go_ret
        exact ⟨by rw [HV.out]; rfl, hbw⟩
      · have Hal := nonempty_len a ea
        have hz1 : ((bs a).size : Int) = (a.length : Int) := by rw [bs_size]
        have hz2 : ((bs b).size : Int) = (b.length : Int) := by rw [bs_size]
        have hi0 : (0 : Int) < ((bs a).size : Int) := by omega
        clear hz1 hz2
        have hp : 0 < (lets b).length := lets_some b kb
        have HD : Hid (cmpR x0 y0 = if cmpB (lets a) (lets b) = 0 then cmpR (past isLet a) (past isLet b) else cmpB (lets a) (lets b)) := Lib.hid (by rw [HE.out, cmpR_2 x y (by rw [Ha.out]; exact ka) (by rw [Hb.out]; exact kb), Ha.out, Hb.out])
        have hlt1 : (past isLet a).length < x.length := by rw [← Ha.out]; exact pastL_lt x (by rw [Ha.out]; exact ka)
        have hlt2 : (past isLet b).length < y.length := by rw [← Hb.out]; exact pastL_lt y (by rw [Hb.out]; exact kb)
        have na1 : ¬ (bs a).toList = [] := by rw [toList_bs]; intro e; rw [e] at ea; cases ea
        have na2 : (bs a).toList.isEmpty = false := by rw [toList_bs]; exact ea
        have nb1 : ¬ (bs b).toList = [] := by rw [toList_bs]; intro e; rw [e] at eb; cases eb
        have nb2 : (bs b).toList.isEmpty = false := by rw [toList_bs]; exact eb
        rw [ta, tb, ca, cb]
        have hp0 : 0 < (bs a).size := by rw [bs_size]; omega
        have hdg : isDig ((bs a)[0]'hp0) = false := by rw [← head_get a hp0]; exact da
        clear ka kb ta tb ca cb ea eb da db
        go_wp2_with fail
        refine (digit_any (bs a)[0] _).mono ?_
        rintro e wq ⟨rfl, rfl⟩
        rw [hdg]
        clear hdg na1 na2 nb1 nb2
        obtain ⟨du, Hdu⟩ : ∃ d, Hid (lets a = d) := ⟨_, Lib.hid rfl⟩
        obtain ⟨dv, Hdv⟩ : ∃ d, Hid (lets b = d) := ⟨_, Lib.hid rfl⟩
        have hdul : du.length ≤ a.length := by rw [← Hdu.out]; exact tw_len isLet a
        have hdvl : dv.length ≤ b.length := by rw [← Hdv.out]; exact tw_len isLet b
        rw [Hdv.out] at hp
        go_wp2_with fail
        refine (run_let a _ (by omega)).mono ?_
        rintro e wq ⟨rfl, rfl⟩
        rw [Hdu.out]
        go_wp2_with fail
        refine (run_let b _ (by omega)).mono ?_
        rintro e wq ⟨rfl, rfl⟩
        rw [Hdv.out]
        have hm0 : ((dv.length : Int) == 0) = false := beq_eq_false_iff_ne.2 (by omega)
        have H1 : Hid ((bs a).extract 0 du.length = bs du) := Lib.hid (by rw [← Hdu.out]; exact tw_ext isLet a)
        have H2 : Hid ((bs b).extract 0 dv.length = bs dv) := Lib.hid (by rw [← Hdv.out]; exact tw_ext isLet b)
        have H3 : Hid ((bs a).extract du.length (bs a).size = bs (past isLet a)) := Lib.hid (by rw [← Hdu.out]; exact past_drop isLet a)
        have H4 : Hid ((bs b).extract dv.length (bs b).size = bs (past isLet b)) := Lib.hid (by rw [← Hdv.out]; exact past_drop isLet b)
        have hi1 : (0 : Int) ≤ (du.length : Int) := by omega
        have hi2 : (du.length : Int) ≤ ((bs a).size : Int) := by rw [bs_size]; omega
        have hi3 : (0 : Int) ≤ (dv.length : Int) := by omega
        have hi4 : (dv.length : Int) ≤ ((bs b).size : Int) := by rw [bs_size]; omega
        clear hi0
        obtain ⟨c, Hc⟩ : ∃ c, Hid (cmpB du dv = c) := ⟨_, Lib.hid rfl⟩
        go_wp2_with fail
        refine wp_region_plan (fun _ => True) [(false, 0), (false, 1), (false, 2), (false, 3), (false, 4), (false, 5), (false, 6), (true, 7), (false, 8)] (by kernel_rfl) (by kernel_rfl) (trivial) ?_
        simp only [planOps, List.map, List.getD_cons_zero, List.getD_cons_succ]
        iterate 7 ((first | refine plan_quiet (v := ?_) rfl rfl (fun w' hw' => ?_) ?_ | refine plan_calm (v := ?_) (tt_of) rfl (fun w' hw' => ?_) ?_); rotate_left; (focus (go_simp <;> with_reducible rfl)); simp only [Act.put, List.setIfInBounds_toArray, List.set_cons_zero, List.set_cons_succ])
        refine plan_loud rfl (fun K hK => ?_)
        go_simp
        rw [H1.out, H2.out]
        refine (scmp du dv _).mono ?_
        rintro e w2 ⟨rfl, rfl⟩
        have hbw2 := hbw.drew
        rw [Hc.out]
        refine hK _ _ (trivial) ?_
        clear hK K
        (try simp only [Act.put, List.setIfInBounds_toArray, List.set_cons_zero, List.set_cons_succ])
        iterate 1 ((first | refine plan_quiet (v := ?_) rfl rfl (fun w' hw' => ?_) ?_ | refine plan_calm (v := ?_) (tt_of) rfl (fun w' hw' => ?_) ?_); rotate_left; (focus (go_simp <;> with_reducible rfl)); simp only [Act.put, List.setIfInBounds_toArray, List.set_cons_zero, List.set_cons_succ])
        refine plan_end ?_
        by_cases hc : c = 0
        · subst hc
          go_wp2_with fail
          refine wp_region_plan (fun _ => True) [(false, 0), (false, 1), (false, 2), (false, 3), (false, 4), (false, 5), (false, 6), (false, 7)] (by kernel_rfl) (by kernel_rfl) (trivial) ?_
          simp only [planOps, List.map, List.getD_cons_zero, List.getD_cons_succ]
          iterate 8 ((first | refine plan_quiet (v := ?_) rfl rfl (fun w' hw' => ?_) ?_ | refine plan_calm (v := ?_) (tt_of) rfl (fun w' hw' => ?_) ?_); rotate_left; (focus (go_simp <;> with_reducible rfl)); simp only [Act.put, List.setIfInBounds_toArray, List.set_cons_zero, List.set_cons_succ])
          refine plan_end ?_
          rw [H3.out, H4.out]
          go_wp2_with fail
          go_roundg ((past isLet a).length + (past isLet b).length)
          case measure => omega
          case rel => exact ⟨past isLet a, past isLet b, rfl, rfl, rfl, by omega, by omega, hbw2.drew, Lib.hid (by rw [HD.out, Hdu.out, Hdv.out, Hc.out, if_pos rfl])⟩
        · have hcb : (c != 0) = true := by simpa using hc
          go_wp2_with fail
          go_ret
          exact ⟨by rw [HD.out, Hdu.out, Hdv.out, Hc.out, if_neg hc]; rfl, hbw2⟩
      · have Hal := nonempty_len a ea
        have hz1 : ((bs a).size : Int) = (a.length : Int) := by rw [bs_size]
        have hi0 : (0 : Int) < ((bs a).size : Int) := by omega
        have HV : Hid (cmpR x0 y0 = -1) := Lib.hid (by rw [HE.out, cmpR_ne x y (by rw [Ha.out, Hb.out, ka, kb]; decide), Ha.out, Hb.out, ka, kb]; rfl)
        have hn := lets_none b db
        have na1 : ¬ (bs a).toList = [] := by rw [toList_bs]; intro e; rw [e] at ea; cases ea
        have na2 : (bs a).toList.isEmpty = false := by rw [toList_bs]; exact ea
        have nb1 : ¬ (bs b).toList = [] := by rw [toList_bs]; intro e; rw [e] at eb; cases eb
        have nb2 : (bs b).toList.isEmpty = false := by rw [toList_bs]; exact eb
        rw [ta, tb, ca, cb]
        have hp0 : 0 < (bs a).size := by rw [bs_size]; omega
        have hdg : isDig ((bs a)[0]'hp0) = false := by rw [← head_get a hp0]; exact da
        clear ka kb ta tb ca cb ea eb da db hz1
        go_wp2_with fail
        refine (digit_any (bs a)[0] _).mono ?_
        rintro e wq ⟨rfl, rfl⟩
        rw [hdg]
        clear hdg
        go_wp2_with fail
        refine (run_let a _ (by omega)).mono ?_
        rintro e wq ⟨rfl, rfl⟩
        go_wp2_with fail
        refine (run_let b _ (by omega)).mono ?_
        rintro e wq ⟨rfl, rfl⟩
        rw [hn]
        clear hn
        go_wp2_with fail
        go_ret
        exact ⟨by rw [HV.out]; rfl, hbw⟩
    · rcases fy with F | F | F | F | F <;> obtain ⟨kb, tb, cb, eb, db⟩ := F
      · have HV : Hid (cmpR x0 y0 = 1) := Lib.hid (by rw [HE.out, cmpR_ne x y (by rw [Ha.out, Hb.out, ka, kb]; decide), Ha.out, Hb.out, ka, kb]; rfl)
        have na1 : ¬ (bs a).toList = [] := by rw [toList_bs]; intro e; rw [e] at ea; cases ea
        have na2 : (bs a).toList.isEmpty = false := by rw [toList_bs]; exact ea
        have nb1 : ¬ (bs b).toList = [] := by rw [toList_bs]; intro e; rw [e] at eb; cases eb
        have nb2 : (bs b).toList.isEmpty = false := by rw [toList_bs]; exact eb
        rw [ta, tb, ca, cb]
        clear ka kb ta tb ca cb ea eb da db
        go_wp2_with fail
        go_ret
        exact ⟨by rw [HV.out]; rfl, hbw⟩
      · have HV : Hid (cmpR x0 y0 = 1) := Lib.hid (by rw [HE.out, cmpR_ne x y (by rw [Ha.out, Hb.out, ka, kb]; decide), Ha.out, Hb.out, ka, kb]; rfl)
        have na1 : ¬ (bs a).toList = [] := by rw [toList_bs]; intro e; rw [e] at ea; cases ea
        have na2 : (bs a).toList.isEmpty = false := by rw [toList_bs]; exact ea
        have nb1 : (bs b).toList = [] := by rw [toList_bs]; exact empty_eq b eb
        have nb2 : (bs b).toList.isEmpty = true := by rw [toList_bs]; exact eb
        have hz1 : ((bs a).size : Int) = (a.length : Int) := by rw [bs_size]
        have hz2 : ((bs b).size : Int) = (b.length : Int) := by rw [bs_size]
        have Hla : Hid (0 < a.length) := Lib.hid (by exact nonempty_len a ea)
        have Hlb : Hid (b.length = 0) := Lib.hid (by rw [empty_eq b eb]; rfl)
        rw [ta, tb, ca, cb]
        clear ka kb ta tb ca cb ea eb da db
        go_wp2_with fail
        refine (ccmp _ _ _).mono ?_
        rintro e wq ⟨rfl, rfl⟩
        rw [show cmpI (a.length : Int) (b.length : Int) = 1 by exact cmpI_gt _ _ (by have := Hla.out; have := Hlb.out; omega)]
        go_wp2_with fail
        go_ret
        exact ⟨by rw [HV.out]; rfl, hbw⟩
      · have HV : Hid (cmpR x0 y0 = 1) := Lib.hid (by rw [HE.out, cmpR_ne x y (by rw [Ha.out, Hb.out, ka, kb]; decide), Ha.out, Hb.out, ka, kb]; rfl)
        have na1 : ¬ (bs a).toList = [] := by rw [toList_bs]; intro e; rw [e] at ea; cases ea
        have na2 : (bs a).toList.isEmpty = false := by rw [toList_bs]; exact ea
        have nb1 : ¬ (bs b).toList = [] := by rw [toList_bs]; intro e; rw [e] at eb; cases eb
        have nb2 : (bs b).toList.isEmpty = false := by rw [toList_bs]; exact eb
        rw [ta, tb, ca, cb]
        clear ka kb ta tb ca cb ea eb da db
        go_wp2_with fail
        go_ret
        exact ⟨by rw [HV.out]; rfl, hbw⟩
      · have Hal := nonempty_len a ea
        have hz1 : ((bs a).size : Int) = (a.length : Int) := by rw [bs_size]
        have hi0 : (0 : Int) < ((bs a).size : Int) := by omega
        have HV : Hid (cmpR x0 y0 = 1) := Lib.hid (by rw [HE.out, cmpR_ne x y (by rw [Ha.out, Hb.out, ka, kb]; decide), Ha.out, Hb.out, ka, kb]; rfl)
        have hn := digs_none b db
        have na1 : ¬ (bs a).toList = [] := by rw [toList_bs]; intro e; rw [e] at ea; cases ea
        have na2 : (bs a).toList.isEmpty = false := by rw [toList_bs]; exact ea
        have nb1 : ¬ (bs b).toList = [] := by rw [toList_bs]; intro e; rw [e] at eb; cases eb
        have nb2 : (bs b).toList.isEmpty = false := by rw [toList_bs]; exact eb
        rw [ta, tb, ca, cb]
        have hp0 : 0 < (bs a).size := by rw [bs_size]; omega
        have hdg : isDig ((bs a)[0]'hp0) = true := by rw [← head_get a hp0]; exact da
        clear ka kb ta tb ca cb ea eb da db hz1
        go_wp2_with fail
        refine (digit_any (bs a)[0] _).mono ?_
        rintro e wq ⟨rfl, rfl⟩
        rw [hdg]
        clear hdg
        go_wp2_with fail
        refine (run_dig a _ (by omega)).mono ?_
        rintro e wq ⟨rfl, rfl⟩
        go_wp2_with fail
        refine (run_dig b _ (by omega)).mono ?_
        rintro e wq ⟨rfl, rfl⟩
        rw [hn]
        clear hn
        go_wp2_with fail
        go_ret
        exact ⟨by rw [HV.out]; rfl, hbw⟩
      · have Hal := nonempty_len a ea
        have hz1 : ((bs a).size : Int) = (a.length : Int) := by rw [bs_size]
        have hz2 : ((bs b).size : Int) = (b.length : Int) := by rw [bs_size]
        have hi0 : (0 : Int) < ((bs a).size : Int) := by omega
        clear hz1 hz2
        have hp : 0 < (digs b).length := digs_some b db
        have HD : Hid (cmpR x0 y0 = if cmpN (digs a) (digs b) = 0 then cmpR (past isDig a) (past isDig b) else cmpN (digs a) (digs b)) := Lib.hid (by rw [HE.out, cmpR_3 x y (by rw [Ha.out]; exact ka) (by rw [Hb.out]; exact kb), Ha.out, Hb.out])
        have hlt1 : (past isDig a).length < x.length := by rw [← Ha.out]; exact pastR_lt x (by rw [Ha.out]; exact ka)
        have hlt2 : (past isDig b).length < y.length := by rw [← Hb.out]; exact pastR_lt y (by rw [Hb.out]; exact kb)
        have na1 : ¬ (bs a).toList = [] := by rw [toList_bs]; intro e; rw [e] at ea; cases ea
        have na2 : (bs a).toList.isEmpty = false := by rw [toList_bs]; exact ea
        have nb1 : ¬ (bs b).toList = [] := by rw [toList_bs]; intro e; rw [e] at eb; cases eb
        have nb2 : (bs b).toList.isEmpty = false := by rw [toList_bs]; exact eb
        rw [ta, tb, ca, cb]
        have hp0 : 0 < (bs a).size := by rw [bs_size]; omega
        have hdg : isDig ((bs a)[0]'hp0) = true := by rw [← head_get a hp0]; exact da
        clear ka kb ta tb ca cb ea eb da db
        go_wp2_with fail
        refine (digit_any (bs a)[0] _).mono ?_
        rintro e wq ⟨rfl, rfl⟩
        rw [hdg]
        clear hdg na1 na2 nb1 nb2
        obtain ⟨du, Hdu⟩ : ∃ d, Hid (digs a = d) := ⟨_, Lib.hid rfl⟩
        obtain ⟨dv, Hdv⟩ : ∃ d, Hid (digs b = d) := ⟨_, Lib.hid rfl⟩
        have hdul : du.length ≤ a.length := by rw [← Hdu.out]; exact tw_len isDig a
        have hdvl : dv.length ≤ b.length := by rw [← Hdv.out]; exact tw_len isDig b
        rw [Hdv.out] at hp
        go_wp2_with fail
        refine (run_dig a _ (by omega)).mono ?_
        rintro e wq ⟨rfl, rfl⟩
        rw [Hdu.out]
        go_wp2_with fail
        refine (run_dig b _ (by omega)).mono ?_
        rintro e wq ⟨rfl, rfl⟩
        rw [Hdv.out]
        have hm0 : ((dv.length : Int) == 0) = false := beq_eq_false_iff_ne.2 (by omega)
        have H1 : Hid ((bs a).extract 0 du.length = bs du) := Lib.hid (by rw [← Hdu.out]; exact tw_ext isDig a)
        have H2 : Hid ((bs b).extract 0 dv.length = bs dv) := Lib.hid (by rw [← Hdv.out]; exact tw_ext isDig b)
        have H3 : Hid ((bs a).extract du.length (bs a).size = bs (past isDig a)) := Lib.hid (by rw [← Hdu.out]; exact past_drop isDig a)
        have H4 : Hid ((bs b).extract dv.length (bs b).size = bs (past isDig b)) := Lib.hid (by rw [← Hdv.out]; exact past_drop isDig b)
        have hi1 : (0 : Int) ≤ (du.length : Int) := by omega
        have hi2 : (du.length : Int) ≤ ((bs a).size : Int) := by rw [bs_size]; omega
        have hi3 : (0 : Int) ≤ (dv.length : Int) := by omega
        have hi4 : (dv.length : Int) ≤ ((bs b).size : Int) := by rw [bs_size]; omega
        clear hi0
        obtain ⟨c, Hc⟩ : ∃ c, Hid (cmpN du dv = c) := ⟨_, Lib.hid rfl⟩
        go_wp2_with fail
        refine wp_region_plan (fun _ => True) [(false, 0), (false, 1), (false, 2), (false, 3), (false, 4), (false, 5), (false, 6), (true, 7), (false, 8)] (by kernel_rfl) (by kernel_rfl) (trivial) ?_
        simp only [planOps, List.map, List.getD_cons_zero, List.getD_cons_succ]
        iterate 7 ((first | refine plan_quiet (v := ?_) rfl rfl (fun w' hw' => ?_) ?_ | refine plan_calm (v := ?_) (tt_of) rfl (fun w' hw' => ?_) ?_); rotate_left; (focus (go_simp <;> with_reducible rfl)); simp only [Act.put, List.setIfInBounds_toArray, List.set_cons_zero, List.set_cons_succ])
        refine plan_loud rfl (fun K hK => ?_)
        go_simp
        rw [H1.out, H2.out]
        refine (numbers_any du dv _).mono ?_
        rintro e w2 ⟨rfl, hb2⟩
        have hbw2 := below_trans hbw.drew hb2
        rw [Hc.out]
        refine hK _ _ (trivial) ?_
        clear hK K
        (try simp only [Act.put, List.setIfInBounds_toArray, List.set_cons_zero, List.set_cons_succ])
        iterate 1 ((first | refine plan_quiet (v := ?_) rfl rfl (fun w' hw' => ?_) ?_ | refine plan_calm (v := ?_) (tt_of) rfl (fun w' hw' => ?_) ?_); rotate_left; (focus (go_simp <;> with_reducible rfl)); simp only [Act.put, List.setIfInBounds_toArray, List.set_cons_zero, List.set_cons_succ])
        refine plan_end ?_
        by_cases hc : c = 0
        · subst hc
          go_wp2_with fail
          refine wp_region_plan (fun _ => True) [(false, 0), (false, 1), (false, 2), (false, 3), (false, 4), (false, 5), (false, 6), (false, 7)] (by kernel_rfl) (by kernel_rfl) (trivial) ?_
          simp only [planOps, List.map, List.getD_cons_zero, List.getD_cons_succ]
          iterate 8 ((first | refine plan_quiet (v := ?_) rfl rfl (fun w' hw' => ?_) ?_ | refine plan_calm (v := ?_) (tt_of) rfl (fun w' hw' => ?_) ?_); rotate_left; (focus (go_simp <;> with_reducible rfl)); simp only [Act.put, List.setIfInBounds_toArray, List.set_cons_zero, List.set_cons_succ])
          refine plan_end ?_
          rw [H3.out, H4.out]
          go_wp2_with fail
          go_roundg ((past isDig a).length + (past isDig b).length)
          case measure => omega
          case rel => exact ⟨past isDig a, past isDig b, rfl, rfl, rfl, by omega, by omega, hbw2.drew, Lib.hid (by rw [HD.out, Hdu.out, Hdv.out, Hc.out, if_pos rfl])⟩
        · have hcb : (c != 0) = true := by simpa using hc
          go_wp2_with fail
          go_ret
          exact ⟨by rw [HD.out, Hdu.out, Hdv.out, Hc.out, if_neg hc]; rfl, hbw2⟩
end Go.Proofs.YtdfpdmddiapnmaaDoor

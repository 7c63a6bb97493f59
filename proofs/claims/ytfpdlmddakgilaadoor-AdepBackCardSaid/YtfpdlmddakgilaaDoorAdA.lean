/- Words of dependencies of Apk, in plain words. Walks of adep.Name, relation, check. -/
import Derived.Test.YtfpdlmddakgilaaDoorVerH
import Derived.Test.YtfpdlmddakgilaaDoorMem
import Derived.Deep.CutBlock
import Derived.Deep.DeepCutAuto
namespace Go.Proofs.YtfpdlmddakgilaaDoor
open Go.RowKit
/-- A word. -/
structure Wt where
  bar : Bool
  name : List UInt8
  op : Int
  ver : List UInt8
def oA : List UInt8 := [46, 95, 43, 45, 58, 47, 64]
def noA : List UInt8 := [45, 43, 58, 64]
def nmM (c : UInt8) : Bool := isLet c || (isDig c || inB oA c)
/-- Is that a name? -/
def anmB (s : List UInt8) : Bool := match s with
  | [] => false
  | c :: t => !decide (64 < (c :: t).length) && (!inB noA c && (c :: t).all nmM)
theorem allA_drop (p : UInt8 → Bool) (l : List UInt8) (k : Nat) (h : k < l.length) : (l.drop k).all p = (p l[k] && (l.drop (k + 1)).all p) := by
  rw [List.drop_eq_getElem_cons h, List.all_cons]
set_option maxRecDepth 20000 in
set_option maxHeartbeats 4000000 in
theorem aname_any (s : List UInt8) (w : World) (hs : s.length ≤ 1000000000) : Calls Tryd.prog 21 #[.string (bs s)] w fun e w' => e = .returned (.bool (anmB s)) ∧ w = w' := by
  cases s with
  | nil =>
    have n1 : (bs []).toList = [] := by rw [toList_bs]
    have n2 : (bs []).toList.isEmpty = true := by rw [n1]; rfl
    go_enter Tryd.func21, Tryd.ntmps21
    go_wp2_with fail
    go_ret
    exact ⟨rfl, rfl⟩
  | cons c t =>
    have hz : (bs (c :: t)).size = t.length + 1 := by rw [bs_size]; rfl
    have hpos : 0 < (bs (c :: t)).size := by omega
    have hb0 : (bs (c :: t))[0]'hpos = c := rfl
    have n1 : ¬ (bs (c :: t)).toList = [] := by rw [toList_bs]; simp
    have n2 : (bs (c :: t)).toList.isEmpty = false := by rw [toList_bs]; rfl
    have HV : Hid (anmB (c :: t) = (!decide (64 < (c :: t).length) && (!inB noA c && (c :: t).all nmM))) := Lib.hid rfl
    have hl : (c :: t).length = t.length + 1 := rfl
    generalize hs0 : c :: t = s at *
    have HS := Lib.hid hs0
    clear hs0
    by_cases h64 : 64 < s.length
    · have hd : decide ((64 : Int) < ((bs s).size : Int)) = true := by rw [bs_size]; simp; omega
      have HR : Hid (anmB s = false) := Lib.hid (by rw [HV.out, decide_eq_true h64]; rfl)
      clear h64 hz hl HV
      go_enter Tryd.func21, Tryd.ntmps21
      go_wp2_with fail
      go_ret
      exact ⟨by rw [HR.out]; rfl, rfl⟩
    · have hd : decide ((64 : Int) < ((bs s).size : Int)) = false := by rw [bs_size]; simp; omega
      have HR : Hid (anmB s = (!inB noA c && s.all nmM)) := Lib.hid (by rw [HV.out, decide_eq_false h64]; rfl)
      have HI : Hid (inB noA c = decide ((0 : Int) ≤ Lib.indexByte [45, 43, 58, 64] c)) := Lib.hid rfl
      clear HV h64
      clear hz hl
      go_enter Tryd.func21, Tryd.ntmps21
      go_wp2_with fail
      refine (ib ⟨#[45, 43, 58, 64]⟩ c _).mono ?_
      rintro e wq ⟨rfl, rfl⟩
      cases hi : decide ((0 : Int) ≤ Lib.indexByte [45, 43, 58, 64] c) with
      | true =>
        rw [hi] at HI
        go_wp2_with fail
        go_ret
        exact ⟨by rw [HR.out, HI.out]; rfl, rfl⟩
      | false =>
        rw [hi] at HI
        have HE0 : Hid (anmB s = (s.drop 0).all nmM) := Lib.hid (by rw [HR.out, HI.out]; rfl)
        clear HR HI hd
        go_wp2_with fail
        clear hi hb0 hpos
        have hz : ((bs s).size : Int) = (s.length : Int) := by rw [bs_size]
        go_loopg [21] s.length (fun g s21 wr => ∃ k : Nat, k ≤ s.length ∧ g = s.length - k ∧ s21 = .int .i64 k ∧ w = wr ∧ Hid (anmB s = (s.drop k).all nmM))
        case atStart => exact ⟨0, Nat.zero_le _, rfl, rfl, rfl, HE0⟩
        case round =>
          clear HE0
          obtain ⟨k, hk, rfl, rfl, rfl, HE⟩ := hrel
          by_cases hlt : k < s.length
          · have hks : (k : Int) < ((bs s).size : Int) := by omega
            have hks2 : k < (bs s).size := by rw [bs_size]; exact hlt
            obtain ⟨b, hb⟩ : ∃ b, b = s[k]'hlt := ⟨_, rfl⟩
            have HST : Hid (anmB s = (nmM b && (s.drop (k + 1)).all nmM)) := Lib.hid (by rw [HE.out, allA_drop nmM s k hlt, hb])
            have hbb : (bs s)[k]'hks2 = b := hb.symm
            clear hb HE
            go_upto_region 7 with fail
            go_cut [5] (fun s5 wx => s5 = .bool (isLet b) ∧ w = wx)
            case first =>
              have HG : Hid (isLet b = ((decide ((97 : Int) ≤ b.toNat) && decide ((b.toNat : Int) ≤ 122)) || (decide ((65 : Int) ≤ b.toNat) && decide ((b.toNat : Int) ≤ 90)))) := Lib.hid (by
                rw [isLet, isSmall, isBig, Bool.eq_iff_iff]; simp; omega)
              cases h1 : decide ((97 : Int) ≤ b.toNat) <;> cases h2 : decide ((b.toNat : Int) ≤ 122) <;> cases h3 : decide ((65 : Int) ≤ b.toNat) <;> cases h4 : decide ((b.toNat : Int) ≤ 90)
              all_goals
                rw [h1, h2, h3, h4] at HG
                go_wp2_with fail
                go_meet
                exact ⟨by rw [HG.out]; rfl, rfl⟩
            case rest =>
              obtain ⟨rfl, rfl⟩ := hcut
              have HM : Hid (nmM b = (isLet b || (isDig b || inB oA b))) := Lib.hid rfl
              cases hl : isLet b with
              | true =>
                rw [hl] at HM
                go_wp2_with fail
                go_roundg (s.length - (k + 1))
                case measure => omega
                case rel => exact ⟨k + 1, by omega, rfl, by go_num, rfl, Lib.hid (by rw [HST.out, HM.out]; rfl)⟩
              | false =>
                rw [hl] at HM
                by_cases hdg : isDig b = true
                · rw [hdg] at HM
                  have k1 : decide ((b.toNat : Int) < 48) = false := by simp only [isDig, Bool.and_eq_true, decide_eq_true_eq] at hdg; simp; omega
                  have k2 : decide ((57 : Int) < (b.toNat : Int)) = false := by simp only [isDig, Bool.and_eq_true, decide_eq_true_eq] at hdg; simp; omega
                  clear hdg
                  go_wp2_with fail
                  go_roundg (s.length - (k + 1))
                  case measure => omega
                  case rel => exact ⟨k + 1, by omega, rfl, by go_num, rfl, Lib.hid (by rw [HST.out, HM.out]; rfl)⟩
                · have hdf : isDig b = false := by simpa using hdg
                  rw [hdf] at HM
                  have HI : Hid (inB oA b = !decide (Lib.indexByte [46, 95, 43, 45, 58, 47, 64] b < 0)) := Lib.hid (by
                    rw [inB, Bool.eq_iff_iff]; simp [oA]; exact decide_eq_true_iff)
                  by_cases k1 : (b.toNat : Int) < 48
                  · have k1' : decide ((b.toNat : Int) < 48) = true := by simpa using k1
                    clear hdg hdf k1
                    go_wp2_with fail
                    refine (ib ⟨#[46, 95, 43, 45, 58, 47, 64]⟩ b _).mono ?_
                    rintro e wq ⟨rfl, rfl⟩
                    cases hi : decide (Lib.indexByte [46, 95, 43, 45, 58, 47, 64] b < 0) with
                    | true =>
                      rw [hi] at HI
                      go_wp2_with fail
                      go_ret
                      exact ⟨by rw [HST.out, HM.out, HI.out]; rfl, rfl⟩
                    | false =>
                      rw [hi] at HI
                      go_wp2_with fail
                      go_roundg (s.length - (k + 1))
                      case measure => omega
                      case rel => exact ⟨k + 1, by omega, rfl, by go_num, rfl, Lib.hid (by rw [HST.out, HM.out, HI.out]; rfl)⟩
                  · have k1' : decide ((b.toNat : Int) < 48) = false := by simpa using k1
                    have k2' : decide ((57 : Int) < (b.toNat : Int)) = true := by
                      simp only [isDig, Bool.and_eq_false_iff, decide_eq_false_iff_not] at hdf
                      simp; omega
                    clear hdg hdf k1
                    go_wp2_with fail
                    refine (ib ⟨#[46, 95, 43, 45, 58, 47, 64]⟩ b _).mono ?_
                    rintro e wq ⟨rfl, rfl⟩
                    cases hi : decide (Lib.indexByte [46, 95, 43, 45, 58, 47, 64] b < 0) with
                    | true =>
                      rw [hi] at HI
                      go_wp2_with fail
                      go_ret
                      exact ⟨by rw [HST.out, HM.out, HI.out]; rfl, rfl⟩
                    | false =>
                      rw [hi] at HI
                      go_wp2_with fail
                      go_roundg (s.length - (k + 1))
                      case measure => omega
                      case rel => exact ⟨k + 1, by omega, rfl, by go_num, rfl, Lib.hid (by rw [HST.out, HM.out, HI.out]; rfl)⟩
          · obtain rfl : k = s.length := by omega
            go_wp2_with fail
            go_ret
            exact ⟨by rw [HE.out, List.drop_length]; rfl, rfl⟩
end Go.Proofs.YtfpdlmddakgilaaDoor
namespace Go.Proofs.YtfpdlmddakgilaaDoor
open Go.RowKit
/-- strings.CutPrefix. -/
theorem cutP (q p : List UInt8) (w : World) : Calls Tryd.prog 19 #[.string (bs q), .string (bs p)] w fun e w' => e = .returned (.tuple #[.string (bs (if p.isPrefixOf q = true then q.drop p.length else q)), .bool (p.isPrefixOf q)]) ∧ w = w' :=
  (Tryd.strings_CutPrefix _ _ w).mono fun e w' ⟨h1, h2⟩ => ⟨by
    rw [h1, bs_list, bs_list]
    simp only [Lib.trimPrefix, Lib.hasPrefix]
    rfl, h2.symm⟩
def signsA : List (List UInt8) := [[], [60], [60, 61], [61], [62, 61], [62], [126]]
/-- The table of relations, as its initialiser lays it. -/
def SignsA (w : World) : Prop := ∀ i, i < 7 → w.cell? ⟨0, i, none⟩ = some (.string (bs (signsA.getD i [])))
theorem SignsA.below {w w' : World} (h : SignsA w) (hb : Below w.heap.size w w') : SignsA w' := fun i hi => by
  have := h i hi
  rw [hb.cell (p := ⟨0, i, none⟩) (lt_of_cell this)]
  exact this
def relStep (s : List UInt8) (i : Int) (p : List UInt8) (a : Int × List UInt8) : Int × List UInt8 :=
  if p.isPrefixOf s = true then (if (s.drop p.length).length < a.2.length then (i, s.drop p.length) else a) else a
def relS (s : List UInt8) : Nat → Int × List UInt8
  | 0 => (0, s)
  | k + 1 => relStep s k (signsA.getD k []) (relS s k)
/-- The relation ahead, and what is behind it. -/
def aRel (s : List UInt8) : Int × List UInt8 := match s with
  | 60 :: 61 :: t => (2, t)
  | 60 :: t => (1, t)
  | 61 :: t => (3, t)
  | 62 :: 61 :: t => (4, t)
  | 62 :: t => (5, t)
  | 126 :: t => (6, t)
  | t => (0, t)
theorem relS_len (s : List UInt8) (k : Nat) : (relS s k).2.length ≤ s.length := by
  induction k with
  | zero => exact Nat.le_refl _
  | succ k ih =>
    unfold relS relStep
    split
    · split
      · simp
      · exact ih
    · exact ih
theorem relS_is (s : List UInt8) : relS s 7 = aRel s := by
  match s with
  | [] => rfl
  | [c] =>
    by_cases h1 : c = 60
    · subst h1; rfl
    by_cases h2 : c = 61
    · subst h2; rfl
    by_cases h3 : c = 62
    · subst h3; rfl
    by_cases h4 : c = 126
    · subst h4; rfl
    have e1 : ¬ 60 = c := fun e => h1 e.symm
    have e2 : ¬ 61 = c := fun e => h2 e.symm
    have e3 : ¬ 62 = c := fun e => h3 e.symm
    have e4 : ¬ 126 = c := fun e => h4 e.symm
    have ha : aRel [c] = (0, [c]) := by
      unfold aRel
      split <;> simp_all
    rw [ha]
    simp [relS, relStep, signsA, List.isPrefixOf, e1, e2, e3, e4]
  | c :: d :: t =>
    by_cases h1 : c = 60
    · subst h1
      by_cases hd : d = 61
      · subst hd; simp [relS, relStep, signsA, List.isPrefixOf, aRel]
      · have hd' : ¬ 61 = d := fun e => hd e.symm
        have ha : aRel (60 :: d :: t) = (1, d :: t) := by
          unfold aRel
          split <;> simp_all
        rw [ha]
        simp [relS, relStep, signsA, List.isPrefixOf, hd']
    by_cases h2 : c = 61
    · subst h2; simp [relS, relStep, signsA, List.isPrefixOf, aRel]
    by_cases h3 : c = 62
    · subst h3
      by_cases hd : d = 61
      · subst hd
        have hq : t.length < t.length + 1 + 1 := by omega
        simp [relS, relStep, signsA, List.isPrefixOf, aRel, hq]
      · have hd' : ¬ 61 = d := fun e => hd e.symm
        have ha : aRel (62 :: d :: t) = (5, d :: t) := by
          unfold aRel
          split <;> simp_all
        rw [ha]
        simp [relS, relStep, signsA, List.isPrefixOf, hd']
    by_cases h4 : c = 126
    · subst h4; simp [relS, relStep, signsA, List.isPrefixOf, aRel]
    have e1 : ¬ 60 = c := fun e => h1 e.symm
    have e2 : ¬ 61 = c := fun e => h2 e.symm
    have e3 : ¬ 62 = c := fun e => h3 e.symm
    have e4 : ¬ 126 = c := fun e => h4 e.symm
    have ha : aRel (c :: d :: t) = (0, c :: d :: t) := by
      unfold aRel
      split <;> simp_all
    rw [ha]
    simp [relS, relStep, signsA, List.isPrefixOf, e1, e2, e3, e4]
set_option maxRecDepth 20000 in
set_option maxHeartbeats 8000000 in
theorem relation_any (s : List UInt8) (w : World) (hs : s.length ≤ 1000000000) (hw : SignsA w) :
    Calls Tryd.prog 22 #[.string (bs s)] w fun e w' => e = .returned (.tuple #[.int .i64 (aRel s).1, .string (bs (aRel s).2)]) ∧ w = w' := by
  have c0 : w.cell? ⟨0, 0, none⟩ = some (.string (bs [])) := hw 0 (by omega)
  have c1 : w.cell? ⟨0, 1, none⟩ = some (.string (bs [60])) := hw 1 (by omega)
  have c2 : w.cell? ⟨0, 2, none⟩ = some (.string (bs [60, 61])) := hw 2 (by omega)
  have c3 : w.cell? ⟨0, 3, none⟩ = some (.string (bs [61])) := hw 3 (by omega)
  have c4 : w.cell? ⟨0, 4, none⟩ = some (.string (bs [62, 61])) := hw 4 (by omega)
  have c5 : w.cell? ⟨0, 5, none⟩ = some (.string (bs [62])) := hw 5 (by omega)
  have c6 : w.cell? ⟨0, 6, none⟩ = some (.string (bs [126])) := hw 6 (by omega)
  rw [← relS_is]
  go_enter Tryd.func22, Tryd.ntmps22
  go_wp2_with fail
  go_loopg [4, 5, 12] 7 (fun g s4 s5 s12 wr => ∃ k : Nat, k ≤ 7 ∧ g = 7 - k ∧ s12 = .int .i64 k ∧ w = wr ∧ s4 = .int .i64 (relS s k).1 ∧ s5 = .string (bs (relS s k).2))
  case atStart => exact ⟨0, Nat.zero_le _, rfl, rfl, rfl, rfl, rfl⟩
  case round =>
    obtain ⟨k, hk, rfl, rfl, rfl, rfl, rfl⟩ := hrel
    have hrl := relS_len s k
    by_cases hlt : k < 7
    · have ix : ∀ W : World, (Instr.index 49 (.agg #[.string (bs []), .string (bs [60]), .string (bs [60, 61]), .string (bs [61]), .string (bs [62, 61]), .string (bs [62]), .string (bs [126])]) (.int .i64 (k : Int))).run Tryd.prog W = .ok (.string (bs (signsA.getD k []))) W := by
        intro W
        obtain rfl | rfl | rfl | rfl | rfl | rfl | rfl : k = 0 ∨ k = 1 ∨ k = 2 ∨ k = 3 ∨ k = 4 ∨ k = 5 ∨ k = 6 := by omega
        all_goals kernel_rfl
      have HN : Hid (relS s (k + 1) = relStep s k (signsA.getD k []) (relS s k)) := Lib.hid rfl
      have hpl : (signsA.getD k []).length ≤ 2 := by
        obtain rfl | rfl | rfl | rfl | rfl | rfl | rfl : k = 0 ∨ k = 1 ∨ k = 2 ∨ k = 3 ∨ k = 4 ∨ k = 5 ∨ k = 6 := by omega
        all_goals decide
      generalize signsA.getD k [] = p at ix HN hpl
      obtain ⟨a, Ha⟩ : ∃ a, Hid (relS s k = a) := ⟨_, Lib.hid rfl⟩
      rw [Ha.out] at hrl HN
      rw [Ha.out]
      obtain ⟨op, beh⟩ := a
      have zb : ((bs beh).size : Int) = (beh.length : Int) := by rw [bs_size]
      go_wp2_with fail
      refine (cutP s p _).mono ?_
      rintro e wq ⟨rfl, rfl⟩
      cases hp : p.isPrefixOf s with
      | false =>
        have HR : Hid (relS s (k + 1) = (op, beh)) := Lib.hid (by rw [HN.out, relStep, hp]; rfl)
        rw [if_neg (by simp)]
        go_wp2_with fail
        go_roundg (7 - (k + 1))
        case measure => omega
        case rel => exact ⟨k + 1, by omega, rfl, by go_num, rfl, by rw [HR.out], by rw [HR.out]⟩
      | true =>
        have HR : Hid (relS s (k + 1) = if (s.drop p.length).length < beh.length then ((k : Int), s.drop p.length) else (op, beh)) := Lib.hid (by rw [HN.out, relStep, if_pos hp])
        have hdl : (s.drop p.length).length ≤ s.length := by simp
        rw [if_pos rfl]
        generalize s.drop p.length = tl at HR hdl
        have zt : ((bs tl).size : Int) = (tl.length : Int) := by rw [bs_size]
        by_cases hlt2 : tl.length < beh.length
        · have hd : (bs tl).size < (bs beh).size := by omega
          have HR2 : Hid (relS s (k + 1) = ((k : Int), tl)) := Lib.hid (by rw [HR.out, if_pos hlt2])
          clear hlt2 zb zt
          go_wp2_with fail
          go_roundg (7 - (k + 1))
          case measure => omega
          case rel => exact ⟨k + 1, by omega, rfl, by go_num, rfl, by rw [HR2.out], by rw [HR2.out]⟩
        · have hd : ¬ (bs tl).size < (bs beh).size := by omega
          have HR2 : Hid (relS s (k + 1) = (op, beh)) := Lib.hid (by rw [HR.out, if_neg hlt2])
          clear hlt2 zb zt
          go_wp2_with fail
          go_roundg (7 - (k + 1))
          case measure => omega
          case rel => exact ⟨k + 1, by omega, rfl, by go_num, rfl, by rw [HR2.out], by rw [HR2.out]⟩
    · obtain rfl : k = 7 := by omega
      go_wp2_with fail
      go_ret2
      exact ⟨rfl, rfl⟩
def aOpBad (t : Wt) : Bool := (decide (t.op < 0) || decide (6 < t.op)) || (decide (t.op = 0) && !t.ver.isEmpty)
/-- What is wrong with a word. -/
def wErr (t : Wt) : Int := if anmB t.name = true then (if aOpBad t = true then 1 else if t.op = 0 then 0 else vErr 3 t.ver) else 10
set_option maxRecDepth 20000 in
set_option maxHeartbeats 8000000 in
theorem acheck_any (t : Wt) (w : World) (s1 : t.name.length ≤ 1000000) (s2 : t.ver.length ≤ 1000000) (hw : Words w) :
    Calls Tryd.prog 26 #[.agg #[.string (bs t.name), .int .i64 t.op, .string (bs t.ver)]] w fun e w' => e = .returned (.int .i64 (wErr t)) ∧ Below w.heap.size w w' := by
  have bT : Blk (w.alloc (.cells #[.string (bs t.name), .int .i64 t.op, .string (bs t.ver)] 38)) w.heap.size 38 #[.string (bs t.name), .int .i64 t.op, .string (bs t.ver)] := Blk.new w _ _
  have hb1 : Below w.heap.size w (w.alloc (.cells #[.string (bs t.name), .int .i64 t.op, .string (bs t.ver)] 38)) := (Below.refl _ _).alloc (Nat.le_refl _) _
  have hw1 := hw.below hb1
  go_enter Tryd.func26, Tryd.ntmps26
  go_upto_region 1 with fail
  generalize w.alloc (.cells #[.string (bs t.name), .int .i64 t.op, .string (bs t.ver)] 38) = w1 at bT hb1 hw1 ⊢
  have d0 := Blk.cell bT 0
  have d1 := Blk.cell bT 1
  have d2 := Blk.cell bT 2
  simp at d0 d1 d2
  clear hw
  have HT : Hid (wErr t = if anmB t.name = true then (if aOpBad t = true then 1 else if t.op = 0 then 0 else vErr 3 t.ver) else 10) := Lib.hid rfl
  go_wp2_with fail
  refine (aname_any t.name _ (by omega)).mono ?_
  rintro e wq ⟨rfl, rfl⟩
  cases hnb : anmB t.name with
  | false =>
    have HV : Hid (wErr t = 10) := Lib.hid (by rw [HT.out, hnb]; rfl)
    clear HT
    go_wp2_with fail
    go_ret
    exact ⟨by rw [HV.out]; rfl, hb1⟩
  | true =>
    have HT2 : Hid (wErr t = if aOpBad t = true then 1 else if t.op = 0 then 0 else vErr 3 t.ver) := Lib.hid (by rw [HT.out, if_pos hnb])
    have HO : Hid (aOpBad t = ((decide (t.op < 0) || decide (6 < t.op)) || (decide (t.op = 0) && !t.ver.isEmpty))) := Lib.hid rfl
    clear HT hnb
    obtain ⟨o, Ho⟩ : ∃ o, Hid (t.op = o) := ⟨_, Lib.hid rfl⟩
    rw [Ho.out] at d1 HT2 HO
    by_cases h1 : o < 0
    · have b1 : decide (o < 0) = true := by simpa using h1
      have HV : Hid (wErr t = 1) := Lib.hid (by rw [HT2.out, if_pos (by rw [HO.out, b1]; rfl)])
      go_wp2_with fail
      go_ret
      exact ⟨by rw [HV.out]; rfl, hb1⟩
    · have b1 : decide (o < 0) = false := by simpa using h1
      by_cases h5 : 6 < o
      · have b5 : decide (6 < o) = true := by simpa using h5
        have HV : Hid (wErr t = 1) := Lib.hid (by rw [HT2.out, if_pos (by rw [HO.out, b5]; simp)])
        go_wp2_with fail
        go_ret
        exact ⟨by rw [HV.out]; rfl, hb1⟩
      · have b5 : decide (6 < o) = false := by simpa using h5
        by_cases h0 : o = 0
        · by_cases hv : t.ver = []
          · have HV : Hid (wErr t = 0) := Lib.hid (by rw [HT2.out, if_neg (by rw [HO.out, b1, b5, hv]; simp), if_pos h0])
            have n1 : (bs t.ver).toList = [] := by rw [toList_bs]; exact hv
            have n2 : (bs t.ver).toList.isEmpty = true := by rw [n1]; rfl
            subst h0
            clear hv
            go_wp2_with fail
            go_ret
            exact ⟨by rw [HV.out]; rfl, hb1⟩
          · have n1 : ¬ (bs t.ver).toList = [] := by rw [toList_bs]; exact hv
            have n2 : (bs t.ver).toList.isEmpty = false := by simpa using n1
            have HV : Hid (wErr t = 1) := Lib.hid (by rw [HT2.out, if_pos (by rw [HO.out, h0]; simp [hv])])
            subst h0
            clear hv
            go_wp2_with fail
            go_ret
            exact ⟨by rw [HV.out]; rfl, hb1⟩
        · have b0 : (o == 0) = false := by simpa using h0
          have HV : Hid (wErr t = vErr 3 t.ver) := Lib.hid (by rw [HT2.out, if_neg (by rw [HO.out, b1, b5]; simp [h0]), if_neg h0])
          clear h0 h1 h5
          go_wp2_with fail
          refine (check_any 3 t.ver _ (by omega) hw1).mono ?_
          rintro e w2 ⟨rfl, hb2⟩
          go_wp2_with fail
          go_ret
          exact ⟨by rw [HV.out]; rfl, below_trans hb1 hb2⟩
end Go.Proofs.YtfpdlmddakgilaaDoor

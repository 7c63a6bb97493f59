/- Walks of ddep's check and of strings.Join on a slice of texts. Walks of ddep's text. The walk of ddep.Check. The walk of ddep.Print. -/
import Derived.Test.YtdnncbhbajciaaaDoorDdF
import Derived.Test.YtdnncbhbajciaaaDoorShelfJ
import Derived.Lib.Join
namespace Go.Proofs.YtdnncbhbajciaaaDoor
open Go.RowKit
theorem join_any (X : Nat → Prop) (v : Value) (l : List (List UInt8)) (sep : List UInt8) (w : World) (h : Sl 1 Rtext X w v l) (hj : (Lib.join l sep).length ≤ 140737488355328) (hl : l.length ≤ 140737488355328) :
    Calls Tryd.prog 48 #[v, .string (bs sep)] w fun e w' => e = .returned (.string (bs (Lib.join l sep))) ∧ Below w.heap.size w w' := by
  obtain ⟨A, cap, rfl, h1, h2⟩ := h.form
  rcases Nat.eq_zero_or_pos l.length with h0 | h0
  · have : l = [] := List.eq_nil_of_length_eq_zero h0
    subst this
    exact (Tryd.strings_Join_none A cap (bs sep) w).mono fun e w' ⟨a, b⟩ => ⟨by rw [a]; rfl, by rw [b]; exact Below.refl _ _⟩
  · obtain ⟨_, _, _, b, off, rfl, hc⟩ := h.text h0
    have hb : b < w.heap.size := lt_of_cell (hc 0 h0)
    have e1 : (l.map bs).map (·.data.toList) = l := by simp [Function.comp_def, bs_list]
    have := Tryd.strings_Join b off cap (l.map bs) (bs sep) w (fun j x hx => by
      have hjl : j < l.length := by have := (List.getElem?_eq_some_iff.1 hx).1; simpa using this
      rw [hc j hjl]
      have : (l.map bs)[j]? = some (bs l[j]) := by simp [hjl]
      rw [this] at hx
      injection hx with hx
      rw [hx]) hb (by simpa using hl) (by simpa using h1) (by rw [e1]; exact hj)
    rw [e1, List.length_map] at this
    exact this
def bareW (a : List UInt8) : List UInt8 := match a with
  | 33 :: t => t
  | a => a
theorem tpre (a : List UInt8) (w : World) : Calls Tryd.prog 88 #[.string (bs a), .string ⟨#[33]⟩] w fun e w' => e = .returned (.string (bs (bareW a))) ∧ w = w' :=
  (Tryd.strings_TrimPrefix _ _ w).mono fun e w' ⟨h1, h2⟩ => ⟨by
    rw [h1, bs_list, show (ByteArray.mk #[33]).data.toList = [33] from rfl]
    have : Lib.trimPrefix a [33] = bareW a := by
      cases a with
      | nil => rfl
      | cons c t =>
        by_cases hc : c = 33
        · subst hc; simp [Lib.trimPrefix, Lib.hasPrefix, List.isPrefixOf, bareW]
        · have h' : ¬ 33 = c := fun e => hc e.symm
          have : bareW (c :: t) = c :: t := by
            unfold bareW
            split
            · rename_i e; injection e with e; exact absurd e hc
            · rfl
          rw [this]
          simp [Lib.trimPrefix, Lib.hasPrefix, List.isPrefixOf, h']
    rw [this]; rfl, h2.symm⟩
def nmBad (t : Tm) : Bool := !nameB t.name || (!t.qual.isEmpty && !wordB t.qual)
def arBad (l : List (List UInt8)) : Bool := l.any (fun a => !wordB (bareW a))
def opBad (t : Tm) : Bool := (decide (t.op < 0) || decide (5 < t.op)) || (decide (t.op = 0) && !t.ver.isEmpty)
/-- What is wrong with a term. -/
def tErr (t : Tm) : Int := if nmBad t = true then 10 else if arBad t.archs = true then 10 else if opBad t = true then 1 else if t.op = 0 then 0 else vErr 1 t.ver
def tmV (t : Tm) (v : Value) : Value := .agg #[.string (bs t.name), .int .i64 t.op, .string (bs t.ver), .string (bs t.qual), v]
/-- A term that is not too long to be looked at. -/
def TmS (t : Tm) : Prop := t.name.length ≤ 1000000 ∧ t.ver.length ≤ 1000000 ∧ t.qual.length ≤ 1000000 ∧ t.archs.length ≤ 1000000 ∧ ∀ a ∈ t.archs, a.length ≤ 1000000
theorem bareW_len (a : List UInt8) : (bareW a).length ≤ a.length := by
  unfold bareW; split <;> simp
theorem any_drop (l : List (List UInt8)) (p : List UInt8 → Bool) (k : Nat) (h : k < l.length) : (l.drop k).any p = (p l[k] || (l.drop (k + 1)).any p) := by
  rw [List.drop_eq_getElem_cons h, List.any_cons]
set_option maxRecDepth 20000 in
set_option maxHeartbeats 8000000 in
theorem tcheck_any (t : Tm) (v : Value) (X : Nat → Prop) (w : World) (hsl : Sl 1 Rtext X w v t.archs) (hS : TmS t) (hw : Words w) :
    Calls Tryd.prog 50 #[tmV t v] w fun e w' => e = .returned (.int .i64 (tErr t)) ∧ Below w.heap.size w w' := by
  obtain ⟨A, cap, rfl, hc1, hc2⟩ := hsl.form
  obtain ⟨s1, s2, s3, s4, s5⟩ := hS
  unfold maxLen at hc2
  have bT : TB (w.alloc (.cells #[.string (bs t.name), .int .i64 t.op, .string (bs t.ver), .string (bs t.qual), .slice A t.archs.length cap] 50)) w.heap.size t.name t.op t.ver t.qual (.slice A t.archs.length cap) := Blk.new w _ _
  have hb1 : Below w.heap.size w (w.alloc (.cells #[.string (bs t.name), .int .i64 t.op, .string (bs t.ver), .string (bs t.qual), .slice A t.archs.length cap] 50)) := (Below.refl _ _).alloc (Nat.le_refl _) _
  have hw1 := hw.below hb1
  have hsl1 := hsl.keep good_text (Kept.of_below hb1 X)
  show Calls Tryd.prog 50 #[.agg #[.string (bs t.name), .int .i64 t.op, .string (bs t.ver), .string (bs t.qual), .slice A t.archs.length cap]] w _
  go_enter Tryd.func50, Tryd.ntmps50
  go_upto_region 1 with fail
  generalize w.alloc (.cells #[.string (bs t.name), .int .i64 t.op, .string (bs t.ver), .string (bs t.qual), .slice A t.archs.length cap] 50) = w1 at bT hb1 hw1 hsl1 ⊢
  obtain ⟨d0, d1, d2, d3, d4⟩ := TB.cells bT
  clear hsl hw
  go_cut [20] (fun s20 wx => s20 = .bool (nmBad t) ∧ w1 = wx)
  case first =>
    go_wp2_with fail
    refine (dname_any t.name _ (by omega)).mono ?_
    rintro e wq ⟨rfl, rfl⟩
    have HN : Hid (nmBad t = (!nameB t.name || (!t.qual.isEmpty && !wordB t.qual))) := Lib.hid rfl
    cases hn : nameB t.name with
    | false =>
      go_wp2_with fail
      go_meet
      exact ⟨by rw [HN.out, hn]; rfl, rfl⟩
    | true =>
      by_cases hq : t.qual = []
      · have n1 : (bs t.qual).toList = [] := by rw [toList_bs]; exact hq
        have n2 : (bs t.qual).toList.isEmpty = true := by rw [n1]; rfl
        have HQ := Lib.hid hq
        clear hq
        go_wp2_with fail
        go_meet
        exact ⟨by rw [HN.out, hn, HQ.out]; rfl, rfl⟩
      · have n1 : ¬ (bs t.qual).toList = [] := by rw [toList_bs]; exact hq
        have n2 : (bs t.qual).toList.isEmpty = false := by simpa using n1
        have HQ : Hid (t.qual.isEmpty = false) := Lib.hid (by simpa using hq)
        clear hq
        go_wp2_with fail
        refine (dword_any t.qual _ (by omega)).mono ?_
        rintro e wq ⟨rfl, rfl⟩
        go_wp2_with fail
        go_meet
        exact ⟨by rw [HN.out, hn, HQ.out]; rfl, rfl⟩
  case rest =>
    obtain ⟨rfl, rfl⟩ := hcut
    have HT : Hid (tErr t = if nmBad t = true then 10 else if arBad t.archs = true then 10 else if opBad t = true then 1 else if t.op = 0 then 0 else vErr 1 t.ver) := Lib.hid rfl
    cases hnb : nmBad t with
    | true =>
      have HV : Hid (tErr t = 10) := Lib.hid (by rw [HT.out, if_pos hnb])
      clear HT
      go_wp2_with fail
      go_ret
      exact ⟨by rw [HV.out]; rfl, hb1⟩
    | false =>
      have HT2 : Hid (tErr t = if arBad t.archs = true then 10 else if opBad t = true then 1 else if t.op = 0 then 0 else vErr 1 t.ver) := Lib.hid (by rw [HT.out, if_neg (by rw [hnb]; simp)])
      clear HT hnb
      go_wp2_with fail
      go_loopg [24] t.archs.length (fun G s24 wr => ∃ k : Nat, k ≤ t.archs.length ∧ G = t.archs.length - k ∧ s24 = .int .i64 k ∧ w1 = wr ∧ Hid (arBad t.archs = arBad (t.archs.drop k)))
      case atStart => exact ⟨0, Nat.zero_le _, rfl, rfl, rfl, Lib.hid rfl⟩
      case round =>
        obtain ⟨k, hk, rfl, rfl, rfl, HE⟩ := hrel
        by_cases hlt : k < t.archs.length
        · obtain ⟨_, _, _, b, off, rfl, hc⟩ := hsl1.text (by omega)
          have ck := hc k hlt
          have ha := s5 _ (List.getElem_mem hlt)
          have HST := Lib.hid (any_drop t.archs (fun a => !wordB (bareW a)) k hlt)
          have HC := Lib.hid hc
          have HS5 := Lib.hid s5
          clear hc s5
          generalize t.archs[k] = a at ck ha HST
          have hbw := bareW_len a
          go_wp2_with fail
          refine (tpre a _).mono ?_
          rintro e wq ⟨rfl, rfl⟩
          go_wp2_with fail
          refine (dword_any (bareW a) _ (by omega)).mono ?_
          rintro e wq ⟨rfl, rfl⟩
          cases hwb : wordB (bareW a) with
          | true =>
            go_wp2_with fail
            go_roundg (t.archs.length - (k + 1))
            case measure => omega
            case rel => exact ⟨k + 1, by omega, rfl, by go_num, rfl, Lib.hid (by rw [HE.out, arBad, HST.out, hwb]; rfl)⟩
          | false =>
            have HV : Hid (tErr t = 10) := Lib.hid (by rw [HT2.out, if_pos (by rw [HE.out, arBad, HST.out, hwb]; rfl)])
            go_wp2_with fail
            go_ret
            exact ⟨by rw [HV.out]; rfl, hb1⟩
        · obtain rfl : k = t.archs.length := by omega
          have HT3 : Hid (tErr t = if opBad t = true then 1 else if t.op = 0 then 0 else vErr 1 t.ver) := Lib.hid (by rw [HT2.out, if_neg (by rw [HE.out, List.drop_length]; simp [arBad])])
          have HO : Hid (opBad t = ((decide (t.op < 0) || decide (5 < t.op)) || (decide (t.op = 0) && !t.ver.isEmpty))) := Lib.hid rfl
          clear HT2 HE
          obtain ⟨o, Ho⟩ : ∃ o, Hid (t.op = o) := ⟨_, Lib.hid rfl⟩
          rw [Ho.out] at d1 HT3 HO
          by_cases h1 : o < 0
          · have b1 : decide (o < 0) = true := by simpa using h1
            have HV : Hid (tErr t = 1) := Lib.hid (by rw [HT3.out, if_pos (by rw [HO.out, b1]; rfl)])
            go_wp2_with fail
            go_ret
            exact ⟨by rw [HV.out]; rfl, hb1⟩
          · have b1 : decide (o < 0) = false := by simpa using h1
            by_cases h5 : 5 < o
            · have b5 : decide (5 < o) = true := by simpa using h5
              have HV : Hid (tErr t = 1) := Lib.hid (by rw [HT3.out, if_pos (by rw [HO.out, b5]; simp)])
              go_wp2_with fail
              go_ret
              exact ⟨by rw [HV.out]; rfl, hb1⟩
            · have b5 : decide (5 < o) = false := by simpa using h5
              by_cases h0 : o = 0
              · by_cases hv : t.ver = []
                · have HV : Hid (tErr t = 0) := Lib.hid (by rw [HT3.out, if_neg (by rw [HO.out, b1, b5, hv]; simp), if_pos h0])
                  have n1 : (bs t.ver).toList = [] := by rw [toList_bs]; exact hv
                  have n2 : (bs t.ver).toList.isEmpty = true := by rw [n1]; rfl
                  subst h0
                  clear hv
                  go_wp2_with fail
                  go_ret
                  exact ⟨by rw [HV.out]; rfl, hb1⟩
                · have n1 : ¬ (bs t.ver).toList = [] := by rw [toList_bs]; exact hv
                  have n2 : (bs t.ver).toList.isEmpty = false := by simpa using n1
                  have HV : Hid (tErr t = 1) := Lib.hid (by rw [HT3.out, if_pos (by rw [HO.out, h0]; simp [hv])])
                  subst h0
                  clear hv
                  go_wp2_with fail
                  go_ret
                  exact ⟨by rw [HV.out]; rfl, hb1⟩
              · have b0 : (o == 0) = false := by simpa using h0
                have HV : Hid (tErr t = vErr 1 t.ver) := Lib.hid (by rw [HT3.out, if_neg (by rw [HO.out, b1, b5]; simp [h0]), if_neg h0])
                clear h0 h1 h5
                go_wp2_with fail
                refine (check_any 1 t.ver _ (by omega) hw1).mono ?_
                rintro e w2 ⟨rfl, hb2⟩
                go_wp2_with fail
                go_ret
                exact ⟨by rw [HV.out]; rfl, below_trans hb1 hb2⟩
end Go.Proofs.YtdnncbhbajciaaaDoor
namespace Go.Proofs.YtdnncbhbajciaaaDoor
open Go.RowKit
def signsL : List (List UInt8) := [[], [60, 60], [60, 61], [61], [62, 61], [62, 62]]
/-- The table of relations, as its initialiser lays it. -/
def Signs (w : World) : Prop := ∀ i, i < 6 → w.cell? ⟨1, i, none⟩ = some (.string (bs (signsL.getD i [])))
theorem Signs.below {w w' : World} (h : Signs w) (hb : Below w.heap.size w w') : Signs w' := fun i hi => by
  have := h i hi
  rw [hb.cell (p := ⟨1, i, none⟩) (lt_of_cell this)]
  exact this
def qualT (q : List UInt8) : List UInt8 := if q = [] then [] else 58 :: q
def relT (op : Int) (ver : List UInt8) : List UInt8 := if op = 0 then [] else [32, 40] ++ (signsL.getD op.toNat [] ++ (32 :: (ver ++ [41])))
def archT (l : List (List UInt8)) : List UInt8 := if l = [] then [] else [32, 91] ++ (Lib.join l [32] ++ [93])
/-- A term as it is written. -/
def termT (t : Tm) : List UInt8 := t.name ++ (qualT t.qual ++ (relT t.op t.ver ++ archT t.archs))
set_option maxRecDepth 20000 in
set_option maxHeartbeats 8000000 in
theorem text_any (t : Tm) (v : Value) (X : Nat → Prop) (w : World) (hsl : Sl 1 Rtext X w v t.archs) (hS : TmS t) (hop : 0 ≤ t.op ∧ t.op ≤ 5) (hj : (Lib.join t.archs [32]).length ≤ 1000000000) (hw : Signs w) :
    Calls Tryd.prog 47 #[tmV t v] w fun e w' => e = .returned (.string (bs (termT t))) ∧ Below w.heap.size w w' := by
  obtain ⟨A, cap, rfl, hc1, hc2⟩ := hsl.form
  obtain ⟨s1, s2, s3, s4, s5⟩ := hS
  unfold maxLen at hc2
  have bT : TB (w.alloc (.cells #[.string (bs t.name), .int .i64 t.op, .string (bs t.ver), .string (bs t.qual), .slice A t.archs.length cap] 50)) w.heap.size t.name t.op t.ver t.qual (.slice A t.archs.length cap) := Blk.new w _ _
  have hb1 : Below w.heap.size w (w.alloc (.cells #[.string (bs t.name), .int .i64 t.op, .string (bs t.ver), .string (bs t.qual), .slice A t.archs.length cap] 50)) := (Below.refl _ _).alloc (Nat.le_refl _) _
  have hw1 := hw.below hb1
  have hsl1 := hsl.keep good_text (Kept.of_below hb1 X)
  have HT : Hid (termT t = t.name ++ (qualT t.qual ++ (relT t.op t.ver ++ archT t.archs))) := Lib.hid rfl
  show Calls Tryd.prog 47 #[.agg #[.string (bs t.name), .int .i64 t.op, .string (bs t.ver), .string (bs t.qual), .slice A t.archs.length cap]] w _
  go_enter Tryd.func47, Tryd.ntmps47
  go_upto_if 9 with fail
  generalize w.alloc (.cells #[.string (bs t.name), .int .i64 t.op, .string (bs t.ver), .string (bs t.qual), .slice A t.archs.length cap] 50) = w1 at bT hb1 hw1 hsl1 ⊢
  obtain ⟨d0, d1, d2, d3, d4⟩ := TB.cells bT
  clear hsl hw
  go_cut [3] (fun s3 wx => s3 = .string (bs (t.name ++ qualT t.qual)) ∧ w1 = wx)
  case first =>
    by_cases hq : t.qual = []
    · have n1 : (bs t.qual).toList = [] := by rw [toList_bs]; exact hq
      have n2 : (bs t.qual).toList.isEmpty = true := by rw [n1]; rfl
      have HQ : Hid (t.name ++ qualT t.qual = t.name) := Lib.hid (by rw [qualT, if_pos hq, List.append_nil])
      rw [n2]
      clear hq n1 n2
      go_wp2_with fail
      go_meet
      rw [HQ.out]
      exact ⟨rfl, rfl⟩
    · have n1 : ¬ (bs t.qual).toList = [] := by rw [toList_bs]; exact hq
      have n2 : (bs t.qual).toList.isEmpty = false := by simpa using n1
      have HQ : Hid (qualT t.qual = 58 :: t.qual) := Lib.hid (by rw [qualT, if_neg hq])
      have hcat := bs_app
      have hsz := bs_size
      have r1 : ∀ q, (⟨#[58]⟩ : ByteArray) ++ bs q = bs (58 :: q) := fun q => bs_app [58] q
      rw [n2]
      clear hq n1 n2
      go_wp2_with fail
      go_meet
      rw [HQ.out]
      exact ⟨rfl, rfl⟩
  case rest =>
    obtain ⟨rfl, rfl⟩ := hcut
    have hql : (qualT t.qual).length ≤ 1000001 := by unfold qualT; split <;> simp <;> omega
    generalize qualT t.qual = ql at HT hql
    obtain ⟨op, Hop⟩ : ∃ o, Hid (t.op = o) := ⟨_, Lib.hid rfl⟩
    rw [Hop.out] at HT hop d1
    go_upto_if 18 with fail
    go_cut [3] (fun s3 wx => s3 = .string (bs (t.name ++ ql ++ relT op t.ver)) ∧ Below w.heap.size w wx ∧ Below w1.heap.size w1 wx)
    case first =>
      by_cases h0 : op = 0
      · have HR : Hid (relT op t.ver = []) := Lib.hid (by rw [relT, if_pos h0])
        subst h0
        go_wp2_with fail
        go_meet
        rw [HR.out, List.append_nil]
        exact ⟨rfl, hb1, Below.refl _ _⟩
      · obtain ⟨i, rfl⟩ := Int.eq_ofNat_of_zero_le hop.1
        have hi6 : i < 6 := by omega
        have ci := hw1 i hi6
        have HR : Hid (relT (i : Int) t.ver = [32, 40] ++ (signsL.getD i [] ++ (32 :: (t.ver ++ [41])))) := Lib.hid (by rw [relT, if_neg h0]; rfl)
        have hsl2 : (signsL.getD i []).length ≤ 2 := by
          obtain rfl | rfl | rfl | rfl | rfl | rfl : i = 0 ∨ i = 1 ∨ i = 2 ∨ i = 3 ∨ i = 4 ∨ i = 5 := by omega
          all_goals decide
        generalize signsL.getD i [] = sg at ci HR hsl2
        have hob : ((i : Int) != 0) = true := by simpa using h0
        have hi1 : (0 : Int) ≤ (i : Int) := by omega
        have hi2 : (i : Int) < 6 := by omega
        have hcat := bs_app
        have hsz := bs_size
        have r1 : ∀ q, (⟨#[32, 40]⟩ : ByteArray) ++ bs q = bs (32 :: 40 :: q) := fun q => bs_app [32, 40] q
        have r2 : ∀ q, bs q ++ (⟨#[32]⟩ : ByteArray) = bs (q ++ [32]) := fun q => bs_app q [32]
        have r3 : ∀ q, bs q ++ (⟨#[41]⟩ : ByteArray) = bs (q ++ [41]) := fun q => bs_app q [41]
        have o1 : ¬ 9223372036854775807 < 2 + sg.length := by omega
        have o2 : ¬ 9223372036854775807 < sg.length + 1 + 1 + 1 := by omega
        have o3 : ¬ 9223372036854775807 < sg.length + 1 + 1 + 1 + t.ver.length := by omega
        have o4 : ¬ 9223372036854775807 < sg.length + (t.ver.length + 1) + 1 + 1 + 1 := by omega
        have o5 : ¬ 9223372036854775807 < t.name.length + ql.length + (sg.length + (t.ver.length + 1 + 1) + 1 + 1) := by omega
        clear h0
        go_wp2_with fail
        refine wp_region_plan (fun W => W.cell? ⟨w.heap.size, 1, none⟩ = some (.int .i64 i) ∧ W.cell? ⟨w.heap.size, 2, none⟩ = some (.string (bs t.ver)) ∧ W.cell? ⟨1, i, none⟩ = some (.string (bs sg))) [(false, 0), (false, 1), (false, 2), (false, 3), (false, 4), (false, 5), (false, 6), (false, 7), (false, 8), (false, 9), (false, 10), (false, 11), (false, 12), (false, 13), (false, 14)] (by kernel_rfl) (by kernel_rfl) (⟨by simpa using d1, by simpa using d2, by simpa using ci⟩) ?_
        simp only [planOps, List.map, List.getD_cons_zero, List.getD_cons_succ]
        iterate 15 ((first | refine plan_quiet (v := ?_) rfl rfl (fun w' hw' => ?_) ?_ | refine plan_calm (v := ?_) (tt_of) rfl (fun w' hw' => ?_) ?_); rotate_left; (focus (go_simp <;> with_reducible rfl)); simp only [Act.put, List.setIfInBounds_toArray, List.set_cons_zero, List.set_cons_succ])
        refine plan_end ?_
        go_wp2_with fail
        go_meet
        rw [HR.out]
        refine ⟨?_, hb1.drew, (Below.refl _ _).drew⟩
        simp
    case rest =>
      clear hb1
      obtain ⟨rfl, hb1, hb2⟩ := hcut
      have hrl : (relT op t.ver).length ≤ 1000010 := by
        unfold relT
        split
        · simp
        · obtain ⟨i, rfl⟩ := Int.eq_ofNat_of_zero_le hop.1
          have hi6 : i < 6 := by omega
          have : (signsL.getD i []).length ≤ 2 := by
            obtain rfl | rfl | rfl | rfl | rfl | rfl : i = 0 ∨ i = 1 ∨ i = 2 ∨ i = 3 ∨ i = 4 ∨ i = 5 := by omega
            all_goals decide
          show ([32, 40] ++ (signsL.getD i [] ++ (32 :: (t.ver ++ [41])))).length ≤ 1000010
          simp only [List.length_append, List.length_cons, List.length_nil]
          omega
      generalize relT op t.ver = rl at HT hrl ⊢
      have d4' := (hb2.cell (p := ⟨w.heap.size, 4, none⟩) (lt_of_cell d4)).trans d4
      have hsl2 := hsl1.keep good_text (Kept.of_below hb2 X)
      clear d0 d1 d2 d3 bT hw1 hsl1
      by_cases h0 : t.archs = []
      · have HR : Hid (archT t.archs = []) := Lib.hid (by rw [archT, if_pos h0])
        have hl : t.archs.length = 0 := by rw [h0]; rfl
        rw [hl] at d4'
        clear h0 hl d4
        go_wp2_with fail
        go_ret
        exact ⟨by rw [HT.out, HR.out]; simp, hb1⟩
      · have HR : Hid (archT t.archs = [32, 91] ++ (Lib.join t.archs [32] ++ [93])) := Lib.hid (by rw [archT, if_neg h0])
        have hl : 0 < t.archs.length := List.length_pos_iff.2 h0
        have hlb : decide (0 < (t.archs.length : Int)) = true := by simpa using hl
        clear h0 d4
        go_wp2_with fail
        have hjn := join_any X _ t.archs [32] _ hsl2 (by omega) (by omega)
        generalize Lib.join t.archs [32] = jl at HR hj hjn
        refine hjn.mono ?_
        rintro e wy ⟨rfl, hby⟩
        have hcat := bs_app
        have hsz := bs_size
        have r1 : ∀ q, (⟨#[32, 91]⟩ : ByteArray) ++ bs q = bs (32 :: 91 :: q) := fun q => bs_app [32, 91] q
        have r3 : ∀ q, bs q ++ (⟨#[93]⟩ : ByteArray) = bs (q ++ [93]) := fun q => bs_app q [93]
        go_wp2_with fail
        go_ret
        exact ⟨by rw [HT.out, HR.out]; simp, hb1.trans (hby.mono hb1.size)⟩
end Go.Proofs.YtdnncbhbajciaaaDoor
namespace Go.Proofs.YtdnncbhbajciaaaDoor
open Go.RowKit
theorem Sl.group {X : Nat → Prop} {w : World} {A : Option Addr} {n cap : Nat} {l : List (List Tm)} (h : Sl 1 Rgroup X w (.slice A n cap) l) (hn : 0 < n) :
    ∃ b off, A = some ⟨b, off, none⟩ ∧ ¬ X b ∧ ∀ j (h : j < l.length), ∃ v, w.cell? ⟨b, off + j, none⟩ = some v ∧ Sl 5 Rterm X w v l[j] := by
  obtain ⟨h1, h2, h3, h4⟩ := h.at
  obtain ⟨b, off, hA, hX, hc⟩ := h4 hn
  refine ⟨b, off, hA, hX, fun j hj => ?_⟩
  obtain ⟨cs, hcs, v, rfl, hR⟩ := hc j hj
  have := hcs 0 _ rfl
  exact ⟨v, by simpa using this, hR⟩
theorem Sl.term {X : Nat → Prop} {w : World} {A : Option Addr} {n cap : Nat} {l : List Tm} (h : Sl 5 Rterm X w (.slice A n cap) l) (hn : 0 < n) :
    ∃ b off, A = some ⟨b, off, none⟩ ∧ ¬ X b ∧ ∀ j (h : j < l.length), ∃ v, (w.cell? ⟨b, off + j * 5, none⟩ = some (.string (bs l[j].name)) ∧ w.cell? ⟨b, off + j * 5 + 1, none⟩ = some (.int .i64 l[j].op) ∧ w.cell? ⟨b, off + j * 5 + 2, none⟩ = some (.string (bs l[j].ver)) ∧ w.cell? ⟨b, off + j * 5 + 3, none⟩ = some (.string (bs l[j].qual)) ∧ w.cell? ⟨b, off + j * 5 + 4, none⟩ = some v) ∧ Sl 1 Rtext X w v l[j].archs := by
  obtain ⟨h1, h2, h3, h4⟩ := h.at
  obtain ⟨b, off, hA, hX, hc⟩ := h4 hn
  refine ⟨b, off, hA, hX, fun j hj => ?_⟩
  obtain ⟨cs, hcs, v, rfl, hR⟩ := hc j hj
  exact ⟨v, ⟨by simpa using hcs 0 _ rfl, hcs 1 _ rfl, hcs 2 _ rfl, hcs 3 _ rfl, hcs 4 _ rfl⟩, hR⟩
def sumT (l : List (List Tm)) : Nat := (l.map List.length).sum
theorem anyE_drop (l : List (List Tm)) (k : Nat) (h : k < l.length) : (l.drop k).any (·.isEmpty) = (l[k].isEmpty || (l.drop (k + 1)).any (·.isEmpty)) := by
  rw [List.drop_eq_getElem_cons h, List.any_cons]
def firstE : List Tm → Int
  | [] => 0
  | t :: r => if tErr t = 0 then firstE r else tErr t
/-- What is wrong with groups. -/
def chkS (l : List (List Tm)) : Int := if 64 < sumT l then 4 else if l.any (·.isEmpty) = true then 3 else firstE l.flatten
/-- Groups that are not too many or too long to be looked at. -/
def FS (l : List (List Tm)) : Prop := l.length ≤ 1000000 ∧ ∀ g ∈ l, g.length ≤ 1000000 ∧ ∀ t ∈ g, TmS t ∧ (Lib.join t.archs [32]).length ≤ 1000000000
theorem sumT_take (l : List (List Tm)) (k : Nat) (h : k < l.length) : sumT (l.take (k + 1)) = sumT (l.take k) + l[k].length := by
  rw [List.take_succ_eq_append_getElem h]; simp only [sumT, List.map_append, List.sum_append, List.map_cons, List.map_nil, List.sum_cons, List.sum_nil]; omega
theorem firstE_group (g : List Tm) (k : Nat) (h : k < g.length) (r : List Tm) : firstE (g.drop k ++ r) = if tErr g[k] = 0 then firstE (g.drop (k + 1) ++ r) else tErr g[k] := by
  rw [List.drop_eq_getElem_cons h]; rfl
theorem flat_drop (l : List (List Tm)) (k : Nat) (h : k < l.length) : (l.drop k).flatten = l[k] ++ (l.drop (k + 1)).flatten := by
  rw [List.drop_eq_getElem_cons h]; rfl
set_option maxRecDepth 20000 in
set_option maxHeartbeats 8000000 in
theorem dcheck_any (l : List (List Tm)) (v : Value) (X : Nat → Prop) (w : World) (hsl : Sl 1 Rgroup X w v l) (hF : FS l) (hw : Words w) :
    Calls Tryd.prog 20 #[v] w fun e w' => e = .returned (.int .i64 (chkS l)) ∧ Below w.heap.size w w' := by
  obtain ⟨A, cap, rfl, hc1, hc2⟩ := hsl.form
  obtain ⟨s1, s2⟩ := hF
  unfold maxLen at hc2
  have HT : Hid (chkS l = if 64 < sumT l then 4 else if l.any (·.isEmpty) = true then 3 else firstE l.flatten) := Lib.hid rfl
  have HS2 := Lib.hid s2
  clear s2
  go_enter Tryd.func20, Tryd.ntmps20
  go_wp2_with fail
  go_loopg [3, 15] l.length (fun G s3 s15 wr => ∃ k : Nat, k ≤ l.length ∧ G = l.length - k ∧ s15 = .int .i64 k ∧ w = wr ∧ ∃ n : Nat, s3 = .int .i64 n ∧ n ≤ k * 1000000 ∧ Hid (n = sumT (l.take k)))
  case atStart => exact ⟨0, Nat.zero_le _, rfl, rfl, rfl, 0, rfl, by omega, Lib.hid rfl⟩
  case round =>
    obtain ⟨k, hk, rfl, rfl, rfl, n, rfl, hn, HN⟩ := hrel
    by_cases hlt : k < l.length
    · obtain ⟨b, off, rfl, _, hc⟩ := hsl.group (by omega)
      obtain ⟨vg, ck, hsg⟩ := hc k hlt
      obtain ⟨A2, cap2, rfl, _, _⟩ := hsg.form
      have hgl := (HS2.out _ (List.getElem_mem hlt)).1
      have HST := Lib.hid (sumT_take l k hlt)
      clear hc
      generalize l[k] = gr at ck hsg hgl HST
      go_wp2_with fail
      go_roundg (l.length - (k + 1))
      case measure => omega
      case rel => exact ⟨k + 1, by omega, rfl, by go_num, rfl, n + gr.length, by go_num, by omega, Lib.hid (by rw [HST.out, ← HN.out])⟩
    · obtain rfl : k = l.length := by omega
      rw [List.take_length] at HN
      by_cases h64 : 64 < n
      · have HV : Hid (chkS l = 4) := Lib.hid (by rw [HT.out, if_pos (by rw [← HN.out]; exact h64)])
        have hb : decide ((64 : Int) < (n : Int)) = true := by simp; omega
        go_wp2_with fail
        go_ret
        exact ⟨by rw [HV.out]; rfl, Below.refl _ _⟩
      · have HT2 : Hid (chkS l = if l.any (·.isEmpty) = true then 3 else firstE l.flatten) := Lib.hid (by rw [HT.out, if_neg (by rw [← HN.out]; exact h64)])
        have hb : decide ((64 : Int) < (n : Int)) = false := by simp; omega
        clear HT HN
        go_wp2_with fail
        go_loopg [28] l.length (fun G s28 wr => ∃ k : Nat, k ≤ l.length ∧ G = l.length - k ∧ s28 = .int .i64 k ∧ w = wr ∧ Hid (l.any (·.isEmpty) = (l.drop k).any (·.isEmpty)))
        case atStart => exact ⟨0, Nat.zero_le _, rfl, rfl, rfl, Lib.hid rfl⟩
        case round =>
          clear hk hlt
          obtain ⟨k, hk, rfl, rfl, rfl, HE⟩ := hrel
          by_cases hlt : k < l.length
          · obtain ⟨b, off, rfl, _, hc⟩ := hsl.group (by omega)
            obtain ⟨vg, ck, hsg⟩ := hc k hlt
            obtain ⟨A2, cap2, rfl, _, _⟩ := hsg.form
            have HST := Lib.hid (anyE_drop l k hlt)
            clear hc
            generalize l[k] = gr at ck hsg HST
            by_cases hg : gr = []
            · subst hg
              have HV : Hid (chkS l = 3) := Lib.hid (by rw [HT2.out, if_pos (by rw [HE.out, HST.out]; rfl)])
              go_wp2_with fail
              go_ret
              exact ⟨by rw [HV.out]; rfl, Below.refl _ _⟩
            · have hgl : 0 < gr.length := List.length_pos_iff.2 hg
              have hgb : ((gr.length : Int) == 0) = false := by simpa using hg
              have HG : Hid (gr.isEmpty = false) := Lib.hid (by simpa using hg)
              clear hg
              go_wp2_with fail
              go_roundg (l.length - (k + 1))
              case measure => omega
              case rel => exact ⟨k + 1, by omega, rfl, by go_num, rfl, Lib.hid (by rw [HE.out, HST.out, HG.out]; rfl)⟩
          · obtain rfl : k = l.length := by omega
            have HT3 : Hid (chkS l = firstE l.flatten) := Lib.hid (by rw [HT2.out, if_neg (by rw [HE.out, List.drop_length]; simp)])
            clear HT2 HE
            go_wp2_with fail
            go_loopg [38] l.length (fun G s38 wr => ∃ k : Nat, k ≤ l.length ∧ G = l.length - k ∧ s38 = .int .i64 k ∧ Below w.heap.size w wr ∧ Hid (chkS l = firstE (l.drop k).flatten))
            case atStart => exact ⟨0, Nat.zero_le _, rfl, rfl, Below.refl _ _, HT3⟩
            case round =>
              clear hk hlt HT3
              obtain ⟨k, hk, rfl, rfl, hbw, HE⟩ := hrel
              by_cases hlt : k < l.length
              · have hslr := hsl.keep good_group (Kept.of_below hbw X)
                obtain ⟨b, off, rfl, _, hc⟩ := hslr.group (by omega)
                obtain ⟨vg, ck, hsg⟩ := hc k hlt
                obtain ⟨A2, cap2, rfl, hg1, hg2⟩ := hsg.form
                unfold maxLen at hg2
                have HST := Lib.hid (flat_drop l k hlt)
                have hsb := HS2.out _ (List.getElem_mem hlt)
                obtain ⟨hgl, hsb⟩ := hsb
                clear hc
                generalize l[k] = gr at ck hsg HST hgl hsb hg1
                have HSB := Lib.hid hsb
                clear hsb
                obtain ⟨rest, HR⟩ : ∃ r, Hid ((l.drop (k + 1)).flatten = r) := ⟨_, Lib.hid rfl⟩
                rw [HR.out] at HST
                go_wp2_with fail
                go_loopg [44] gr.length (fun G s44 wx => ∃ j : Nat, j ≤ gr.length ∧ G = gr.length - j ∧ s44 = .int .i64 j ∧ Below w.heap.size w wx ∧ Below wr.heap.size wr wx ∧ Hid (chkS l = firstE (gr.drop j ++ rest)))
                case atStart => exact ⟨0, Nat.zero_le _, rfl, rfl, hbw, Below.refl _ _, Lib.hid (by rw [HE.out, HST.out]; rfl)⟩
                case round =>
                  clear HE HST
                  obtain ⟨j, hj, rfl, rfl, hbx, hbx2, HE⟩ := hrel
                  by_cases hjl : j < gr.length
                  · have hsgx := hsg.keep good_term (Kept.of_below hbx2 X)
                    obtain ⟨b2, off2, rfl, _, hc⟩ := hsgx.term (by omega)
                    obtain ⟨va, ⟨c0, c1, c2, c3, c4⟩, hsa⟩ := hc j hjl
                    obtain ⟨A3, cap3, rfl, _, _⟩ := hsa.form
                    have HST := Lib.hid (firstE_group gr j hjl rest)
                    obtain ⟨hTS, hTJ⟩ := HSB.out _ (List.getElem_mem hjl)
                    clear hc
                    generalize gr[j] = t at c0 c1 c2 c3 c4 hsa HST hTS hTJ
                    go_wp2_with fail
                    have hb1 : Below wr.heap.size wr (wr.alloc (.cells #[.string (bs t.name), .int .i64 t.op, .string (bs t.ver), .string (bs t.qual), .slice A3 t.archs.length cap3] 50)) := (Below.refl _ _).alloc (Nat.le_refl _) _
                    generalize wr.alloc (.cells #[.string (bs t.name), .int .i64 t.op, .string (bs t.ver), .string (bs t.qual), .slice A3 t.archs.length cap3] 50) = w1 at hb1 ⊢
                    refine (tcheck_any t _ X w1 (hsa.keep good_text (Kept.of_below hb1 X)) hTS ((hw.below hbx).below hb1)).mono ?_
                    rintro e w2 ⟨rfl, hb2⟩
                    have q2 : Below wr.heap.size wr w2 := hb1.trans (hb2.mono hb1.size)
                    clear hb1 hb2
                    by_cases he : tErr t = 0
                    · have HV := Lib.hid (HE.out.trans (HST.out.trans (if_pos he)))
                      rw [he]
                      go_wp2_with fail
                      go_roundg (gr.length - (j + 1))
                      case measure => omega
                      case rel => exact ⟨j + 1, by omega, rfl, by go_num, hbx.trans (q2.mono hbx.size), hbx2.trans (q2.mono hbx2.size), HV⟩
                    · have HV := Lib.hid (HE.out.trans (HST.out.trans (if_neg he)))
                      generalize tErr t = ee at he HV
                      have hee : (ee != 0) = true := by simpa using he
                      clear he
                      go_wp2_with fail
                      go_ret
                      exact ⟨by rw [HV.out]; rfl, hbx.trans (q2.mono hbx.size)⟩
                  · obtain rfl : j = gr.length := by omega
                    go_wp2_with fail
                    go_roundg (l.length - (k + 1))
                    case measure => omega
                    case rel => exact ⟨k + 1, by omega, rfl, by go_num, hbx, Lib.hid (by rw [HE.out, List.drop_length, HR.out]; rfl)⟩
              · obtain rfl : k = l.length := by omega
                have HV : Hid (chkS l = 0) := Lib.hid (by rw [HE.out, List.drop_length]; rfl)
                go_wp2_with fail
                go_ret
                exact ⟨by rw [HV.out]; rfl, hbw⟩
end Go.Proofs.YtdnncbhbajciaaaDoor
namespace Go.Proofs.YtdnncbhbajciaaaDoor
open Go.RowKit
def groupT (g : List Tm) : List UInt8 := Lib.join (g.map termT) [32, 124, 32]
def fieldT (l : List (List Tm)) : List UInt8 := Lib.join (l.map groupT) [44, 32]
theorem join_len (l : List (List UInt8)) (sep : List UInt8) (M : Nat) (h : ∀ a ∈ l, a.length ≤ M) : (Lib.join l sep).length ≤ l.length * (M + sep.length) := by
  induction l with
  | nil => simp [Lib.join]
  | cons a l ih =>
    have h1 := h a (by simp)
    have h2 := ih fun b hb => h b (by simp [hb])
    cases l with
    | nil => simp [Lib.join]; omega
    | cons b l =>
      have : Lib.join (a :: b :: l) sep = a ++ sep ++ Lib.join (b :: l) sep := by simp [Lib.join]
      have h3 : (a :: b :: l).length = (b :: l).length + 1 := rfl
      rw [this, List.length_append, List.length_append, h3, Nat.succ_mul]
      omega
theorem firstE_zero (l : List Tm) (h : firstE l = 0) : ∀ t ∈ l, tErr t = 0 := by
  induction l with
  | nil => simp
  | cons a l ih =>
    unfold firstE at h
    split at h
    · rename_i h0
      intro t ht
      rcases List.mem_cons.1 ht with rfl | ht
      · exact h0
      · exact ih h t ht
    · rename_i h0; exact absurd h h0
theorem chk_ok (l : List (List Tm)) (h : chkS l = 0) : sumT l ≤ 64 ∧ (∀ g ∈ l, g ≠ []) ∧ ∀ g ∈ l, ∀ t ∈ g, tErr t = 0 := by
  unfold chkS at h
  split at h
  · cases h
  · rename_i h1
    split at h
    · cases h
    · rename_i h2
      refine ⟨by omega, ?_, ?_⟩
      · intro g hg e
        subst e
        exact h2 (List.any_eq_true.2 ⟨[], hg, rfl⟩)
      · intro g hg t ht
        exact firstE_zero _ h t (List.mem_flatten.2 ⟨g, hg, ht⟩)
theorem tErr_op (t : Tm) (h : tErr t = 0) : 0 ≤ t.op ∧ t.op ≤ 5 := by
  unfold tErr at h
  split at h
  · cases h
  · split at h
    · cases h
    · split at h
      · cases h
      · rename_i h3
        simp [opBad] at h3
        omega
theorem sumT_len (l : List (List Tm)) (h : ∀ g ∈ l, g ≠ []) : l.length ≤ sumT l := by
  induction l with
  | nil => simp
  | cons a l ih =>
    have h1 : 0 < a.length := List.length_pos_iff.2 (h a (by simp))
    have h2 := ih fun b hb => h b (by simp [hb])
    simp only [sumT, List.map_cons, List.sum_cons, List.length_cons] at h2 ⊢
    omega
theorem sumT_mem (l : List (List Tm)) (g : List Tm) (h : g ∈ l) : g.length ≤ sumT l := by
  induction l with
  | nil => cases h
  | cons a l ih =>
    simp only [sumT, List.map_cons, List.sum_cons] at ih ⊢
    rcases List.mem_cons.1 h with rfl | h
    · omega
    · have := ih h; omega
theorem termT_len (t : Tm) (hS : TmS t) (hj : (Lib.join t.archs [32]).length ≤ 1000000000) (ho : 0 ≤ t.op ∧ t.op ≤ 5) : (termT t).length ≤ 1010000000 := by
  obtain ⟨s1, s2, s3, _, _⟩ := hS
  have h1 : (qualT t.qual).length ≤ 1000001 := by unfold qualT; split <;> simp <;> omega
  have h2 : (relT t.op t.ver).length ≤ 1000010 := by
    unfold relT
    split
    · simp
    · have : (signsL.getD t.op.toNat []).length ≤ 2 := by
        obtain h | h | h | h | h | h : t.op.toNat = 0 ∨ t.op.toNat = 1 ∨ t.op.toNat = 2 ∨ t.op.toNat = 3 ∨ t.op.toNat = 4 ∨ t.op.toNat = 5 := by omega
        all_goals rw [h]; decide
      simp only [List.length_append, List.length_cons, List.length_nil]
      omega
  have h3 : (archT t.archs).length ≤ 1000000003 := by
    unfold archT
    split
    · simp
    · simp only [List.length_append, List.length_cons, List.length_nil]; omega
  simp only [termT, List.length_append]
  omega
/-- Groups as they are written, or nothing; and the error. -/
def printS (l : List (List Tm)) : List UInt8 × Int := if chkS l = 0 then (fieldT l, 0) else ([], chkS l)
theorem groupT_len (g : List Tm) (hl : g.length ≤ 64) (h1 : ∀ t ∈ g, TmS t ∧ (Lib.join t.archs [32]).length ≤ 1000000000) (h2 : ∀ t ∈ g, tErr t = 0) : (Lib.join (g.map termT) [32, 124, 32]).length ≤ 64640000192 := by
  have := join_len (g.map termT) [32, 124, 32] 1010000000 (fun a ha => by
    obtain ⟨t, ht, rfl⟩ := List.mem_map.1 ha
    exact termT_len t (h1 t ht).1 (h1 t ht).2 (tErr_op t (h2 t ht)))
  rw [List.length_map] at this
  have h3 : g.length * (1010000000 + [32, 124, (32 : UInt8)].length) ≤ 64 * 1010000003 := Nat.mul_le_mul_right _ hl
  omega
theorem fieldT_len (l : List (List Tm)) (hF : FS l) (h0 : chkS l = 0) : (Lib.join (l.map groupT) [44, 32]).length ≤ 4136960012416 := by
  obtain ⟨hs64, hne, hte⟩ := chk_ok l h0
  have hl64 := sumT_len l hne
  have := join_len (l.map groupT) [44, 32] 64640000192 (fun a ha => by
    obtain ⟨g, hg, rfl⟩ := List.mem_map.1 ha
    exact groupT_len g (Nat.le_trans (sumT_mem l g hg) hs64) (hF.2 g hg).2 (hte g hg))
  rw [List.length_map] at this
  have h3 : l.length * (64640000192 + [44, (32 : UInt8)].length) ≤ 64 * 64640000194 := Nat.mul_le_mul_right _ (by omega)
  omega
theorem map_take {α β : Type} (f : α → β) (l : List α) (k : Nat) (h : k < l.length) : (l.take (k + 1)).map f = (l.take k).map f ++ [f l[k]] := by
  rw [List.take_succ_eq_append_getElem h, List.map_append]; rfl
set_option maxRecDepth 20000 in
set_option maxHeartbeats 8000000 in
theorem dprint_any (l : List (List Tm)) (v : Value) (X : Nat → Prop) (w : World) (hsl : Sl 1 Rgroup X w v l) (hF : FS l) (hw : Words w) (hg : Signs w) :
    Calls Tryd.prog 18 #[v] w fun e w' => e = .returned (.tuple #[.string (bs (printS l).1), .int .i64 (printS l).2]) ∧ Below w.heap.size w w' := by
  have hck := fun X w hsl hw => dcheck_any l v X w hsl hF hw
  obtain ⟨A, cap, rfl, hc1, hc2⟩ := hsl.form
  unfold maxLen at hc2
  have HT : Hid (printS l = if chkS l = 0 then (fieldT l, 0) else ([], chkS l)) := Lib.hid rfl
  go_enter Tryd.func18, Tryd.ntmps18
  go_wp2_with fail
  refine (hck X w hsl hw).mono ?_
  rintro e w1 ⟨rfl, hb1⟩
  by_cases h0 : chkS l = 0
  · have HV : Hid (printS l = (fieldT l, 0)) := Lib.hid (by rw [HT.out, if_pos h0])
    rw [h0]
    obtain ⟨hs64, hne, hte⟩ := chk_ok l h0
    have hl64 := sumT_len l hne
    have HM := Lib.hid (sumT_mem l)
    have HF2 := Lib.hid hF
    have HFL := Lib.hid (fieldT_len l hF h0)
    have HTE := Lib.hid hte
    clear hck hF hne hte HT h0
    go_wp2_with fail
    go_loopg [5, 18] l.length (fun G s5 s18 wr => ∃ k : Nat, k ≤ l.length ∧ G = l.length - k ∧ s18 = .int .i64 k ∧ Below w.heap.size w wr ∧ OwnL 1 Rtext 9 w.heap.size (old w.heap.size) wr s5 ((l.take k).map groupT))
    case atStart => exact ⟨0, Nat.zero_le _, rfl, rfl, hb1, OwnL.nil _ _ _ _ _ _⟩
    case round =>
      clear hb1
      obtain ⟨k, hk, rfl, rfl, hbw, hown⟩ := hrel
      by_cases hlt : k < l.length
      · have hslr := hsl.keep good_group (Kept.of_below hbw X)
        obtain ⟨b, off, rfl, _, hc⟩ := hslr.group (by omega)
        obtain ⟨vg, ck, hsg⟩ := hc k hlt
        obtain ⟨A2, cap2, rfl, hg1, hg2⟩ := hsg.form
        unfold maxLen at hg2
        have HST := Lib.hid (map_take groupT l k hlt)
        have hgl := HM.out _ (List.getElem_mem hlt)
        have hsb := (HF2.out.2 _ (List.getElem_mem hlt)).2
        have hte := HTE.out _ (List.getElem_mem hlt)
        clear hc
        obtain ⟨A5, cap5, rfl⟩ := hown.form
        generalize l[k] = gr at ck hsg HST hgl hsb hg1 hte
        have HSB := Lib.hid hsb
        have HTE2 := Lib.hid hte
        clear hsb hte
        have hmk : ((l.take k).map groupT).length = k := by rw [List.length_map, List.length_take]; omega
        rw [hmk] at hown ⊢
        go_wp2_with fail
        go_loopg [8, 24] gr.length (fun G s8 s24 wx => ∃ j : Nat, j ≤ gr.length ∧ G = gr.length - j ∧ s24 = .int .i64 j ∧ Below wr.heap.size wr wx ∧ OwnL 1 Rtext 9 wr.heap.size (old wr.heap.size) wx s8 ((gr.take j).map termT))
        case atStart => exact ⟨0, Nat.zero_le _, rfl, rfl, Below.refl _ _, OwnL.nil _ _ _ _ _ _⟩
        case round =>
          obtain ⟨j, hj, rfl, rfl, hbx2, hown2⟩ := hrel
          have hbx := hbw.trans (hbx2.mono hbw.size)
          by_cases hjl : j < gr.length
          · have hsgx := hsg.keep good_term (Kept.of_below hbx2 X)
            obtain ⟨b2, off2, rfl, _, hc⟩ := hsgx.term (by omega)
            obtain ⟨va, ⟨c0, c1, c2, c3, c4⟩, hsa⟩ := hc j hjl
            obtain ⟨A3, cap3, rfl, _, _⟩ := hsa.form
            have HST2 := Lib.hid (map_take termT gr j hjl)
            obtain ⟨hTS, hTJ⟩ := HSB.out _ (List.getElem_mem hjl)
            have hop := tErr_op _ (HTE2.out _ (List.getElem_mem hjl))
            clear hc
            obtain ⟨A8, cap8, rfl⟩ := hown2.form
            have hmj : ((gr.take j).map termT).length = j := by rw [List.length_map, List.length_take]; omega
            rw [hmj] at hown2 ⊢
            generalize gr[j] = t at c0 c1 c2 c3 c4 hsa HST2 hTS hTJ hop
            go_wp2_with fail
            have ha1 : Below wr.heap.size wr (wr.alloc (.cells #[.string (bs t.name), .int .i64 t.op, .string (bs t.ver), .string (bs t.qual), .slice A3 t.archs.length cap3] 50)) := (Below.refl _ _).alloc (Nat.le_refl _) _
            generalize wr.alloc (.cells #[.string (bs t.name), .int .i64 t.op, .string (bs t.ver), .string (bs t.qual), .slice A3 t.archs.length cap3] 50) = w1 at ha1 ⊢
            refine (text_any t _ X w1 (hsa.keep good_text (Kept.of_below ha1 X)) hTS hop hTJ ((hg.below hbx).below ha1)).mono ?_
            rintro e w3 ⟨rfl, ha3⟩
            have q3 : Below wr.heap.size wr w3 := ha1.trans (ha3.mono ha1.size)
            have own3 := hown2.keep good_text (Kept.of_below q3 _)
            have hnew := own3.new
            have hsz3 := Nat.le_trans hbx2.size q3.size
            clear ha1 ha3 c0 c1 c2 c3 c4 hsa hsgx
            generalize termT t = tt at HST2
            go_wp2_with (at_builtin; refine wpList_appendL (l := (gr.take j).map termT) good_text rfl _ _ _ _ _ 16 rfl Tryd.underlying48 info_str rfl (by omega) _ rfl own3 [.string (bs tt)] tt rfl rfl (by omega) (by omega) hsz3 (fun k hk hk2 => by unfold old at hk2; omega) ?_; intro v5 w5 hown5 hk5)
            have q5 := hk5.below hsz3 (fun k _ h => hnew k h)
            have q6 := (hbx2.trans (q3.mono hbx2.size)).trans q5
            rw [← HST2.out] at hown5
            clear hk5 hnew own3 q3 q5
            go_wp2_with fail
            go_roundg (gr.length - (j + 1))
            case measure => omega
            case rel => exact ⟨j + 1, by omega, rfl, by go_num, q6, hown5⟩
          · obtain rfl : j = gr.length := by omega
            rw [List.take_length] at hown2
            obtain ⟨A8, cap8, rfl⟩ := hown2.form
            have hlm : (gr.map termT).length = gr.length := List.length_map _
            have hjn := join_any _ _ (gr.map termT) [32, 124, 32] _ (hown2.sl good_text) (Nat.le_trans (groupT_len gr (by omega) HSB.out HTE2.out) (by omega)) (by omega)
            have hown1 := hown.keep good_text (Kept.of_below hbx2 _)
            rw [hlm] at hjn ⊢
            rw [show Lib.join (gr.map termT) [32, 124, 32] = groupT gr from rfl] at hjn
            generalize groupT gr = gt at hjn HST
            go_wp2_with fail
            refine hjn.mono ?_
            rintro e w4 ⟨rfl, hb4⟩
            have own4 := hown1.keep good_text (Kept.of_below hb4 _)
            have hnew := own4.new
            have q4 := hbx.trans (hb4.mono hbx.size)
            go_wp2_with (at_builtin; refine wpList_appendL (l := (l.take k).map groupT) good_text rfl _ _ _ _ _ 16 rfl Tryd.underlying48 info_str rfl (by omega) _ rfl own4 [.string (bs gt)] gt rfl rfl (by omega) (by omega) q4.size (fun k hk hk2 => by have := q4.size; unfold old at hk2; omega) ?_; intro v5 w5 hown5 hk5)
            have q5 := q4.trans (hk5.below q4.size (fun k _ h => hnew k h))
            rw [← HST.out] at hown5
            clear hk5 hnew own4 hjn
            go_wp2_with fail
            go_roundg (l.length - (k + 1))
            case measure => omega
            case rel => exact ⟨k + 1, by omega, rfl, by go_num, q5, hown5⟩
      · obtain rfl : k = l.length := by omega
        rw [List.take_length] at hown
        obtain ⟨A5, cap5, rfl⟩ := hown.form
        have hlm : (l.map groupT).length = l.length := List.length_map _
        have hjn := join_any (old w.heap.size) _ (l.map groupT) [44, 32] _ (hown.sl good_text) (Nat.le_trans HFL.out (by omega)) (by omega)
        rw [hlm] at hjn ⊢
        go_wp2_with fail
        refine hjn.mono ?_
        rintro e wy ⟨rfl, hby⟩
        go_wp2_with fail
        go_ret2
        exact ⟨by rw [HV.out]; rfl, hbw.trans (hby.mono hbw.size)⟩
  · have HV : Hid (printS l = ([], chkS l)) := Lib.hid (by rw [HT.out, if_neg h0])
    have hb : (chkS l != 0) = true := by simpa using h0
    generalize chkS l = ee at h0 HV hb
    clear h0
    go_wp2_with fail
    go_ret2
    exact ⟨by rw [HV.out]; rfl, hb1⟩
end Go.Proofs.YtdnncbhbajciaaaDoor

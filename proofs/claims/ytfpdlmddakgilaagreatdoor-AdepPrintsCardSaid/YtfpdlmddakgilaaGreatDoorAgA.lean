/- The document's answer for adep (drayageref16): Check, Print; the walk of the law on how words are written. -/
import Derived.Test.YtfpdlmddakgilaaGreatDoorAeA
import Derived.Test.YtfpdlmddakgilaaGreatDoorAeE
import Derived.Test.YtfpdlmddakgilaaGreatDoorVerW
namespace Go.Proofs.YtfpdlmddakgilaaGreatDoor
open Go.RowKit
set_option maxHeartbeats 2000000 in
theorem rsign_any (i : Nat) (hi : i < 7) (w : World) : Calls Tryz.prog 14 #[.int .i64 i] w fun e w' => e = .returned (.string (bs (signsA.getD i []))) ∧ Below w.heap.size w w' := by
  have hb := (Below.refl w.heap.size w).alloc (Nat.le_refl _) (.cells #[.string ⟨#[]⟩, .string ⟨#[60]⟩, .string ⟨#[60, 61]⟩, .string ⟨#[61]⟩, .string ⟨#[62, 61]⟩, .string ⟨#[62]⟩, .string ⟨#[126]⟩] 9)
  obtain rfl | rfl | rfl | rfl | rfl | rfl | rfl : i = 0 ∨ i = 1 ∨ i = 2 ∨ i = 3 ∨ i = 4 ∨ i = 5 ∨ i = 6 := by omega
  all_goals
    go_enter Tryz.func14, Tryz.ntmps14
    go_wp2_with fail
    go_ret
    exact ⟨rfl, hb⟩
set_option maxRecDepth 20000 in
set_option maxHeartbeats 16000000 in
theorem rchk_any (l : List Wt) (v : Value) (X : Nat → Prop) (w : World) (hsl : Sl 4 Rwant X w v l) (hF : AS l) :
    Calls Tryz.prog 9 #[v] w fun e w' => e = .returned (.int .i64 (chkA l)) ∧ Below w.heap.size w w' := by
  obtain ⟨A, cap, rfl, hc1, hc2⟩ := hsl.form
  obtain ⟨s1, s2⟩ := hF
  unfold maxLen at hc2
  have HT : Hid (chkA l = if 64 < l.length then 4 else firstW l) := Lib.hid rfl
  have HS2 := Lib.hid s2
  clear s2
  by_cases h64 : 64 < l.length
  · have HV : Hid (chkA l = 4) := Lib.hid (by rw [HT.out, if_pos h64])
    have hb : decide ((64 : Int) < (l.length : Int)) = true := by simp; omega
    clear h64
    go_enter Tryz.func9, Tryz.ntmps9
    go_wp2_with fail
    go_ret
    exact ⟨by rw [HV.out]; rfl, Below.refl _ _⟩
  · have HT2 : Hid (chkA l = firstW l) := Lib.hid (by rw [HT.out, if_neg h64])
    have hb : decide ((64 : Int) < (l.length : Int)) = false := by simp; omega
    clear h64 HT
    go_enter Tryz.func9, Tryz.ntmps9
    go_wp2_with fail
    clear hb
    go_loopg [3] l.length (fun G s3 wr => ∃ k : Nat, k ≤ l.length ∧ G = l.length - k ∧ s3 = .int .i64 k ∧ Below w.heap.size w wr ∧ Hid (chkA l = firstW (l.drop k)))
    case atStart => exact ⟨0, Nat.zero_le _, rfl, rfl, Below.refl _ _, HT2⟩
    case round =>
      clear HT2
      obtain ⟨k, hk, rfl, rfl, hbw, HE⟩ := hrel
      by_cases hlt : k < l.length
      · have hslr := hsl.keep good_want (Kept.of_below hbw X)
        obtain ⟨b, off, rfl, _, hc⟩ := hslr.want (by omega)
        obtain ⟨c0, c1, c2, c3⟩ := hc k hlt
        have HST := Lib.hid (firstW_drop l k hlt)
        obtain ⟨hn1, hn2⟩ := HS2.out _ (List.getElem_mem hlt)
        clear hc
        generalize l[k] = t at c0 c1 c2 c3 HST hn1 hn2
        have hb1 : Below wr.heap.size wr (wr.alloc (.cells #[.string (bs t.name), .int .i64 t.op, .string (bs t.ver)] 36)) := (Below.refl _ _).alloc (Nat.le_refl _) _
        have bT := Blk.new wr 36 #[.string (bs t.name), .int .i64 t.op, .string (bs t.ver)]
        have i1 : (0 : Int) ≤ (k : Int) := by omega
        have i2 : (k : Int) < (l.length : Int) := by omega
        go_upto_region 7 with fail
        generalize wr.alloc (.cells #[.string (bs t.name), .int .i64 t.op, .string (bs t.ver)] 36) = w1 at hb1 bT ⊢
        clear c0 c1 c2 c3
        have d0 := bT.cell 0
        have d1 := bT.cell 1
        have d2 := bT.cell 2
        simp at d0 d1 d2
        have q1 := hbw.trans (hb1.mono hbw.size)
        have HW : Hid (wErr t = if anmB t.name = true then (if aOpBad t = true then 1 else if t.op = 0 then 0 else vErr 3 t.ver) else 10) := Lib.hid rfl
        have hbad : wErr t ≠ 0 → Hid (chkA l = wErr t) := fun h => Lib.hid (HE.out.trans (HST.out.trans (if_neg h)))
        have hgood : wErr t = 0 → Hid (chkA l = firstW (l.drop (k + 1))) := fun h => Lib.hid (HE.out.trans (HST.out.trans (if_pos h)))
        clear HE HST
        go_wp2_with fail
        refine (rname_any t.name _ (by omega)).mono ?_
        rintro e wq ⟨rfl, rfl⟩
        cases hnm : anmB t.name with
        | false =>
          have h10 : wErr t = 10 := by rw [HW.out, hnm]; rfl
          have HV : Hid (chkA l = 10) := Lib.hid (by rw [(hbad (by rw [h10]; decide)).out, h10])
          clear hbad hgood hnm h10 HW
          go_wp2_with fail
          go_ret
          exact ⟨by rw [HV.out]; rfl, q1⟩
        | true =>
          have HO : Hid (aOpBad t = ((decide (t.op < 0) || decide (6 < t.op)) || (decide (t.op = 0) && !t.ver.isEmpty))) := Lib.hid rfl
          have HW2 : Hid (wErr t = if aOpBad t = true then 1 else if t.op = 0 then 0 else vErr 3 t.ver) := Lib.hid (by rw [HW.out, if_pos hnm])
          have hone : aOpBad t = true → Hid (chkA l = 1) := fun h => Lib.hid (by
            have : wErr t = 1 := by rw [HW2.out, if_pos h]
            rw [(hbad (by rw [this]; decide)).out, this])
          clear HW hnm
          obtain ⟨o, Ho⟩ : ∃ o, Hid (t.op = o) := ⟨_, Lib.hid rfl⟩
          rw [Ho.out] at d1 HW2 HO
          by_cases h1 : o < 0
          · have b1 : decide (o < 0) = true := by simpa using h1
            have HV := hone (by rw [HO.out, b1]; rfl)
            clear hbad hgood hone
            go_wp2_with fail
            go_ret
            exact ⟨by rw [HV.out]; rfl, q1⟩
          · have b1 : decide (o < 0) = false := by simpa using h1
            by_cases h5 : 6 < o
            · have b5 : decide (6 < o) = true := by simpa using h5
              have HV := hone (by rw [HO.out, b5]; simp)
              clear hbad hgood hone
              go_wp2_with fail
              go_ret
              exact ⟨by rw [HV.out]; rfl, q1⟩
            · have b5 : decide (6 < o) = false := by simpa using h5
              by_cases h0 : o = 0
              · by_cases hv : t.ver = []
                · have HV := hgood (by rw [HW2.out, if_neg (by rw [HO.out, b1, b5, hv]; simp), if_pos h0])
                  have n1 : (bs t.ver).toList = [] := by rw [toList_bs]; exact hv
                  have n2 : (bs t.ver).toList.isEmpty = true := by rw [n1]; rfl
                  subst h0
                  clear hv hbad hgood hone
                  go_wp2_with fail
                  go_roundg (l.length - (k + 1))
                  case measure => omega
                  case rel => exact ⟨k + 1, by omega, rfl, by go_num, q1, HV⟩
                · have n1 : ¬ (bs t.ver).toList = [] := by rw [toList_bs]; exact hv
                  have n2 : (bs t.ver).toList.isEmpty = false := by simpa using n1
                  have HV := hone (by rw [HO.out, h0]; simp [hv])
                  subst h0
                  clear hv hbad hgood hone
                  go_wp2_with fail
                  go_ret
                  exact ⟨by rw [HV.out]; rfl, q1⟩
              · have b0 : (o == 0) = false := by simpa using h0
                have bp : decide (0 < o) = true := by simp; omega
                have HV : wErr t = vErr 3 t.ver := by rw [HW2.out, if_neg (by rw [HO.out, b1, b5]; simp [h0]), if_neg h0]
                rw [HV] at hbad hgood
                have HB := Lib.hid hbad
                have HG := Lib.hid hgood
                clear h0 h1 h5 hbad hgood hone HV
                go_wp2_with fail
                refine (rcheck_any 3 t.ver _ (by omega)).mono ?_
                rintro e w2 ⟨rfl, hb2⟩
                have q2 := q1.trans (hb2.mono q1.size)
                by_cases hz : vErr 3 t.ver = 0
                · have HV := HG.out hz
                  rw [hz]
                  clear HB HG hz
                  go_wp2_with fail
                  go_roundg (l.length - (k + 1))
                  case measure => omega
                  case rel => exact ⟨k + 1, by omega, rfl, by go_num, q2, HV⟩
                · have HV := HB.out hz
                  clear HB HG
                  generalize vErr 3 t.ver = ee at hz HV
                  have hee : (ee != 0) = true := by simpa using hz
                  clear hz
                  go_wp2_with fail
                  go_ret
                  exact ⟨by rw [HV.out]; rfl, q2⟩
      · obtain rfl : k = l.length := by omega
        have HV : Hid (chkA l = 0) := Lib.hid (by rw [HE.out, List.drop_length]; rfl)
        go_wp2_with fail
        go_ret
        exact ⟨by rw [HV.out]; rfl, hbw⟩
theorem join_one (l : List (List UInt8)) (x sep : List UInt8) : Lib.join (l ++ [x]) sep = if l = [] then x else Lib.join l sep ++ (sep ++ x) := by
  induction l with
  | nil => rw [if_pos rfl]; simp [Lib.join]
  | cons a l ih =>
    rw [if_neg (by simp)]
    cases l with
    | nil => simp [Lib.join]
    | cons b l =>
      have e1 : Lib.join ((a :: b :: l) ++ [x]) sep = a ++ sep ++ Lib.join ((b :: l) ++ [x]) sep := by simp [Lib.join]
      have e2 : Lib.join (a :: b :: l) sep = a ++ sep ++ Lib.join (b :: l) sep := by simp [Lib.join]
      rw [e1, ih, if_neg (by simp), e2]
      simp
def gapA (k : Nat) : List UInt8 := if k = 0 then [] else [32]
theorem words_take (l : List Wt) (k : Nat) (h : k < l.length) : wordsT (l.take (k + 1)) = wordsT (l.take k) ++ (gapA k ++ wordT l[k]) := by
  rw [wordsT, wordsT, map_take wordT l k h, join_one]
  by_cases h0 : k = 0
  · subst h0; simp [gapA, Lib.join]
  · have : (l.take k).map wordT ≠ [] := by
      intro e
      have := congrArg List.length e
      rw [List.length_map, List.length_take, List.length_nil] at this
      omega
    rw [if_neg this, gapA, if_neg h0]
theorem words_take_len (l : List Wt) (k : Nat) (hl : l.length ≤ 64) (h : ∀ t ∈ l, t.name.length ≤ 1000000 ∧ t.ver.length ≤ 1000000) : (wordsT (l.take k)).length ≤ 200000000 :=
  wordsT_len (l.take k) (by rw [List.length_take]; omega) (fun t ht => h t (List.mem_of_mem_take ht))
set_option maxRecDepth 20000 in
set_option maxHeartbeats 16000000 in
theorem rprint_any (l : List Wt) (v : Value) (X : Nat → Prop) (w : World) (hsl : Sl 4 Rwant X w v l) (hF : AS l) :
    Calls Tryz.prog 7 #[v] w fun e w' => e = .returned (.tuple #[.string (bs (printA l).1), .int .i64 (printA l).2]) ∧ Below w.heap.size w w' := by
  obtain ⟨A, cap, rfl, hc1, hc2⟩ := hsl.form
  unfold maxLen at hc2
  have HP : Hid (printA l = if chkA l = 0 then (wordsT l, 0) else ([], chkA l)) := Lib.hid rfl
  have HF := Lib.hid hF.2
  go_enter Tryz.func7, Tryz.ntmps7
  go_wp2_with fail
  refine (rchk_any l _ X _ hsl hF).mono ?_
  rintro e w1 ⟨rfl, hb1⟩
  by_cases h0 : chkA l = 0
  · obtain ⟨hl64, hte⟩ := chkA_ok l h0
    have HTE := Lib.hid hte
    have HP2 : Hid (printA l = (wordsT l, 0)) := Lib.hid (by rw [HP.out, if_pos h0])
    rw [h0]
    clear h0 hte HP
    go_wp2_with fail
    go_loopg [5, 6] l.length (fun G s5 s6 wr => ∃ (k : Nat) (acc : List UInt8), k ≤ l.length ∧ G = l.length - k ∧ s6 = .int .i64 k ∧ Below w.heap.size w wr ∧ s5 = .string (bs acc) ∧ Hid (wordsT (l.take k) = acc))
    case atStart => exact ⟨0, [], Nat.zero_le _, rfl, rfl, hb1, rfl, Lib.hid rfl⟩
    case round =>
      clear hb1
      obtain ⟨k, acc, hk, rfl, rfl, hbw, rfl, HA⟩ := hrel
      by_cases hlt : k < l.length
      · have hslr := hsl.keep good_want (Kept.of_below hbw X)
        obtain ⟨b, off, rfl, _, hc⟩ := hslr.want (by omega)
        obtain ⟨c0, c1, c2, c3⟩ := hc k hlt
        have HST := Lib.hid (words_take l k hlt)
        have hal : acc.length ≤ 200000000 := by rw [← HA.out]; exact words_take_len l k hl64 HF.out
        obtain ⟨hn1, hn2⟩ := HF.out _ (List.getElem_mem hlt)
        have hop := wErr_op _ (HTE.out _ (List.getElem_mem hlt))
        clear hc
        generalize l[k] = t at c0 c1 c2 c3 HST hn1 hn2 hop
        have i1 : (0 : Int) ≤ (k : Int) := by omega
        have i2 : (k : Int) < (l.length : Int) := by omega
        have hcat := bs_app
        have hsz := bs_size
        have r1 : ∀ q, bs q ++ (⟨#[33]⟩ : ByteArray) = bs (q ++ [33]) := fun q => bs_app q [33]
        have r2 : ∀ q, bs q ++ (⟨#[32]⟩ : ByteArray) = bs (q ++ [32]) := fun q => bs_app q [32]
        go_upto_if 19 with fail
        go_cut [5] (fun s5 wy => s5 = .string (bs (acc ++ gapA k)) ∧ wr = wy)
        case first =>
          by_cases h0 : k = 0
          · have hd2 : ¬ 0 < k := by omega
            have HG : Hid (acc ++ gapA k = acc) := Lib.hid (by rw [gapA, if_pos h0]; simp)
            clear h0
            go_wp2_with fail
            go_meet
            exact ⟨by rw [HG.out], rfl⟩
          · have hd : decide ((0 : Int) < (k : Int)) = true := by simp; omega
            have hd2 : 0 < k := by omega
            have HG : Hid (acc ++ gapA k = acc ++ [32]) := Lib.hid (by rw [gapA, if_neg h0])
            have o1 : ¬ 9223372036854775807 < acc.length + 1 := by omega
            clear h0
            go_wp2_with fail
            go_meet
            exact ⟨by rw [HG.out], rfl⟩
        case rest =>
          obtain ⟨rfl, rfl⟩ := hcut
          have hgl : (gapA k).length ≤ 1 := by unfold gapA; split <;> simp
          have hal2 : (acc ++ gapA k).length ≤ 200000001 := by rw [List.length_append]; omega
          have HST2 : Hid (wordsT (l.take (k + 1)) = (acc ++ gapA k) ++ (barT t.bar ++ (t.name ++ (signsA.getD t.op.toNat [] ++ t.ver)))) := Lib.hid (by rw [HST.out, HA.out, wordT]; simp)
          generalize acc ++ gapA k = a2 at hal2 HST2 ⊢
          clear HST HA hal
          go_upto_if 26 with fail
          go_cut [5] (fun s5 wy => s5 = .string (bs (a2 ++ barT t.bar)) ∧ wr = wy)
          case first =>
            cases hbar : t.bar with
            | true =>
              have o1 : ¬ 9223372036854775807 < a2.length + 1 := by omega
              go_wp2_with fail
              go_meet
              exact ⟨by first | rfl | (rw [hbar]; rfl), rfl⟩
            | false =>
              have HG : Hid (a2 ++ barT false = a2) := Lib.hid (by simp [barT])
              go_wp2_with fail
              go_meet
              exact ⟨by first | rw [HG.out] | (rw [hbar, HG.out]), rfl⟩
          case rest =>
            obtain ⟨rfl, rfl⟩ := hcut
            have hbl : (barT t.bar).length ≤ 1 := by cases h : t.bar <;> simp [barT]
            have hal3 : (a2 ++ barT t.bar).length ≤ 200000002 := by rw [List.length_append]; omega
            have HST3 : Hid (wordsT (l.take (k + 1)) = (a2 ++ barT t.bar) ++ (t.name ++ (signsA.getD t.op.toNat [] ++ t.ver))) := Lib.hid (by rw [HST2.out]; simp)
            generalize a2 ++ barT t.bar = a3 at hal3 HST3 ⊢
            clear HST2 hal2
            obtain ⟨o, Ho⟩ : ∃ o, Hid (t.op = o) := ⟨_, Lib.hid rfl⟩
            rw [Ho.out] at c2 hop HST3
            obtain ⟨i, rfl⟩ := Int.eq_ofNat_of_zero_le hop.1
            have hi7 : i < 7 := by omega
            have hrel := fun W => rsign_any i hi7 W
            have hsl2 := sgn_len i
            rw [show ((i : Int)).toNat = i by omega] at HST3
            generalize signsA.getD i [] = sg at hrel HST3 hsl2
            have o1 : ¬ 9223372036854775807 < a3.length + t.name.length := by omega
            have o2 : ¬ 9223372036854775807 < a3.length + t.name.length + sg.length := by omega
            have o3 : ¬ 9223372036854775807 < a3.length + (t.name.length + sg.length) := by omega
            have o4 : ¬ 9223372036854775807 < a3.length + (t.name.length + sg.length) + t.ver.length := by omega
            go_wp2_with fail
            refine wp_region_plan (fun W => W.cell? ⟨b, off + k * 4 + 1, none⟩ = some (.string (bs t.name)) ∧ W.cell? ⟨b, off + k * 4 + 2, none⟩ = some (.int .i64 i) ∧ W.cell? ⟨b, off + k * 4 + 3, none⟩ = some (.string (bs t.ver))) [(false, 0), (false, 1), (false, 2), (false, 3), (false, 4), (false, 5), (false, 6), (false, 7), (false, 8), (false, 9), (false, 10), (false, 11), (false, 12), (false, 13), (false, 16), (false, 17), (false, 18), (false, 19), (false, 20), (false, 21), (true, 14), (false, 15), (false, 22), (false, 23)] (by kernel_rfl) (by kernel_rfl) (⟨by simpa using c1, by simpa using c2, by simpa using c3⟩) ?_
            simp only [planOps, List.map, List.getD_cons_zero, List.getD_cons_succ]
            iterate 20 ((first | refine plan_quiet (v := ?_) rfl rfl (fun w' hw' => ?_) ?_ | refine plan_calm (v := ?_) (tt_of) rfl (fun w' hw' => ?_) ?_); rotate_left; (focus (go_simp <;> with_reducible rfl)); simp only [Act.put, List.setIfInBounds_toArray, List.set_cons_zero, List.set_cons_succ])
            refine plan_loud rfl (fun K hK => ?_)
            go_simp
            refine (hrel _).mono ?_
            rintro e w3 ⟨rfl, hb3⟩
            have c1' := (hb3.cell (p := ⟨b, off + k * 4 + 1, none⟩) (lt_of_cell c1)).trans c1
            have c2' := (hb3.cell (p := ⟨b, off + k * 4 + 2, none⟩) (lt_of_cell c2)).trans c2
            have c3' := (hb3.cell (p := ⟨b, off + k * 4 + 3, none⟩) (lt_of_cell c3)).trans c3
            refine hK _ _ (⟨c1', c2', c3'⟩) ?_
            clear hK K
            (try simp only [Act.put, List.setIfInBounds_toArray, List.set_cons_zero, List.set_cons_succ])
            iterate 3 ((first | refine plan_quiet (v := ?_) rfl rfl (fun w' hw' => ?_) ?_ | refine plan_calm (v := ?_) (tt_of) rfl (fun w' hw' => ?_) ?_); rotate_left; (focus (go_simp <;> with_reducible rfl)); simp only [Act.put, List.setIfInBounds_toArray, List.set_cons_zero, List.set_cons_succ])
            refine plan_end ?_
            go_wp2_with fail
            go_roundg (l.length - (k + 1))
            case measure => omega
            case rel => exact ⟨k + 1, _, by omega, rfl, by go_num, hbw.drew.trans (hb3.mono hbw.drew.size), rfl, Lib.hid (by rw [HST3.out])⟩
      · obtain rfl : k = l.length := by omega
        rw [List.take_length] at HA
        go_wp2_with fail
        go_ret2
        exact ⟨by rw [HP2.out, HA.out]; rfl, hbw⟩
  · have HV : Hid (printA l = ([], chkA l)) := Lib.hid (by rw [HP.out, if_neg h0])
    generalize chkA l = ee at h0 HV
    have hee : (ee != 0) = true := by simpa using h0
    clear h0
    go_wp2_with fail
    go_ret2
    exact ⟨by rw [HV.out]; rfl, hb1⟩
set_option maxRecDepth 20000 in
set_option maxHeartbeats 8000000 in
theorem law_printsA (v : Value) (l : List Wt) (s : ByteArray) (w : World) (hsl : Sl 4 Rwant nowhere w v l) (hs : s.size ≤ maxLen) (hw : Words w) (hg : SignsA w) (he : ErrT w) :
    Calls Tryz.prog 3 #[v, .string s] w fun e w' => e = .returned (.bool true) ∧ Below w.heap.size w w' := by
  obtain ⟨a, rfl⟩ : ∃ l, s = bs l := ⟨_, bs_self s⟩
  clear hs
  have hz : ((bs a).size : Int) = (a.length : Int) := by rw [bs_size]
  go_enter Tryz.func3, Tryz.ntmps3
  go_wp2_with fail
  refine (awakeA _ hw hg he).mono ?_
  rintro e w1 ⟨rfl, hb1⟩
  have hsl1 := Below.sl good_want hb1 hsl
  go_wp2_with fail
  refine (light_anyA l v nowhere _ hsl1).mono ?_
  rintro e wq ⟨rfl, rfl⟩
  cases hL : lightA l with
  | false =>
    go_wp2_with fail
    go_ret
    exact ⟨rfl, hb1⟩
  | true =>
    have hF := light_as l hL
    clear hL
    by_cases hn : 1000 < a.length
    · have hd : decide ((1000 : Int) < ((bs a).size : Int)) = true := by rw [hz]; simp; omega
      go_wp2_with fail
      go_ret
      exact ⟨rfl, hb1⟩
    · have hd : decide ((1000 : Int) < ((bs a).size : Int)) = false := by rw [hz]; simp; omega
      have HF := Lib.hid hF
      clear hF
      have hw2 := hw.below hb1
      have hg2 := hg.below hb1
      go_wp2_with fail
      refine (aprint_any l v nowhere _ hsl1 HF.out hw2 hg2).mono ?_
      rintro e w3 ⟨rfl, hb3⟩
      have hsl3 := Below.sl good_want hb3 hsl1
      have hw3 := hw2.below hb3
      go_wp2_with fail
      refine (rprint_any l v nowhere _ hsl3 HF.out).mono ?_
      rintro e w4 ⟨rfl, hb4⟩
      have hsl4 := Below.sl good_want hb4 hsl3
      have hw4 := hw3.below hb4
      obtain ⟨x, y⟩ := printA l
      have e1 := beq_bs x
      have e2 : (y == y) = true := by simp
      go_wp2_with fail
      refine (awcheck_any l v nowhere _ hsl4 HF.out hw4).mono ?_
      rintro e w5 ⟨rfl, hb5⟩
      have hsl5 := Below.sl good_want hb5 hsl4
      go_wp2_with fail
      refine (rchk_any l v nowhere _ hsl5 HF.out).mono ?_
      rintro e w6 ⟨rfl, hb6⟩
      obtain ⟨c, Hc⟩ : ∃ c, Hid (chkA l = c) := ⟨_, Lib.hid rfl⟩
      rw [Hc.out]
      have e3 : (c == c) = true := by simp
      go_wp2_with fail
      refine (aname_any a _ (by omega)).mono ?_
      rintro e wq ⟨rfl, rfl⟩
      go_wp2_with fail
      refine (rname_any a _ (by omega)).mono ?_
      rintro e wq ⟨rfl, rfl⟩
      have e4 : (anmB a == anmB a) = true := by simp
      go_wp2_with fail
      go_ret
      exact ⟨rfl, below_trans hb1 (below_trans hb3 (below_trans hb4 (below_trans hb5 hb6)))⟩
end Go.Proofs.YtfpdlmddakgilaaGreatDoor

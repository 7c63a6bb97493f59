/- Walks of the document's answer for ddep (drayageref14): in, made, Name, Word. Walks of the document's answer for ddep: relation, bare, Check. The walk of the document's answer for ddep: Check. -/
import Derived.Test.YtdnncbhbajciaaaDoorDdJ
import Derived.Test.YtdnncbhbajciaaaDoorVerY
namespace Go.Proofs.YtdnncbhbajciaaaDoor
open Go.RowKit
set_option maxHeartbeats 400000 in
theorem din_any (s : ByteArray) (c : UInt8) (w : World) (hs : s.size ≤ 1000000000000) :
    Calls Tryd.prog 91 #[.int .u8 (c.toNat : Int), .string s] w fun e w' => e = .returned (.bool (inB s.data.toList c)) ∧ w = w' := by
  go_enter Tryd.func91, Tryd.ntmps91
  go_wp2
  go_loop [5] (fun i => ∃ k : Nat, k ≤ s.size ∧ i = .int .i64 k ∧ Hid (Lib.indexByte s.data.toList c = findFrom c (s.data.toList.drop k) k)) (fun i => s.size - (intOf i).toNat)
  case atStart => exact ⟨0, Nat.zero_le _, rfl, (findFrom_zero c _).symm⟩
  case round =>
    obtain ⟨k, hk, rfl, HE⟩ := hrel
    by_cases hlt : k < s.size
    · have hlt' : k < s.data.toList.length := by simpa using hlt
      by_cases hc : s[k] = c
      · have hb : ((s[k].toNat : Int) == (c.toNat : Int)) = true := by rw [beq_byte]; simp [hc]
        have HF := Lib.hid (findFrom_hit c s.data.toList k hlt' hc)
        clear hc
        go_wp2
        go_ret
        exact ⟨by rw [inB, HE.out, HF.out]; simp, rfl⟩
      · have hb : ((s[k].toNat : Int) == (c.toNat : Int)) = false := by rw [beq_byte]; simp [hc]
        have HF := Lib.hid (findFrom_miss c s.data.toList k hlt' hc)
        clear hc
        go_wp2
        go_round
        case rel => exact ⟨k + 1, by omega, by go_num, HE.out.trans HF.out⟩
        case measure => simp [intOf]; omega
    · go_wp2
      go_ret
      exact ⟨by rw [inB, HE.out, findFrom_end c _ k (by simp; omega)]; rfl, rfl⟩
def goodC (o : List UInt8) (c : UInt8) : Bool := isLow c || inB o c
/-- Are the bytes from the k-th on as they should be? -/
def mFrom (o s : List UInt8) (k : Nat) : Bool := if k = 0 then headLow s && (s.drop 1).all (goodC o) else (s.drop k).all (goodC o)
theorem mFrom_zero (o s : List UInt8) (h : s ≠ []) : mFrom o s 0 = lowB s o := by
  cases s with
  | nil => exact absurd rfl h
  | cons c t =>
    rw [mFrom, if_pos rfl, lowB_eq]
    show (isLow c && t.all (goodC o)) = ((goodC o c && t.all (goodC o)) && isLow c)
    cases h1 : isLow c <;> simp [goodC, h1]
theorem mFrom_step (o s : List UInt8) (k : Nat) (h : k < s.length) : mFrom o s k = ((isLow s[k] || (decide (k ≠ 0) && inB o s[k])) && mFrom o s (k + 1)) := by
  have e1 : mFrom o s (k + 1) = (s.drop (k + 1)).all (goodC o) := by rw [mFrom, if_neg (by omega)]
  rw [e1, mFrom]
  by_cases h0 : k = 0
  · subst h0
    rw [if_pos rfl]
    have : headLow s = isLow s[0] := by have := drop_head s 0 h; simpa using this
    rw [this]
    simp
  · rw [if_neg h0, List.drop_eq_getElem_cons h, List.all_cons]
    simp [goodC, h0]
theorem mFrom_end (o s : List UInt8) (k : Nat) (h : s.length ≤ k) (h0 : s ≠ []) : mFrom o s k = true := by
  have : 0 < s.length := List.length_pos_iff.2 h0
  rw [mFrom, if_neg (by omega), List.drop_eq_nil_of_le h]; rfl
def madeR (s o : List UInt8) (least most : Nat) : Bool := decide (least ≤ s.length) && decide (s.length ≤ most) && lowB s o
theorem nameB_made (s : List UInt8) : nameB s = madeR s [43, 46, 45] 2 64 := rfl
theorem wordB_made (s : List UInt8) : wordB s = madeR s [45] 1 32 := by
  cases s with
  | nil => rfl
  | cons c t => simp [wordB, madeR]
set_option maxRecDepth 20000 in
set_option maxHeartbeats 4000000 in
theorem emade_any (s o : List UInt8) (lo hi : Nat) (w : World) (hs : s.length ≤ 1000000000) (ho : o.length ≤ 1000000000) (hlo : 1 ≤ lo) :
    Calls Tryd.prog 54 #[.string (bs s), .string (bs o), .int .i64 lo, .int .i64 hi] w fun e w' => e = .returned (.bool (madeR s o lo hi)) ∧ w = w' := by
  have hz : ((bs s).size : Int) = (s.length : Int) := by rw [bs_size]
  have HV : Hid (madeR s o lo hi = (!decide ((bs s).size < lo) && !decide (hi < (bs s).size) && lowB s o)) := Lib.hid (by
    rw [madeR, bs_size]; congr 2 <;> (rw [Bool.eq_iff_iff]; simp))
  go_enter Tryd.func54, Tryd.ntmps54
  cases h1 : decide ((bs s).size < lo) with
  | true =>
    clear hz
    have h1' : (bs s).size < lo := by simpa using h1
    go_wp2_with fail
    go_ret
    exact ⟨by rw [HV.out, h1]; rfl, rfl⟩
  | false =>
    cases h2 : decide (hi < (bs s).size) with
    | true =>
      clear hz
      have h1' : ¬ (bs s).size < lo := by simpa using h1
      have h2' : hi < (bs s).size := by simpa using h2
      go_wp2_with fail
      go_ret
      exact ⟨by rw [HV.out, h1, h2]; rfl, rfl⟩
    | false =>
      have hne : s ≠ [] := fun e => by
        subst e
        simp at h1
        have : (bs []).size = 0 := rfl
        omega
      have HV2 : Hid (madeR s o lo hi = mFrom o s 0) := Lib.hid (by rw [HV.out, h1, h2, mFrom_zero o s hne]; rfl)
      have HN := Lib.hid hne
      have h1' : ¬ (bs s).size < lo := by simpa using h1
      have h2' : ¬ hi < (bs s).size := by simpa using h2
      clear HV hne hz
      go_wp2_with fail
      clear h1 h2 h1' h2'
      have hz : ((bs s).size : Int) = (s.length : Int) := by rw [bs_size]
      go_loopg [9] s.length (fun g s9 wr => ∃ k : Nat, k ≤ s.length ∧ g = s.length - k ∧ s9 = .int .i64 k ∧ w = wr ∧ Hid (madeR s o lo hi = mFrom o s k))
      case atStart => exact ⟨0, Nat.zero_le _, rfl, rfl, rfl, HV2⟩
      case round =>
        clear HV2
        obtain ⟨k, hk, rfl, rfl, rfl, HE⟩ := hrel
        by_cases hlt : k < s.length
        · have hks : (k : Int) < ((bs s).size : Int) := by omega
          have hks2 : k < (bs s).size := by rw [bs_size]; exact hlt
          obtain ⟨b, hb⟩ : ∃ b, b = s[k]'hlt := ⟨_, rfl⟩
          have HST : Hid (mFrom o s k = ((isLow b || (decide (k ≠ 0) && inB o b)) && mFrom o s (k + 1))) := Lib.hid (by rw [hb]; exact mFrom_step o s k hlt)
          have hbb : (bs s)[k]'hks2 = b := hb.symm
          clear hb
          go_upto_region 7 with fail
          go_cut [11] (fun s11 wx => s11 = .bool (isLow b) ∧ w = wx)
          case first =>
            have HG : Hid (isLow b = ((decide ((97 : Int) ≤ b.toNat) && decide ((b.toNat : Int) ≤ 122)) || (decide ((48 : Int) ≤ b.toNat) && decide ((b.toNat : Int) ≤ 57)))) := Lib.hid (by
              rw [isLow, isSmall, isDig, Bool.eq_iff_iff]; simp; omega)
            cases h1 : decide ((97 : Int) ≤ b.toNat) <;> cases h2 : decide ((b.toNat : Int) ≤ 122) <;> cases h3 : decide ((48 : Int) ≤ b.toNat) <;> cases h4 : decide ((b.toNat : Int) ≤ 57)
            all_goals
              rw [h1, h2, h3, h4] at HG
              go_wp2_with fail
              go_meet
              exact ⟨by rw [HG.out]; rfl, rfl⟩
          case rest =>
            obtain ⟨rfl, rfl⟩ := hcut
            cases hl : isLow b with
            | true =>
              go_wp2_with fail
              go_roundg (s.length - (k + 1))
              case measure => omega
              case rel => exact ⟨k + 1, by omega, rfl, by go_num, rfl, Lib.hid (by rw [HE.out, HST.out, hl]; rfl)⟩
            | false =>
              by_cases h0 : k = 0
              · subst h0
                go_wp2_with fail
                go_ret
                exact ⟨by rw [HE.out, HST.out, hl]; rfl, rfl⟩
              · have h0b : ((k : Int) == 0) = false := by simpa using h0
                have H0 : Hid (decide (k ≠ 0) = true) := Lib.hid (by simpa using h0)
                clear h0
                go_wp2_with fail
                refine (din_any (bs o) b _ (by rw [bs_size]; omega)).mono ?_
                rintro e wq ⟨rfl, rfl⟩
                rw [bs_list]
                cases hi : inB o b with
                | true =>
                  go_wp2_with fail
                  go_roundg (s.length - (k + 1))
                  case measure => omega
                  case rel => exact ⟨k + 1, by omega, rfl, by go_num, rfl, Lib.hid (by rw [HE.out, HST.out, hl, hi, H0.out]; rfl)⟩
                | false =>
                  go_wp2_with fail
                  go_ret
                  exact ⟨by rw [HE.out, HST.out, hl, hi, H0.out]; rfl, rfl⟩
        · obtain rfl : k = s.length := by omega
          go_wp2_with fail
          go_ret
          exact ⟨by rw [HE.out, mFrom_end o s _ (Nat.le_refl _) HN.out]; rfl, rfl⟩
set_option maxHeartbeats 1000000 in
theorem ename_any (s : List UInt8) (w : World) (hs : s.length ≤ 1000000000) : Calls Tryd.prog 23 #[.string (bs s)] w fun e w' => e = .returned (.bool (nameB s)) ∧ w = w' := by
  have hm := emade_any s [43, 46, 45] 2 64 w hs (by decide) (by omega)
  rw [nameB_made]
  generalize madeR s [43, 46, 45] 2 64 = z at hm
  go_enter Tryd.func23, Tryd.ntmps23
  go_wp2_with fail
  refine hm.mono ?_
  rintro e wq ⟨rfl, rfl⟩
  go_wp2_with fail
  go_ret
  exact ⟨rfl, rfl⟩
set_option maxHeartbeats 1000000 in
theorem eword_any (s : List UInt8) (w : World) (hs : s.length ≤ 1000000000) : Calls Tryd.prog 51 #[.string (bs s)] w fun e w' => e = .returned (.bool (wordB s)) ∧ w = w' := by
  have hm := emade_any s [45] 1 32 w hs (by decide) (by omega)
  rw [wordB_made]
  generalize madeR s [45] 1 32 = z at hm
  go_enter Tryd.func51, Tryd.ntmps51
  go_wp2_with fail
  refine hm.mono ?_
  rintro e wq ⟨rfl, rfl⟩
  go_wp2_with fail
  go_ret
  exact ⟨rfl, rfl⟩
end Go.Proofs.YtdnncbhbajciaaaDoor
namespace Go.Proofs.YtdnncbhbajciaaaDoor
open Go.RowKit
set_option maxHeartbeats 2000000 in
theorem erel_any (i : Nat) (hi : i < 6) (w : World) : Calls Tryd.prog 49 #[.int .i64 i] w fun e w' => e = .returned (.string (bs (signsL.getD i []))) ∧ Below w.heap.size w w' := by
  have hb := (Below.refl w.heap.size w).alloc (Nat.le_refl _) (.cells #[.string ⟨#[]⟩, .string ⟨#[60, 60]⟩, .string ⟨#[60, 61]⟩, .string ⟨#[61]⟩, .string ⟨#[62, 61]⟩, .string ⟨#[62, 62]⟩] 9)
  obtain rfl | rfl | rfl | rfl | rfl | rfl : i = 0 ∨ i = 1 ∨ i = 2 ∨ i = 3 ∨ i = 4 ∨ i = 5 := by omega
  all_goals
    go_enter Tryd.func49, Tryd.ntmps49
    go_wp2_with fail
    go_ret
    exact ⟨rfl, hb⟩
set_option maxHeartbeats 2000000 in
theorem bare_any (a : List UInt8) (w : World) (hs : a.length ≤ 1000000000) : Calls Tryd.prog 52 #[.string (bs a)] w fun e w' => e = .returned (.string (bs (bareW a))) ∧ w = w' := by
  cases a with
  | nil =>
    have hz : (bs []).size = 0 := rfl
    go_enter Tryd.func52, Tryd.ntmps52
    go_wp2_with fail
    go_ret
    exact ⟨rfl, rfl⟩
  | cons c t =>
    have hz : (bs (c :: t)).size = t.length + 1 := by rw [bs_size]; rfl
    have hpos : 0 < (bs (c :: t)).size := by omega
    have hb0 : (bs (c :: t))[0]'hpos = c := rfl
    have HX : Hid ((bs (c :: t)).extract 1 (t.length + 1) = bs t) := Lib.hid (by rw [← hz, ext_drop]; rfl)
    by_cases hc : c = 33
    · subst hc
      go_enter Tryd.func52, Tryd.ntmps52
      go_wp2_with fail
      rw [HX.out]
      go_ret
      exact ⟨rfl, rfl⟩
    · have HV : Hid (bareW (c :: t) = c :: t) := Lib.hid (by
        unfold bareW
        split
        · rename_i e; injection e with e; exact absurd e hc
        · rfl)
      have hcb : ((c.toNat : Int) == 33) = false := by rw [show (33 : Int) = ((33 : UInt8).toNat : Int) from rfl, beq_byte]; simpa using hc
      go_enter Tryd.func52, Tryd.ntmps52
      go_wp2_with fail
      go_ret
      exact ⟨by rw [HV.out]; rfl, rfl⟩
end Go.Proofs.YtdnncbhbajciaaaDoor
namespace Go.Proofs.YtdnncbhbajciaaaDoor
open Go.RowKit
theorem sumT_le (l : List (List Tm)) (k : Nat) : sumT (l.take k) ≤ sumT l := by
  have h : sumT (l.take k) + sumT (l.drop k) = sumT l := by
    rw [sumT, sumT, sumT, ← List.sum_append, ← List.map_append, List.take_append_drop]
  omega
set_option maxRecDepth 20000 in
set_option maxHeartbeats 8000000 in
theorem echeck_any (l : List (List Tm)) (v : Value) (X : Nat → Prop) (w : World) (hsl : Sl 1 Rgroup X w v l) (hF : FS l) (hw : Words w) :
    Calls Tryd.prog 21 #[v] w fun e w' => e = .returned (.int .i64 (chkS l)) ∧ Below w.heap.size w w' := by
  obtain ⟨A, cap, rfl, hc1, hc2⟩ := hsl.form
  obtain ⟨s1, s2⟩ := hF
  unfold maxLen at hc2
  have HT : Hid (chkS l = if 64 < sumT l then 4 else if l.any (·.isEmpty) = true then 3 else firstE l.flatten) := Lib.hid rfl
  have HS2 := Lib.hid s2
  clear s2
  go_enter Tryd.func21, Tryd.ntmps21
  go_wp2_with fail
  go_loopg [3, 4] l.length (fun G s3 s4 wr => ∃ k : Nat, k ≤ l.length ∧ G = l.length - k ∧ s4 = .int .i64 k ∧ w = wr ∧ ∃ n : Nat, s3 = .int .i64 n ∧ n ≤ 64 ∧ Hid (n = sumT (l.take k)))
  case atStart => exact ⟨0, Nat.zero_le _, rfl, rfl, rfl, 0, rfl, by omega, Lib.hid rfl⟩
  case round =>
    obtain ⟨k, hk, rfl, rfl, rfl, n, rfl, hn, HN⟩ := hrel
    by_cases hlt : k < l.length
    · obtain ⟨b, off, rfl, _, hc⟩ := hsl.group (by omega)
      obtain ⟨vg, ck, hsg⟩ := hc k hlt
      obtain ⟨A2, cap2, rfl, _, _⟩ := hsg.form
      have hgl := (HS2.out _ (List.getElem_mem hlt)).1
      have HST := Lib.hid (sumT_take l k hlt)
      clear hc
      have HLE := Lib.hid (sumT_le l (k + 1))
      generalize l[k] = gr at ck hsg hgl HST
      by_cases hbig : 64 - (n : Int) < gr.length
      · have HV : Hid (chkS l = 4) := Lib.hid (by
          have h1 := HST.out
          have h2 := HN.out
          have h3 := HLE.out
          rw [HT.out, if_pos (by omega)])
        have hbb : decide (64 - (n : Int) < (gr.length : Int)) = true := by simpa using hbig
        go_wp2_with fail
        go_ret
        exact ⟨by rw [HV.out]; rfl, Below.refl _ _⟩
      · have hbb : decide (64 - (n : Int) < (gr.length : Int)) = false := by simpa using hbig
        go_wp2_with fail
        go_roundg (l.length - (k + 1))
        case measure => omega
        case rel => exact ⟨k + 1, by omega, rfl, by go_num, rfl, n + gr.length, by go_num, by omega, Lib.hid (by rw [HST.out, ← HN.out])⟩
    · obtain rfl : k = l.length := by omega
      rw [List.take_length] at HN
      have HT2 : Hid (chkS l = if l.any (·.isEmpty) = true then 3 else firstE l.flatten) := Lib.hid (by rw [HT.out, if_neg (by rw [← HN.out]; omega)])
      clear HT HN
      go_wp2_with fail
      go_loopg [5] l.length (fun G s5 wr => ∃ k : Nat, k ≤ l.length ∧ G = l.length - k ∧ s5 = .int .i64 k ∧ w = wr ∧ Hid (l.any (·.isEmpty) = (l.drop k).any (·.isEmpty)))
      case atStart => exact ⟨0, Nat.zero_le _, rfl, rfl, rfl, Lib.hid rfl⟩
      case round =>
        clear hk hlt
        obtain ⟨k, hk, rfl, rfl, rfl, HE⟩ := hrel
        by_cases hlt : k < l.length
        · obtain ⟨b, off, rfl, _, hc⟩ := hsl.group (by omega)
          obtain ⟨vg, ck, hsg⟩ := hc k hlt
          obtain ⟨A2, cap2, rfl, _, _⟩ := hsg.form
          have HST := Lib.hid (anyE_drop l k hlt)
          clear hc
          generalize l[k] = gr at ck hsg HST
          by_cases hg : gr = []
          · subst hg
            have HV : Hid (chkS l = 3) := Lib.hid (by rw [HT2.out, if_pos (by rw [HE.out, HST.out]; rfl)])
            go_wp2_with fail
            go_ret
            exact ⟨by rw [HV.out]; rfl, Below.refl _ _⟩
          · have hgl : 0 < gr.length := List.length_pos_iff.2 hg
            have hgb : ((gr.length : Int) == 0) = false := by simpa using hg
            have HG : Hid (gr.isEmpty = false) := Lib.hid (by simpa using hg)
            clear hg
            go_wp2_with fail
            go_roundg (l.length - (k + 1))
            case measure => omega
            case rel => exact ⟨k + 1, by omega, rfl, by go_num, rfl, Lib.hid (by rw [HE.out, HST.out, HG.out]; rfl)⟩
        · obtain rfl : k = l.length := by omega
          have HT3 : Hid (chkS l = firstE l.flatten) := Lib.hid (by rw [HT2.out, if_neg (by rw [HE.out, List.drop_length]; simp)])
          clear HT2 HE
          go_wp2_with fail
          go_loopg [6] l.length (fun G s6 wr => ∃ k : Nat, k ≤ l.length ∧ G = l.length - k ∧ s6 = .int .i64 k ∧ Below w.heap.size w wr ∧ Hid (chkS l = firstE (l.drop k).flatten))
          case atStart => exact ⟨0, Nat.zero_le _, rfl, rfl, Below.refl _ _, HT3⟩
          case round =>
            clear hk hlt HT3
            obtain ⟨k, hk, rfl, rfl, hbw, HE⟩ := hrel
            by_cases hlt : k < l.length
            · have hslr := hsl.keep good_group (Kept.of_below hbw X)
              obtain ⟨b, off, rfl, _, hc⟩ := hslr.group (by omega)
              obtain ⟨vg, ck, hsg⟩ := hc k hlt
              obtain ⟨A2, cap2, rfl, hg1, hg2⟩ := hsg.form
              unfold maxLen at hg2
              have HST := Lib.hid (flat_drop l k hlt)
              have hsb := HS2.out _ (List.getElem_mem hlt)
              obtain ⟨hgl, hsb⟩ := hsb
              clear hc
              generalize l[k] = gr at ck hsg HST hgl hsb hg1
              have HSB := Lib.hid hsb
              clear hsb
              obtain ⟨rest, HR⟩ : ∃ r, Hid ((l.drop (k + 1)).flatten = r) := ⟨_, Lib.hid rfl⟩
              rw [HR.out] at HST
              go_wp2_with fail
              go_loopg [7] gr.length (fun G s7 wx => ∃ j : Nat, j ≤ gr.length ∧ G = gr.length - j ∧ s7 = .int .i64 j ∧ Below w.heap.size w wx ∧ Below wr.heap.size wr wx ∧ Hid (chkS l = firstE (gr.drop j ++ rest)))
              case atStart => exact ⟨0, Nat.zero_le _, rfl, rfl, hbw, Below.refl _ _, Lib.hid (by rw [HE.out, HST.out]; rfl)⟩
              case round =>
                clear HE HST
                obtain ⟨j, hj, rfl, rfl, hbx, hbx2, HE⟩ := hrel
                have ckx := (hbx2.cell (p := ⟨b, off + k, none⟩) (lt_of_cell ck)).trans ck
                by_cases hjl : j < gr.length
                · have hsgx := hsg.keep good_term (Kept.of_below hbx2 X)
                  obtain ⟨b2, off2, rfl, _, hc⟩ := hsgx.term (by omega)
                  obtain ⟨va, ⟨c0, c1, c2, c3, c4⟩, hsa⟩ := hc j hjl
                  obtain ⟨A3, cap3, rfl, _, _⟩ := hsa.form
                  have HST := Lib.hid (firstE_group gr j hjl rest)
                  obtain ⟨hTS, hTJ⟩ := HSB.out _ (List.getElem_mem hjl)
                  clear hc
                  generalize gr[j] = t at c0 c1 c2 c3 c4 hsa HST hTS hTJ
                  have HErr : Hid (∀ e, tErr t = e → e ≠ 0 → chkS l = e) := Lib.hid (fun e h1 h2 => by rw [HE.out, HST.out, if_neg (by rw [h1]; exact h2), h1])
                  have HOk : Hid (tErr t = 0 → chkS l = firstE (gr.drop (j + 1) ++ rest)) := Lib.hid (fun h1 => by rw [HE.out, HST.out, if_pos h1])
                  clear HE HST
                  have bT : TB (wr.alloc (.cells #[.string (bs t.name), .int .i64 t.op, .string (bs t.ver), .string (bs t.qual), .slice A3 t.archs.length cap3] 50)) wr.heap.size t.name t.op t.ver t.qual (.slice A3 t.archs.length cap3) := Blk.new wr _ _
                  have ha1 : Below wr.heap.size wr (wr.alloc (.cells #[.string (bs t.name), .int .i64 t.op, .string (bs t.ver), .string (bs t.qual), .slice A3 t.archs.length cap3] 50)) := (Below.refl _ _).alloc (Nat.le_refl _) _
                  have hsl1 := hsa.keep good_text (Kept.of_below ha1 X)
                  obtain ⟨s1', s2', s3', s4', s5'⟩ := hTS
                  go_upto_region 20 with fail
                  generalize wr.alloc (.cells #[.string (bs t.name), .int .i64 t.op, .string (bs t.ver), .string (bs t.qual), .slice A3 t.archs.length cap3] 50) = w1 at bT ha1 hsl1 ⊢
                  obtain ⟨d0, d1, d2, d3, d4⟩ := TB.cells bT
                  have q1 := hbx.trans (ha1.mono hbx.size)
                  have q2 := hbx2.trans (ha1.mono hbx2.size)
                  clear hbx hbx2 hsa c0 c1 c2 c3 c4 hsgx ha1
                  go_cut [81] (fun s81 wx => s81 = .bool (nmBad t) ∧ w1 = wx)
                  case first =>
                    go_wp2_with fail
                    refine (ename_any t.name _ (by omega)).mono ?_
                    rintro e wq ⟨rfl, rfl⟩
                    have HN : Hid (nmBad t = (!nameB t.name || (!t.qual.isEmpty && !wordB t.qual))) := Lib.hid rfl
                    cases hn : nameB t.name with
                    | false =>
                      go_wp2_with fail
                      go_meet
                      exact ⟨by rw [HN.out, hn]; rfl, rfl⟩
                    | true =>
                      by_cases hq : t.qual = []
                      · have n1 : (bs t.qual).toList = [] := by rw [toList_bs]; exact hq
                        have n2 : (bs t.qual).toList.isEmpty = true := by rw [n1]; rfl
                        have HQ := Lib.hid hq
                        clear hq
                        go_wp2_with fail
                        go_meet
                        exact ⟨by rw [HN.out, hn, HQ.out]; rfl, rfl⟩
                      · have n1 : ¬ (bs t.qual).toList = [] := by rw [toList_bs]; exact hq
                        have n2 : (bs t.qual).toList.isEmpty = false := by simpa using n1
                        have HQ : Hid (t.qual.isEmpty = false) := Lib.hid (by simpa using hq)
                        clear hq
                        go_wp2_with fail
                        refine (eword_any t.qual _ (by omega)).mono ?_
                        rintro e wq ⟨rfl, rfl⟩
                        go_wp2_with fail
                        go_meet
                        exact ⟨by rw [HN.out, hn, HQ.out]; rfl, rfl⟩
                  case rest =>
                    obtain ⟨rfl, rfl⟩ := hcut
                    have HT : Hid (tErr t = if nmBad t = true then 10 else if arBad t.archs = true then 10 else if opBad t = true then 1 else if t.op = 0 then 0 else vErr 1 t.ver) := Lib.hid rfl
                    cases hnb : nmBad t with
                    | true =>
                      have HV : Hid (chkS l = 10) := Lib.hid (HErr.out 10 (by rw [HT.out, if_pos hnb]) (by omega))
                      clear HT
                      go_wp2_with fail
                      go_ret
                      exact ⟨by rw [HV.out]; rfl, q1⟩
                    | false =>
                      have HT2 : Hid (tErr t = if arBad t.archs = true then 10 else if opBad t = true then 1 else if t.op = 0 then 0 else vErr 1 t.ver) := Lib.hid (by rw [HT.out, if_neg (by rw [hnb]; simp)])
                      clear HT hnb
                      go_wp2_with fail
                      go_loopg [9] t.archs.length (fun G s9 wy => ∃ i : Nat, i ≤ t.archs.length ∧ G = t.archs.length - i ∧ s9 = .int .i64 i ∧ w1 = wy ∧ Hid (arBad t.archs = arBad (t.archs.drop i)))
                      case atStart => exact ⟨0, Nat.zero_le _, rfl, rfl, rfl, Lib.hid rfl⟩
                      case round =>
                        obtain ⟨i, hi, rfl, rfl, rfl, HE⟩ := hrel
                        by_cases hil : i < t.archs.length
                        · obtain ⟨_, _, _, b3, off3, rfl, hc⟩ := hsl1.text (by omega)
                          have cki := hc i hil
                          have ha := s5' _ (List.getElem_mem hil)
                          have HST := Lib.hid (any_drop t.archs (fun a => !wordB (bareW a)) i hil)
                          clear hc
                          generalize t.archs[i] = a at cki ha HST
                          have hbw2 := bareW_len a
                          go_wp2_with fail
                          refine (bare_any a _ (by omega)).mono ?_
                          rintro e wq ⟨rfl, rfl⟩
                          go_wp2_with fail
                          refine (eword_any (bareW a) _ (by omega)).mono ?_
                          rintro e wq ⟨rfl, rfl⟩
                          cases hwb : wordB (bareW a) with
                          | true =>
                            go_wp2_with fail
                            go_roundg (t.archs.length - (i + 1))
                            case measure => omega
                            case rel => exact ⟨i + 1, by omega, rfl, by go_num, rfl, Lib.hid (by rw [HE.out, arBad, HST.out, hwb]; rfl)⟩
                          | false =>
                            have HV : Hid (chkS l = 10) := Lib.hid (HErr.out 10 (by rw [HT2.out, if_pos (by rw [HE.out, arBad, HST.out, hwb]; rfl)]) (by omega))
                            go_wp2_with fail
                            go_ret
                            exact ⟨by rw [HV.out]; rfl, q1⟩
                        · obtain rfl : i = t.archs.length := by omega
                          have HT3 : Hid (tErr t = if opBad t = true then 1 else if t.op = 0 then 0 else vErr 1 t.ver) := Lib.hid (by rw [HT2.out, if_neg (by rw [HE.out, List.drop_length]; simp [arBad])])
                          have HO : Hid (opBad t = ((decide (t.op < 0) || decide (5 < t.op)) || (decide (t.op = 0) && !t.ver.isEmpty))) := Lib.hid rfl
                          clear HT2 HE
                          obtain ⟨o, Ho⟩ : ∃ o, Hid (t.op = o) := ⟨_, Lib.hid rfl⟩
                          rw [Ho.out] at d1 HT3 HO
                          by_cases h1 : o < 0
                          · have b1 : decide (o < 0) = true := by simpa using h1
                            have HV : Hid (chkS l = 1) := Lib.hid (HErr.out 1 (by rw [HT3.out, if_pos (by rw [HO.out, b1]; rfl)]) (by omega))
                            go_wp2_with fail
                            go_ret
                            exact ⟨by rw [HV.out]; rfl, q1⟩
                          · have b1 : decide (o < 0) = false := by simpa using h1
                            by_cases h5 : 5 < o
                            · have b5 : decide (5 < o) = true := by simpa using h5
                              have HV : Hid (chkS l = 1) := Lib.hid (HErr.out 1 (by rw [HT3.out, if_pos (by rw [HO.out, b5]; simp)]) (by omega))
                              go_wp2_with fail
                              go_ret
                              exact ⟨by rw [HV.out]; rfl, q1⟩
                            · have b5 : decide (5 < o) = false := by simpa using h5
                              by_cases h0 : o = 0
                              · by_cases hv : t.ver = []
                                · have HV : Hid (chkS l = firstE (gr.drop (j + 1) ++ rest)) := Lib.hid (HOk.out (by rw [HT3.out, if_neg (by rw [HO.out, b1, b5, hv]; simp), if_pos h0]))
                                  have n1 : (bs t.ver).toList = [] := by rw [toList_bs]; exact hv
                                  have n2 : (bs t.ver).toList.isEmpty = true := by rw [n1]; rfl
                                  subst h0
                                  clear hv
                                  go_wp2_with fail
                                  go_roundg (gr.length - (j + 1))
                                  case measure => omega
                                  case rel => exact ⟨j + 1, by omega, rfl, by go_num, q1, q2, HV⟩
                                · have n1 : ¬ (bs t.ver).toList = [] := by rw [toList_bs]; exact hv
                                  have n2 : (bs t.ver).toList.isEmpty = false := by simpa using n1
                                  have HV : Hid (chkS l = 1) := Lib.hid (HErr.out 1 (by rw [HT3.out, if_pos (by rw [HO.out, h0]; simp [hv])]) (by omega))
                                  subst h0
                                  clear hv
                                  go_wp2_with fail
                                  go_ret
                                  exact ⟨by rw [HV.out]; rfl, q1⟩
                              · have b0 : (o == 0) = false := by simpa using h0
                                have b6 : decide (0 < o) = true := by simp; omega
                                have HV : Hid (tErr t = vErr 1 t.ver) := Lib.hid (by rw [HT3.out, if_neg (by rw [HO.out, b1, b5]; simp [h0]), if_neg h0])
                                clear h0 h1 h5
                                go_wp2_with fail
                                refine (rcheck_any 1 t.ver _ (by omega)).mono ?_
                                rintro e w2 ⟨rfl, hb2⟩
                                have p1 := q1.trans (hb2.mono q1.size)
                                have p2 := q2.trans (hb2.mono q2.size)
                                by_cases he : vErr 1 t.ver = 0
                                · have HW := Lib.hid (HOk.out (HV.out.trans he))
                                  rw [he]
                                  go_wp2_with fail
                                  go_roundg (gr.length - (j + 1))
                                  case measure => omega
                                  case rel => exact ⟨j + 1, by omega, rfl, by go_num, p1, p2, HW⟩
                                · have HW := Lib.hid (HErr.out _ HV.out he)
                                  generalize vErr 1 t.ver = ee at he HW
                                  have hee : (ee != 0) = true := by simpa using he
                                  clear he
                                  go_wp2_with fail
                                  go_ret
                                  exact ⟨by rw [HW.out]; rfl, p1⟩
                · obtain rfl : j = gr.length := by omega
                  go_wp2_with fail
                  go_roundg (l.length - (k + 1))
                  case measure => omega
                  case rel => exact ⟨k + 1, by omega, rfl, by go_num, hbx, Lib.hid (by rw [HE.out, List.drop_length, HR.out]; rfl)⟩
            · obtain rfl : k = l.length := by omega
              have HV : Hid (chkS l = 0) := Lib.hid (by rw [HE.out, List.drop_length]; rfl)
              go_wp2_with fail
              go_ret
              exact ⟨by rw [HV.out]; rfl, hbw⟩
end Go.Proofs.YtdnncbhbajciaaaDoor

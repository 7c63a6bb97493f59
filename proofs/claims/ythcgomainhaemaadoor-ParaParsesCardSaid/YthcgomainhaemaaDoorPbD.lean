/- The walk of the document's Parse of paragraphs. Printed by gen_pbd.py. -/
import Derived.Test.YthcgomainhaemaaDoorPbC
import Derived.Test.YthcgomainhaemaaDoorPaZ
namespace Go.Proofs.YthcgomainhaemaaDoor
open Go.RowKit
theorem plines_sub (s : List UInt8) : (plines s).length ≤ s.length + 1 ∧ ∀ x ∈ plines s, x.length ≤ s.length := by
  obtain ⟨h1, h2⟩ := splitP_len s [] s.length (by simp)
  rw [plines]
  split
  · exact ⟨by rw [List.length_dropLast]; have : (splitB 10 s).length ≤ s.length + 1 := h1; omega, fun x hx => h2 x (List.dropLast_subset _ hx)⟩
  · exact ⟨h1, h2⟩
theorem foldP_drop (L : List (List UInt8)) (i : Nat) (h : i < L.length) (a : Int) (s : PSt) : foldP (L.drop i) a s = if (lineP s L[i]).2 = 0 then foldP (L.drop (i + 1)) (a + (L[i]).length + 1) (lineP s L[i]).1 else ([], a, (lineP s L[i]).2) := by
  rw [List.drop_eq_getElem_cons h, foldP]
theorem bd_push {cur : List Fd} {N V : List UInt8} {i C : Nat} (h : ∀ f ∈ cur, f.2.length ≤ i * C) (k : V.length ≤ C) : ∀ f ∈ cur ++ [(N, V)], f.2.length ≤ (i + 1) * C := fun f hf => by
  rcases List.mem_append.1 hf with hf | hf
  · exact Nat.le_trans (h f hf) (Nat.mul_le_mul_right _ (Nat.le_succ i))
  · rw [List.mem_singleton.1 hf]
    exact Nat.le_trans k (Nat.le_mul_of_pos_left _ (Nat.succ_pos i))
theorem bd_add2 {ci : List Fd} {nm x t : List UInt8} {i C : Nat} (h : ∀ f ∈ ci ++ [(nm, x)], f.2.length ≤ i * C) (k : t.length + 1 ≤ C) : ∀ f ∈ ci ++ [(nm, x ++ 10 :: t)], f.2.length ≤ (i + 1) * C := fun f hf => by
  rcases List.mem_append.1 hf with hf | hf
  · exact Nat.le_trans (h f (List.mem_append_left _ hf)) (Nat.mul_le_mul_right _ (Nat.le_succ i))
  · rw [List.mem_singleton.1 hf]
    have h2 := h (nm, x) (by simp)
    show (x ++ 10 :: t).length ≤ _
    rw [List.length_append, List.length_cons, Nat.succ_mul]
    exact Nat.add_le_add h2 k
/-- The lines, but for the one behind the last byte 0a. -/
theorem lines_cut (s : List UInt8) (w : World) (A : Option Addr) (n cap : Nat) (h : Sl 1 Rtext nowhere w (.slice A n cap) (splitB 10 s)) (hc : s = [] ∨ s.getLast? = some 10) :
    ∃ b off, A = some ⟨b, off, none⟩ ∧ n = (plines s).length + 1 ∧ Sl 1 Rtext nowhere w (.slice (some ⟨b, off, none⟩) (plines s).length cap) (plines s) := by
  have hne := splitB_ne s
  have hpos : 0 < (splitB 10 s).length := List.length_pos_iff.2 hne
  have hn : n = (splitB 10 s).length := h.at.1
  obtain ⟨_, _, _, b, off, rfl, _⟩ := h.text (by omega)
  have hp : plines s = (splitB 10 s).take ((splitB 10 s).length - 1) := by rw [plines, if_pos hc, List.dropLast_eq_take]
  have hl : (plines s).length = (splitB 10 s).length - 1 := by rw [hp, List.length_take]; omega
  refine ⟨b, off, rfl, by omega, ?_⟩
  have := h.take ((splitB 10 s).length - 1) (by omega)
  rw [← hp, ← hl] at this
  exact this
set_option maxRecDepth 20000 in
set_option maxHeartbeats 16000000 in
theorem rparse_any (s : List UInt8) (w : World) (hs : s.length ≤ 1000000) :
    Calls Tryd.prog 14 #[.string (bs s)] w (ParseRP w (parseP s)) := by
  obtain ⟨X, hX⟩ : ∃ x, parseP s = x := ⟨_, rfl⟩
  rw [hX]
  have HX : Hid (X = foldP ((plines s).drop 0) ((0 : Nat) : Int) ⟨[], []⟩) := Lib.hid (by rw [← hX, parse_fold]; rfl)
  clear hX
  obtain ⟨hL1, hL2⟩ := plines_sub s
  have HL2 := Lib.hid hL2
  clear hL2
  have a1 := Blk.new w 30 #[.string ⟨#[]⟩, .int .i64 0, .int .i64 0]
  have hb := (Below.refl w.heap.size w).alloc (Nat.le_refl _) (.cells #[.string ⟨#[]⟩, .int .i64 0, .int .i64 0] 30)
  have hz : ((bs s).size : Int) = (s.length : Int) := by rw [bs_size]
  go_enter Tryd.func14, Tryd.ntmps14
  go_upto_region 3 with fail
  generalize w.alloc (.cells #[.string ⟨#[]⟩, .int .i64 0, .int .i64 0] 30) = w1 at a1 hb ⊢
  go_wp2_with fail
  refine (lines_any s _ (by omega)).mono ?_
  rintro e w2 ⟨⟨v, rfl, hsl⟩, hb2⟩
  have F2 := a1.below hb2 a1.lt
  have q2 := hb.trans (hb2.mono hb.size)
  clear a1 hb hb2
  obtain ⟨A, cap, rfl, hc1, hc2⟩ := hsl.form
  unfold maxLen at hc2
  go_upto_region 4 with fail
  obtain ⟨tb, htb⟩ : ∃ tb, decide (s = [] ∨ s.getLast? = some 10) = tb := ⟨_, rfl⟩
  go_cut [23] (fun s23 wx => s23 = .bool tb ∧ w2 = wx)
  case first => as_aux_lemma =>
    by_cases hs0 : s = []
    · have e0 : ((bs s).toList == []) = true := by rw [toList_bs, hs0]; rfl
      have e1 : s = [] := hs0
      have htb2 : tb = true := by rw [← htb]; simp [hs0]
      clear hsl htb hs0
      subst e1
      go_wp2_with fail
      go_meet
      exact ⟨by rw [htb2], rfl⟩
    · obtain ⟨r, c, hrc⟩ : ∃ r c, s = r ++ [c] := by
        rcases List.eq_nil_or_concat s with h | ⟨r, c, h⟩
        · exact absurd h hs0
        · exact ⟨r, c, by rw [h, List.concat_eq_append]⟩
      have hlen : s.length = r.length + 1 := by rw [hrc]; simp
      have hks2 : r.length < (bs s).size := by rw [bs_size]; omega
      have hbb : (bs s)[r.length]'hks2 = c := by
        have : s[r.length]'(by omega) = c := by subst hrc; simp
        exact this
      have hwr : IntKind.i64.wrap ((s.length : Int) - 1) = (r.length : Int) := by rw [i64_in _ (by omega) (by omega)]; omega
      have i1 : (0 : Int) ≤ (r.length : Int) := by omega
      have i2 : (r.length : Int) < ((bs s).size : Int) := by omega
      have i3 : (r.length : Int) < (s.length : Int) := by omega
      have hgl : s.getLast? = some c := by rw [hrc]; simp
      have n2 : (bs s).toList.isEmpty = false := by rw [toList_bs, hrc]; simp
      have htb2 : tb = ((c.toNat : Int) == 10) := by
        rw [← htb, hgl, show (10 : Int) = ((10 : UInt8).toNat : Int) from rfl, beq_byte]
        simp [hs0]
      clear hrc hsl htb hgl
      go_wp2_with fail
      go_meet
      exact ⟨by rw [htb2], rfl⟩
  case rest => as_aux_lemma =>
  obtain ⟨rfl, rfl⟩ := hcut
  go_upto_if 23 with fail
  go_cut [6] (fun s6 wx => (∃ A' cap', s6 = .slice A' (plines s).length cap' ∧ Sl 1 Rtext nowhere w2 (.slice A' (plines s).length cap') (plines s)) ∧ w2 = wx)
  case first => as_aux_lemma =>
    cases tb with
    | true =>
      obtain ⟨b, off, rfl, hn, hsl2⟩ := lines_cut s _ _ _ _ hsl (of_decide_eq_true htb)
      rw [hn] at hc1 ⊢
      have k1 : IntKind.i64.wrap ((((plines s).length + 1 : Nat) : Int) - 1) = ((plines s).length : Int) := by rw [i64_in _ (by omega) (by omega)]; omega
      have k2 : ((plines s).length : Int) ≤ (cap : Int) := by omega
      clear htb hn
      go_wp2_with fail
      go_meet
      exact ⟨⟨_, _, rfl, hsl2⟩, rfl⟩
    | false =>
      have hp : plines s = splitB 10 s := by rw [plines, if_neg (of_decide_eq_false htb)]
      have HP := Lib.hid hp
      clear htb hp
      go_wp2_with fail
      go_meet
      exact ⟨⟨_, _, by rw [HP.out], by rw [HP.out]; exact hsl⟩, rfl⟩
  case rest => as_aux_lemma =>
    obtain ⟨⟨A', cap', rfl, hsl2⟩, rfl⟩ := hcut
    clear hsl hc1 hc2
    generalize plines s = L at HX hL1 HL2 hsl2 ⊢
    obtain ⟨_, _, _, hc1, hc2⟩ := hsl2.form
    go_wp2_with fail
    go_loopg [4, 5, 7, 8] L.length (fun G s4 s5 s7 s8 wr => ∃ (i at_ : Nat) (st : PSt), i ≤ L.length ∧ G = L.length - i ∧ s8 = .int .i64 i ∧ s7 = .int .i64 at_ ∧ at_ ≤ i * 1000001 ∧ st.all.length ≤ i ∧ st.cur.length ≤ i ∧ (∀ f ∈ st.cur, f.2.length ≤ i * 1000001) ∧ Below w2.heap.size w2 wr ∧ TP w2.heap.size s4 s5 st wr ∧ Hid (X = foldP (L.drop i) (at_ : Int) st))
    case atStart => exact ⟨0, 0, ⟨[], []⟩, Nat.zero_le _, rfl, rfl, rfl, Nat.le_refl _, Nat.le_refl _, Nat.le_refl _, (fun f h => by cases h), Below.refl _ _, TP.new _ _, HX⟩
    case round =>
      clear HX
      obtain ⟨i, at_, st, hi, rfl, rfl, rfl, hat, hal, hcl, hfl, hbw, ht, HE⟩ := hrel
      have F4 := F2.below hbw F2.lt
      have q4 := q2.trans (hbw.mono q2.size)
      have hB := hbw.size
      obtain ⟨all, cur⟩ := st
      simp only at hal hcl hfl
      have HFL := Lib.hid hfl
      clear hfl
      obtain ⟨Ap, capp, rfl, hp1, hp2⟩ := (ht.cur.sl good_field).form
      obtain ⟨vs, v1, v2, v3⟩ := id ht.out
      obtain ⟨Ao, capo, hov⟩ := v2.form
      simp only at v1 hp1
      rw [v1] at hov
      subst hov
      unfold maxLen at hp2
      by_cases hlt : i < L.length
      · have hslr := Below.sl good_text hbw hsl2
        obtain ⟨_, _, _, b, off, rfl, hc⟩ := hslr.text (by omega)
        have ck := hc i hlt
        have hll := HL2.out _ (List.getElem_mem hlt)
        have HST := Lib.hid (HE.out.trans (foldP_drop L i hlt at_ _))
        have hno : Hid (lineP ⟨all, cur⟩ L[i] = if ctlB L[i] = true then (⟨all, cur⟩, 3) else if blankL L[i] = true then (⟨endP ⟨all, cur⟩, []⟩, 0) else if (L[i]).head? = some 32 then (if cur = [] then (⟨all, cur⟩, 15) else (⟨all, addL cur (L[i]).tail⟩, 0)) else fieldP ⟨all, cur⟩ L[i]) := Lib.hid rfl
        have i1 : (0 : Int) ≤ (i : Int) := by omega
        have i2 : (i : Int) < (L.length : Int) := by omega
        clear hc HE hslr
        generalize L[i] = ln at ck hll HST hno
        have HE := HST
        clear HST
        have hzl : ((bs ln).size : Int) = (ln.length : Int) := by rw [bs_size]
        have hwr1 : IntKind.i64.wrap ((at_ : Int) + (ln.length : Int)) = ((at_ + ln.length : Nat) : Int) := by rw [i64_in _ (by omega) (by omega)]; omega
        have hwr2 : IntKind.i64.wrap (((at_ + ln.length : Nat) : Int) + 1) = ((at_ + ln.length + 1 : Nat) : Int) := by rw [i64_in _ (by omega) (by omega)]; omega
        go_wp2_with fail
        refine (has_lit ln 0 0 rfl _ (by omega)).mono ?_
        rintro e w3 ⟨rfl, rfl⟩
        cases h0 : ln.contains 0 with
        | true =>
          have HV : Hid (X = ([], (at_ : Int), 3)) := Lib.hid (by
            have h := hno.out
            rw [if_pos (by rw [ctl_has, h0]; simp)] at h
            rw [HE.out, h]
            rfl)
          clear HE
          have f0 := F4.free 0
          have f1 := F4.free 1
          have f2 := F4.free 2
          have z0 := F4.cell 0
          have z1 := F4.cell 1
          have z2 := F4.cell 2
          simp at z0 z1 z2
          have K3 := blk_set3 F4 (.string ⟨#[]⟩) (.int .i64 (at_ : Int)) (.int .i64 3)
          have hq2 := below_set3 q4 (g := w.heap.size) (Nat.le_refl _) (.string ⟨#[]⟩) (.int .i64 (at_ : Int)) (.int .i64 3)
          go_wp2_with fail
          generalize ((wr.setCell ⟨w.heap.size, 0, none⟩ (.string ⟨#[]⟩)).setCell ⟨w.heap.size, 1, none⟩ (.int .i64 (at_ : Int))).setCell ⟨w.heap.size, 2, none⟩ (.int .i64 3) = W2 at K3 hq2 ⊢
          have k0 := K3.cell 0
          have k1 := K3.cell 1
          have k2 := K3.cell 2
          simp at k0 k1 k2
          refine bodyPost_ret (v := .tuple #[.slice none 0 0, .agg #[.string ⟨#[]⟩, .int .i64 (at_ : Int), .int .i64 3]]) (by simp [results, Tryd.results14, go_sem, k0, k1, k2]) rfl ?_
          rw [HV.out]
          exact ⟨⟨_, rfl, Sl.nil _ _ _ _⟩, hq2⟩
        | false =>
          go_wp2_with fail
          refine (has_lit ln 13 13 rfl _ (by omega)).mono ?_
          rintro e w3 ⟨rfl, rfl⟩
          cases h1 : ln.contains 13 with
          | true =>
            have HV : Hid (X = ([], (at_ : Int), 3)) := Lib.hid (by
              have h := hno.out
              rw [if_pos (by rw [ctl_has, h1]; simp)] at h
              rw [HE.out, h]
              rfl)
            clear HE
            have f0 := F4.free 0
            have f1 := F4.free 1
            have f2 := F4.free 2
            have z0 := F4.cell 0
            have z1 := F4.cell 1
            have z2 := F4.cell 2
            simp at z0 z1 z2
            have K3 := blk_set3 F4 (.string ⟨#[]⟩) (.int .i64 (at_ : Int)) (.int .i64 3)
            have hq2 := below_set3 q4 (g := w.heap.size) (Nat.le_refl _) (.string ⟨#[]⟩) (.int .i64 (at_ : Int)) (.int .i64 3)
            go_wp2_with fail
            generalize ((wr.setCell ⟨w.heap.size, 0, none⟩ (.string ⟨#[]⟩)).setCell ⟨w.heap.size, 1, none⟩ (.int .i64 (at_ : Int))).setCell ⟨w.heap.size, 2, none⟩ (.int .i64 3) = W2 at K3 hq2 ⊢
            have k0 := K3.cell 0
            have k1 := K3.cell 1
            have k2 := K3.cell 2
            simp at k0 k1 k2
            refine bodyPost_ret (v := .tuple #[.slice none 0 0, .agg #[.string ⟨#[]⟩, .int .i64 (at_ : Int), .int .i64 3]]) (by simp [results, Tryd.results14, go_sem, k0, k1, k2]) rfl ?_
            rw [HV.out]
            exact ⟨⟨_, rfl, Sl.nil _ _ _ _⟩, hq2⟩
          | false =>
            have hno2 : Hid (lineP ⟨all, cur⟩ ln = if blankL ln = true then (⟨endP ⟨all, cur⟩, []⟩, 0) else if ln.head? = some 32 then (if cur = [] then (⟨all, cur⟩, 15) else (⟨all, addL cur ln.tail⟩, 0)) else fieldP ⟨all, cur⟩ ln) := Lib.hid (by rw [hno.out, if_neg (by rw [ctl_has, h0, h1]; simp)])
            clear hno h0 h1
            have qb := beq_bs2 (bareL ln) []
            have n1 : (bs ([] : List UInt8)).toList = [] := toList_bs _
            rw [n1] at qb
            go_wp2_with fail
            refine (bare_any ln _ (by omega)).mono ?_
            rintro e w3 ⟨rfl, rfl⟩
            cases hbl : blankL ln with
            | true =>
              have hd : decide (bareL ln = []) = true := by simpa [bare_nil] using hbl
              have hno3 : Hid (lineP ⟨all, cur⟩ ln = (⟨endP ⟨all, cur⟩, []⟩, 0)) := Lib.hid (by rw [hno2.out, if_pos hbl])
              rw [hd] at qb
              clear hbl hno2 hd
              by_cases hcu : cur = []
              · subst hcu
                have HV : Hid (X = foldP (L.drop (i + 1)) ((at_ + ln.length + 1 : Nat) : Int) ⟨all, []⟩) := Lib.hid (by
                  have h := hno3.out
                  rw [HE.out, h]
                  simp [endP])
                clear HE
                go_wp2_with fail
                go_roundg (L.length - (i + 1))
                case measure => omega
                case rel => exact ⟨i + 1, at_ + ln.length + 1, ⟨all, []⟩, by omega, rfl, by first | (simp; done) | (simp; omega), by first | (simp; done) | (simp; omega), by omega, by simp only; omega, Nat.zero_le _, (fun f h => by cases h), hbw, ht, HV⟩
              · have hpos : 0 < cur.length := List.length_pos_iff.2 hcu
                have hdp : decide ((0 : Int) < (cur.length : Int)) = true := by simp; omega
                have hsz := q4.size
                go_wp2_with (at_builtin; revert hsz)
                intro hsz
                refine wpList_appendL (X := old' wr _) (l := vs) good_val rfl _ _ _ _ (.slice none 0 0) 24 rfl Tryd.underlying22 info_slp rfl (by omega) w2.heap.size rfl (v2.old free_val) [.slice Ap cur.length capp] (.slice Ap cur.length capp) rfl ⟨rfl, rfl⟩ (by omega) (by omega) hB (fun k hk hk2 => by have := hk2.1; omega) ?_
                intro v7 w7 hown7 hk7
                obtain ⟨ht7, hb7⟩ := ht.done v1 v2 v3 hk7 hown7 hB
                have hbw7 := hbw.trans hb7
                have HV : Hid (X = foldP (L.drop (i + 1)) ((at_ + ln.length + 1 : Nat) : Int) ⟨all ++ [cur], []⟩) := Lib.hid (by
                  have h := hno3.out
                  rw [HE.out, h]
                  simp [endP, hcu])
                clear HE
                go_wp2_with fail
                go_roundg (L.length - (i + 1))
                case measure => omega
                case rel => exact ⟨i + 1, at_ + ln.length + 1, ⟨all ++ [cur], []⟩, by omega, rfl, by first | (simp; done) | (simp; omega), by first | (simp; done) | (simp; omega), by omega, by simp only [List.length_append, List.length_singleton]; omega, Nat.zero_le _, (fun f h => by cases h), hbw7, ht7, HV⟩
            | false =>
              have hd : decide (bareL ln = []) = false := by
                have : ¬ bareL ln = [] := fun e => by rw [bare_nil, hbl] at e; cases e
                simpa using this
              have hno3 : Hid (lineP ⟨all, cur⟩ ln = if ln.head? = some 32 then (if cur = [] then (⟨all, cur⟩, 15) else (⟨all, addL cur ln.tail⟩, 0)) else fieldP ⟨all, cur⟩ ln) := Lib.hid (by rw [hno2.out, if_neg (by rw [hbl]; simp)])
              rw [hd] at qb
              have qe : (bs (bareL ln)).toList.isEmpty = false := by
                rw [toList_bs]
                cases h : bareL ln with
                | nil => rw [h] at hd; cases hd
                | cons => rfl
              obtain ⟨c, t, hct⟩ : ∃ c t, ln = c :: t := by
                cases ln with
                | nil => cases hbl
                | cons c t => exact ⟨c, t, rfl⟩
              have hlen : ln.length = t.length + 1 := by rw [hct]; simp
              have hks2 : 0 < (bs ln).size := by rw [bs_size]; omega
              have hbb : (bs ln)[0]'hks2 = c := by
                have : ln[0]'(by omega) = c := by subst hct; rfl
                exact this
              have hks : (0 : Int) < ((bs ln).size : Int) := by omega
              have hks3 : (0 : Int) < (ln.length : Int) := by omega
              have hq : ((c.toNat : Int) == 32) = decide (c = 32) := by rw [show (32 : Int) = ((32 : UInt8).toNat : Int) from rfl, beq_byte]
              have HCT := Lib.hid hct
              clear hct hno2 hd hbl
              by_cases hc32 : c = 32
              · rw [decide_eq_true hc32] at hq
                have hno4 : Hid (lineP ⟨all, cur⟩ ln = if cur = [] then (⟨all, cur⟩, 15) else (⟨all, addL cur t⟩, 0)) := Lib.hid (by rw [hno3.out, if_pos (by rw [HCT.out, hc32]; rfl), HCT.out]; rfl)
                clear hno3 hc32
                by_cases hcu : cur = []
                · have hdp : ((cur.length : Int) == 0) = true := by rw [hcu]; rfl
                  have HV : Hid (X = ([], (at_ : Int), 15)) := Lib.hid (by
                    have h := hno4.out
                    rw [if_pos hcu] at h
                    rw [HE.out, h]
                    rfl)
                  clear HE
                  have f0 := F4.free 0
                  have f1 := F4.free 1
                  have f2 := F4.free 2
                  have z0 := F4.cell 0
                  have z1 := F4.cell 1
                  have z2 := F4.cell 2
                  simp at z0 z1 z2
                  have K3 := blk_set3 F4 (.string ⟨#[]⟩) (.int .i64 (at_ : Int)) (.int .i64 15)
                  have hq2 := below_set3 q4 (g := w.heap.size) (Nat.le_refl _) (.string ⟨#[]⟩) (.int .i64 (at_ : Int)) (.int .i64 15)
                  go_wp2_with fail
                  generalize ((wr.setCell ⟨w.heap.size, 0, none⟩ (.string ⟨#[]⟩)).setCell ⟨w.heap.size, 1, none⟩ (.int .i64 (at_ : Int))).setCell ⟨w.heap.size, 2, none⟩ (.int .i64 15) = W2 at K3 hq2 ⊢
                  have k0 := K3.cell 0
                  have k1 := K3.cell 1
                  have k2 := K3.cell 2
                  simp at k0 k1 k2
                  refine bodyPost_ret (v := .tuple #[.slice none 0 0, .agg #[.string ⟨#[]⟩, .int .i64 (at_ : Int), .int .i64 15]]) (by simp [results, Tryd.results14, go_sem, k0, k1, k2]) rfl ?_
                  rw [HV.out]
                  exact ⟨⟨_, rfl, Sl.nil _ _ _ _⟩, hq2⟩
                · obtain ⟨ci, nm, x, rfl⟩ : ∃ ci nm x, cur = ci ++ [(nm, x)] := by
                    rcases List.eq_nil_or_concat cur with h | ⟨r, f, h⟩
                    · exact absurd h hcu
                    · exact ⟨r, f.1, f.2, by rw [h, List.concat_eq_append]⟩
                  have hno5 : Hid (lineP ⟨all, ci ++ [(nm, x)]⟩ ln = (⟨all, ci ++ [(nm, x ++ (10 :: t))]⟩, 0)) := Lib.hid (by rw [hno4.out, if_neg hcu, addL]; simp)
                  have hxl := HFL.out (nm, x) (by simp)
                  simp only at hxl
                  have hcl2 : (ci ++ [(nm, x)]).length = ci.length + 1 := by simp
                  clear v2 v3
                  rw [hcl2] at hcl hp1 ht ⊢
                  obtain ⟨gc, hgc⟩ : ∃ g, Ap = some ⟨g, 0, none⟩ := by
                    obtain ⟨g, cap3, e, _⟩ := own_slice ht.cur (by simp)
                    injection e with e _ _
                    exact ⟨g, e⟩
                  subst hgc
                  have hval := ht.value (y := x ++ (10 :: t)) rfl hB
                  have hown := own_field ht.cur
                  simp only at hown
                  rw [hcl2] at hown
                  have cx : wr.cell? ⟨gc, ci.length * 2 + 1, none⟩ = some (.string (bs x)) := by
                    have hlen : (fcells (ci ++ [(nm, x)])).length = (ci.length + 1) * 2 := by rw [fcells_len]; simp
                    have := hown.cellAt (ci.length * 2 + 1) (by omega)
                    rw [this]
                    have hfl := fcells_len ci
                    rw [show fcells (ci ++ [(nm, x)]) = fcells ci ++ [.string (bs nm), .string (bs x)] by simp [fcells], List.getElem?_append_right (by omega), hfl, show ci.length * 2 + 1 - ci.length * 2 = 1 by omega]
                    rfl
                  obtain ⟨_, cs, hbc⟩ := ht.cur.typed (g := gc) rfl
                  have hfz := hbc.frozen (ci.length * 2 + 1)
                  have hdp : (((ci.length + 1 : Nat) : Int) == 0) = false := by simp; omega
                  have hwc : IntKind.i64.wrap (((ci.length + 1 : Nat) : Int) - 1) = (ci.length : Int) := by rw [i64_in _ (by omega) (by omega)]; omega
                  have hwc2 : IntKind.i64.wrap (ci.length : Int) = (ci.length : Int) := i64_in _ (by omega) (by omega)
                  have j1 : (0 : Int) ≤ (ci.length : Int) := by omega
                  have j2 : (ci.length : Int) < ((ci.length + 1 : Nat) : Int) := by omega
                  have j3 : (ci.length : Int) < (ci.length : Int) + 1 := by omega
                  have r1 : ∀ q, bs q ++ (⟨#[10]⟩ : ByteArray) = bs (q ++ [10]) := fun q => bs_app q [10]
                  have hcat := bs_app
                  have hext : (bs ln).extract 1 (bs ln).size = bs t := by rw [ext_drop, bs_list, HCT.out]; rfl
                  have hext2 : (bs ln).extract 1 ln.length = bs t := by rw [← bs_size ln]; exact hext
                  have o1 : ¬ 9223372036854775807 < x.length + 1 := by omega
                  have o2 : ¬ 9223372036854775807 < x.length + 1 + t.length := by omega
                  have o3 : (1 : Int) ≤ ((bs ln).size : Int) := by omega
                  have o4 : (1 : Int) ≤ (ln.length : Int) := by omega
                  have o5 : ¬ ((t.length : Int) + 1 < 1) := by omega
                  have hsz := bs_size
                  go_upto_region 20 with fail
                  refine wp_region_plan2 (wkD [80]) (fun W => W.cell? ⟨gc, ci.length * 2 + 1, none⟩ = some (.string (bs x)) ∧ W.frozen? ⟨gc, ci.length * 2 + 1, none⟩ = false) (fun _ => True) (fun _ _ => trivial) [(false, 0), (false, 1), (false, 2), (false, 3), (false, 4), (false, 5), (false, 6), (false, 7), (false, 8), (false, 9), (false, 10), (false, 11), (false, 12), (false, 13), (false, 14), (false, 15), (false, 16), (true, 17)] (by kernel_rfl) (by kernel_rfl) (⟨by simpa using cx, by simpa using hfz⟩) ?_
                  simp only [planOps, List.map, List.getD_cons_zero, List.getD_cons_succ]
                  iterate 17 ((first | refine plan_quiet (v := ?_) rfl rfl (fun w' hw' => ?_) ?_ | refine plan_calm (v := ?_) (fun _ _ => trivial) rfl (fun w' hw' => ?_) ?_); rotate_left; (focus (go_simp <;> (first | with_reducible rfl | (rw [if_neg (by simp [undef])]; try rfl)))); simp only [Act.put, List.setIfInBounds_toArray, List.set_cons_zero, List.set_cons_succ])
                  refine plan_last rfl (by kernel_rfl) (by kernel_rfl) (fun K hK => ?_)
                  go_simp
                  refine hK _ _ (trivial) ?_
                  clear hK K
                  (try simp only [Act.put, List.setIfInBounds_toArray, List.set_cons_zero, List.set_cons_succ])
                  refine plan_end ?_
                  have hext4 : (bs ln).extract 1 (t.length + 1) = bs t := by rw [← hlen]; exact hext2
                  have hW : bs (x ++ [10]) ++ (bs ln).extract 1 (t.length + 1) = bs (x ++ 10 :: t) := by rw [hext4, bs_app]; simp
                  first | rw [hW] | skip
                  have ht8 := (hval.1).below ((Below.refl _ _).drew)
                  have hbw8 := (hbw.trans hval.2).drew
                  have hfl8 := bd_add2 HFL.out (show t.length + 1 ≤ 1000001 by omega)
                  clear hval ht hbw
                  generalize (wr.setCell ⟨gc, ci.length * 2 + 1, none⟩ (.string (bs (x ++ 10 :: t)))).drew = w8 at ht8 hbw8 ⊢
                  have HV : Hid (X = foldP (L.drop (i + 1)) ((at_ + ln.length + 1 : Nat) : Int) ⟨all, ci ++ [(nm, x ++ (10 :: t))]⟩) := Lib.hid (by
                    have h := hno5.out
                    rw [HE.out, h]
                    rfl)
                  clear HE
                  go_wp2_with fail
                  go_roundg (L.length - (i + 1))
                  case measure => omega
                  case rel => exact ⟨i + 1, at_ + ln.length + 1, ⟨all, ci ++ [(nm, x ++ (10 :: t))]⟩, by omega, rfl, by first | (simp; done) | (simp; omega), by first | (simp; done) | (simp; omega), by omega, by simp only; omega, by simp only [List.length_append, List.length_singleton]; omega, hfl8, hbw8, ht8, HV⟩
              · rw [decide_eq_false hc32] at hq
                have hno4 : Hid (lineP ⟨all, cur⟩ ln = fieldP ⟨all, cur⟩ ln) := Lib.hid (by rw [hno3.out, if_neg (by rw [HCT.out]; simpa using hc32)])
                have HBN := Lib.hid (bare_name ln (by rw [HCT.out]; simpa using hc32))
                have HFP : Hid (fieldP ⟨all, cur⟩ ln = if ln.contains 58 = true then (if nmOk (trimR (preC58 ln)) = true then (if hasName cur (trimR (preC58 ln)) = true then (⟨all, cur⟩, 8) else if cur = [] ∧ all.length = 4096 then (⟨all, cur⟩, 4) else (⟨all, cur ++ [(trimR (preC58 ln), bareL (ln.drop ((preC58 ln).length + 1)))]⟩, 0)) else (⟨all, cur⟩, 10)) else (⟨all, cur⟩, 3)) := Lib.hid rfl
                have HK0 : Hid (preC58 ln = ln.take 0 ++ preC58 (ln.drop 0)) := Lib.hid rfl
                clear hno3 hc32 HCT ck qb n1
                go_wp2_with fail
                clear hq hbb qe
                go_loopg [10] ln.length (fun G s10 wx => ∃ k : Nat, k ≤ ln.length ∧ G = ln.length - k ∧ s10 = .int .i64 k ∧ wr = wx ∧ Hid (preC58 ln = ln.take k ++ preC58 (ln.drop k)))
                case atStart => exact ⟨0, Nat.zero_le _, rfl, rfl, rfl, HK0⟩
                case round =>
                  clear HK0
                  obtain ⟨k, hk, rfl, rfl, rfl, HK⟩ := hrel
                  have j1 : (0 : Int) ≤ (k : Int) := by omega
                  by_cases hkl : k < ln.length
                  · have hks4 : (k : Int) < ((bs ln).size : Int) := by omega
                    have hks5 : k < (bs ln).size := by rw [bs_size]; exact hkl
                    have j2 : (k : Int) < (ln.length : Int) := by omega
                    obtain ⟨d, hd⟩ : ∃ d, d = ln[k]'hkl := ⟨_, rfl⟩
                    have hdd : (bs ln)[k]'hks5 = d := hd.symm
                    have HPS : Hid (preC58 (ln.drop k) = if d = 58 then [] else d :: preC58 (ln.drop (k + 1))) := Lib.hid (by rw [hd]; exact pre_step ln k hkl)
                    have HTK : Hid (ln.take (k + 1) = ln.take k ++ [d]) := Lib.hid (by rw [hd]; exact List.take_succ_eq_append_getElem hkl)
                    have HIN : Hid (d = 58 → ln.contains 58 = true) := Lib.hid fun e => by
                      rw [List.contains_iff_mem, ← e, hd]
                      exact List.getElem_mem hkl
                    have hq2 : ((d.toNat : Int) == 58) = decide (d = 58) := by rw [show (58 : Int) = ((58 : UInt8).toNat : Int) from rfl, beq_byte]
                    have hq3 : ((d.toNat : Int) != 58) = !decide (d = 58) := by rw [bne, hq2]
                    clear hd
                    by_cases hd58 : d = 58
                    · have hpk : preC58 ln = ln.take k := by rw [HK.out, HPS.out, if_pos hd58, List.append_nil]
                      have hpl : (preC58 ln).length = k := by rw [hpk, List.length_take]; omega
                      have hN := HBN.out
                      rw [hpk] at hN
                      have hno5 : Hid (lineP ⟨all, cur⟩ ln = if nmOk (bareL (ln.take k)) = true then (if hasName cur (bareL (ln.take k)) = true then (⟨all, cur⟩, 8) else if cur = [] ∧ all.length = 4096 then (⟨all, cur⟩, 4) else (⟨all, cur ++ [(bareL (ln.take k), bareL (ln.drop (k + 1)))]⟩, 0)) else (⟨all, cur⟩, 10)) := Lib.hid (by rw [hno4.out, HFP.out, if_pos (HIN.out hd58), hpl, hpk, ← hN])
                      rw [decide_eq_true hd58] at hq2 hq3
                      have hNl : (bareL (ln.take k)).length ≤ 1000000 := Nat.le_trans (bareL_len _) (by rw [List.length_take]; omega)
                      have hVl : (bareL (ln.drop (k + 1))).length ≤ ln.length := Nat.le_trans (bareL_len _) (by rw [List.length_drop]; omega)
                      have htl : (ln.take k).length ≤ 1000000 := by rw [List.length_take]; omega
                      have hdl : (ln.drop (k + 1)).length ≤ 1000000 := by rw [List.length_drop]; omega
                      have hne : ((k : Int) == (ln.length : Int)) = false := by simp; omega
                      have hext : (bs ln).extract 0 k = bs (ln.take k) := by rw [ext_take _ _ (by rw [bs_size]; omega), bs_list]
                      have hext2 : (bs ln).extract (k + 1) (bs ln).size = bs (ln.drop (k + 1)) := by rw [ext_drop, bs_list]
                      have hext3 : (bs ln).extract (k + 1) ln.length = bs (ln.drop (k + 1)) := by rw [← bs_size ln]; exact hext2
                      have hwk : IntKind.i64.wrap ((k : Int) + 1) = ((k + 1 : Nat) : Int) := by rw [i64_in _ (by omega) (by omega)]; omega
                      have j3 : ((k + 1 : Nat) : Int) ≤ ((bs ln).size : Int) := by omega
                      have j4 : ((k + 1 : Nat) : Int) ≤ (ln.length : Int) := by omega
                      have j5 : (k : Int) ≤ ((bs ln).size : Int) := by omega
                      have j6 : (k : Int) ≤ (ln.length : Int) := by omega
                      have j7 : k + 1 ≤ ln.length := by omega
                      clear HK HPS HTK HIN hpk hpl hN hd58 HBN HFP hno4
                      generalize ln.take k = pre at htl hext hNl hno5
                      go_wp2_with fail
                      refine (bare_any pre _ (by omega)).mono ?_
                      rintro e w3 ⟨rfl, rfl⟩
                      generalize bareL pre = N at hNl hno5 ⊢
                      clear hext htl
                      go_wp2_with fail
                      refine (qname_any N _ (by omega)).mono ?_
                      rintro e w3 ⟨rfl, rfl⟩
                      cases hnm : nmOk N with
                      | false =>
                        have HV : Hid (X = ([], (at_ : Int), 10)) := Lib.hid (by
                          have h := hno5.out
                          rw [if_neg (by rw [hnm]; simp)] at h
                          rw [HE.out, h]
                          rfl)
                        clear HE
                        have f0 := F4.free 0
                        have f1 := F4.free 1
                        have f2 := F4.free 2
                        have z0 := F4.cell 0
                        have z1 := F4.cell 1
                        have z2 := F4.cell 2
                        simp at z0 z1 z2
                        have K3 := blk_set3 F4 (.string ⟨#[]⟩) (.int .i64 (at_ : Int)) (.int .i64 10)
                        have hq2 := below_set3 q4 (g := w.heap.size) (Nat.le_refl _) (.string ⟨#[]⟩) (.int .i64 (at_ : Int)) (.int .i64 10)
                        go_wp2_with fail
                        generalize ((wr.setCell ⟨w.heap.size, 0, none⟩ (.string ⟨#[]⟩)).setCell ⟨w.heap.size, 1, none⟩ (.int .i64 (at_ : Int))).setCell ⟨w.heap.size, 2, none⟩ (.int .i64 10) = W2 at K3 hq2 ⊢
                        have k0 := K3.cell 0
                        have k1 := K3.cell 1
                        have k2 := K3.cell 2
                        simp at k0 k1 k2
                        refine bodyPost_ret (v := .tuple #[.slice none 0 0, .agg #[.string ⟨#[]⟩, .int .i64 (at_ : Int), .int .i64 10]]) (by simp [results, Tryd.results14, go_sem, k0, k1, k2]) rfl ?_
                        rw [HV.out]
                        exact ⟨⟨_, rfl, Sl.nil _ _ _ _⟩, hq2⟩
                      | true =>
                        have hno6 : Hid (lineP ⟨all, cur⟩ ln = if hasName cur N = true then (⟨all, cur⟩, 8) else if cur = [] ∧ all.length = 4096 then (⟨all, cur⟩, 4) else (⟨all, cur ++ [(N, bareL (ln.drop (k + 1)))]⟩, 0)) := Lib.hid (by rw [hno5.out, if_pos hnm])
                        clear hno5 hnm
                        go_wp2_with fail
                        refine (find_any cur N _ nowhere _ (ht.cur.sl good_field)).mono ?_
                        rintro e w3 ⟨rfl, rfl⟩
                        have hfs := fnd_has cur N
                        generalize fnd N cur 0 = z at hfs ⊢
                        cases hhn : hasName cur N with
                        | true =>
                          rw [hhn] at hfs
                          have HHN := Lib.hid hhn
                          clear hhn
                          have HV : Hid (X = ([], (at_ : Int), 8)) := Lib.hid (by
                            have h := hno6.out
                            rw [if_pos HHN.out] at h
                            rw [HE.out, h]
                            rfl)
                          clear HE
                          have f0 := F4.free 0
                          have f1 := F4.free 1
                          have f2 := F4.free 2
                          have z0 := F4.cell 0
                          have z1 := F4.cell 1
                          have z2 := F4.cell 2
                          simp at z0 z1 z2
                          have K3 := blk_set3 F4 (.string ⟨#[]⟩) (.int .i64 (at_ : Int)) (.int .i64 8)
                          have hq2 := below_set3 q4 (g := w.heap.size) (Nat.le_refl _) (.string ⟨#[]⟩) (.int .i64 (at_ : Int)) (.int .i64 8)
                          go_wp2_with fail
                          generalize ((wr.setCell ⟨w.heap.size, 0, none⟩ (.string ⟨#[]⟩)).setCell ⟨w.heap.size, 1, none⟩ (.int .i64 (at_ : Int))).setCell ⟨w.heap.size, 2, none⟩ (.int .i64 8) = W2 at K3 hq2 ⊢
                          have k0 := K3.cell 0
                          have k1 := K3.cell 1
                          have k2 := K3.cell 2
                          simp at k0 k1 k2
                          refine bodyPost_ret (v := .tuple #[.slice none 0 0, .agg #[.string ⟨#[]⟩, .int .i64 (at_ : Int), .int .i64 8]]) (by simp [results, Tryd.results14, go_sem, k0, k1, k2]) rfl ?_
                          rw [HV.out]
                          exact ⟨⟨_, rfl, Sl.nil _ _ _ _⟩, hq2⟩
                        | false =>
                          rw [hhn] at hfs
                          have hno7 : Hid (lineP ⟨all, cur⟩ ln = if cur = [] ∧ all.length = 4096 then (⟨all, cur⟩, 4) else (⟨all, cur ++ [(N, bareL (ln.drop (k + 1)))]⟩, 0)) := Lib.hid (by rw [hno6.out, if_neg (by rw [hhn]; simp)])
                          clear hhn hno6
                          go_upto_region 31 with fail
                          obtain ⟨tb, htb⟩ : ∃ tb, decide (cur = [] ∧ all.length = 4096) = tb := ⟨_, rfl⟩
                          go_cut [122] (fun s122 wx => s122 = .bool tb ∧ wr = wx)
                          case first => as_aux_lemma =>
                            by_cases hcu : cur = []
                            · have hd0 : ((cur.length : Int) == 0) = true := by rw [hcu]; rfl
                              have htb2 : tb = ((all.length : Int) == 4096) := by
                                rw [← htb, Bool.eq_iff_iff]
                                simp [hcu]
                                omega
                              clear htb
                              have HCU := Lib.hid hcu
                              clear hcu
                              go_wp2_with fail
                              go_meet
                              exact ⟨by rw [htb2], rfl⟩
                            · have hpos : 0 < cur.length := List.length_pos_iff.2 hcu
                              have hd0 : ((cur.length : Int) == 0) = false := by simp; omega
                              have htb2 : tb = false := by rw [← htb]; simp [hcu]
                              clear htb hcu
                              go_wp2_with fail
                              go_meet
                              exact ⟨by rw [htb2], rfl⟩
                          case rest => as_aux_lemma =>
                            obtain ⟨rfl, rfl⟩ := hcut
                            cases tb with
                            | true =>
                              have htb := of_decide_eq_true htb
                              have HV : Hid (X = ([], (at_ : Int), 4)) := Lib.hid (by
                                have h := hno7.out
                                rw [if_pos htb] at h
                                rw [HE.out, h]
                                rfl)
                              clear HE
                              have f0 := F4.free 0
                              have f1 := F4.free 1
                              have f2 := F4.free 2
                              have z0 := F4.cell 0
                              have z1 := F4.cell 1
                              have z2 := F4.cell 2
                              simp at z0 z1 z2
                              have K3 := blk_set3 F4 (.string ⟨#[]⟩) (.int .i64 (at_ : Int)) (.int .i64 4)
                              have hq2 := below_set3 q4 (g := w.heap.size) (Nat.le_refl _) (.string ⟨#[]⟩) (.int .i64 (at_ : Int)) (.int .i64 4)
                              go_wp2_with fail
                              generalize ((wr.setCell ⟨w.heap.size, 0, none⟩ (.string ⟨#[]⟩)).setCell ⟨w.heap.size, 1, none⟩ (.int .i64 (at_ : Int))).setCell ⟨w.heap.size, 2, none⟩ (.int .i64 4) = W2 at K3 hq2 ⊢
                              have k0 := K3.cell 0
                              have k1 := K3.cell 1
                              have k2 := K3.cell 2
                              simp at k0 k1 k2
                              refine bodyPost_ret (v := .tuple #[.slice none 0 0, .agg #[.string ⟨#[]⟩, .int .i64 (at_ : Int), .int .i64 4]]) (by simp [results, Tryd.results14, go_sem, k0, k1, k2]) rfl ?_
                              rw [HV.out]
                              exact ⟨⟨_, rfl, Sl.nil _ _ _ _⟩, hq2⟩
                            | false =>
                              have htb := of_decide_eq_false htb
                              have hno8 : Hid (lineP ⟨all, cur⟩ ln = (⟨all, cur ++ [(N, bareL (ln.drop (k + 1)))]⟩, 0)) := Lib.hid (by rw [hno7.out, if_neg htb])
                              clear hno7 htb
                              generalize ln.drop (k + 1) = post at hext2 hext3 hdl hVl hno8
                              go_wp2_with fail
                              refine (bare_any post _ (by omega)).mono ?_
                              rintro e w3 ⟨rfl, rfl⟩
                              generalize bareL post = V at hVl hno8 ⊢
                              have hsz := q4.size
                              go_wp2_with (at_builtin; revert hsz)
                              intro hsz
                              refine wpList_appendL (X := old' wr _) (l := cur) good_field rfl _ _ _ _ (.agg #[.string ⟨#[]⟩, .string ⟨#[]⟩]) 32 rfl Tryd.underlying38 info_field rfl (by omega) w2.heap.size rfl (ht.cur.old free_field) [.string (bs N), .string (bs V)] (N, V) rfl rfl (by omega) (by omega) hB (fun k hk hk2 => by have := hk2.1; omega) ?_
                              intro v7 w7 hown7 hk7
                              obtain ⟨ht7, hb7⟩ := ht.push hk7 hown7 hB
                              have hbw7 := hbw.trans hb7
                              have hfl7 := bd_push (N := N) HFL.out (show V.length ≤ 1000001 by omega)
                              have HV : Hid (X = foldP (L.drop (i + 1)) ((at_ + ln.length + 1 : Nat) : Int) ⟨all, cur ++ [(N, V)]⟩) := Lib.hid (by
                                have h := hno8.out
                                rw [HE.out, h]
                                rfl)
                              clear HE
                              go_wp2_with fail
                              go_roundg (L.length - (i + 1))
                              case measure => omega
                              case rel => exact ⟨i + 1, at_ + ln.length + 1, ⟨all, cur ++ [(N, V)]⟩, by omega, rfl, by first | (simp; done) | (simp; omega), by first | (simp; done) | (simp; omega), by omega, by simp only; omega, by simp only [List.length_append, List.length_singleton]; omega, hfl7, hbw7, ht7, HV⟩
                    · rw [decide_eq_false hd58] at hq2 hq3
                      have HK2 : Hid (preC58 ln = ln.take (k + 1) ++ preC58 (ln.drop (k + 1))) := Lib.hid (by rw [HK.out, HPS.out, if_neg hd58, HTK.out]; simp)
                      clear HK HPS HTK HIN hd58
                      go_wp2_with fail
                      go_roundg (ln.length - (k + 1))
                      case measure => omega
                      case rel => exact ⟨k + 1, by omega, rfl, by simp, rfl, HK2⟩
                  · have hke : k = ln.length := by omega
                    have hnc : ln.contains 58 = false := by
                      have h := HK.out
                      rw [hke, List.take_length, List.drop_length] at h
                      have h2 : ∀ x ∈ ln, (!decide (x = (58 : UInt8))) = true := fun x hx => by
                        have hx2 : x ∈ preC58 ln := by rw [h]; simpa [preC58] using hx
                        have ha : (preC58 ln).all (fun c => !decide (c = 58)) = true := List.all_takeWhile
                        exact List.all_eq_true.1 ha x hx2
                      rw [Bool.eq_false_iff]
                      intro hc
                      rw [List.contains_iff_mem] at hc
                      have := h2 58 hc
                      simp at this
                    have hkl2 : ((k : Int) == (ln.length : Int)) = true := by simp; omega
                    have hdk : decide ((k : Int) < (ln.length : Int)) = false := by simp; omega
                    have HHN := Lib.hid hnc
                    clear hnc HK hke
                    have HV : Hid (X = ([], (at_ : Int), 3)) := Lib.hid (by
                      have h := hno4.out.trans HFP.out
                      rw [if_neg (by rw [HHN.out]; simp)] at h
                      rw [HE.out, h]
                      rfl)
                    clear HE
                    have f0 := F4.free 0
                    have f1 := F4.free 1
                    have f2 := F4.free 2
                    have z0 := F4.cell 0
                    have z1 := F4.cell 1
                    have z2 := F4.cell 2
                    simp at z0 z1 z2
                    have K3 := blk_set3 F4 (.string ⟨#[]⟩) (.int .i64 (at_ : Int)) (.int .i64 3)
                    have hq2 := below_set3 q4 (g := w.heap.size) (Nat.le_refl _) (.string ⟨#[]⟩) (.int .i64 (at_ : Int)) (.int .i64 3)
                    go_wp2_with fail
                    generalize ((wr.setCell ⟨w.heap.size, 0, none⟩ (.string ⟨#[]⟩)).setCell ⟨w.heap.size, 1, none⟩ (.int .i64 (at_ : Int))).setCell ⟨w.heap.size, 2, none⟩ (.int .i64 3) = W2 at K3 hq2 ⊢
                    have k0 := K3.cell 0
                    have k1 := K3.cell 1
                    have k2 := K3.cell 2
                    simp at k0 k1 k2
                    refine bodyPost_ret (v := .tuple #[.slice none 0 0, .agg #[.string ⟨#[]⟩, .int .i64 (at_ : Int), .int .i64 3]]) (by simp [results, Tryd.results14, go_sem, k0, k1, k2]) rfl ?_
                    rw [HV.out]
                    exact ⟨⟨_, rfl, Sl.nil _ _ _ _⟩, hq2⟩
      · have hie : i = L.length := by omega
        have HV : Hid (X = (endP ⟨all, cur⟩, 0, 0)) := Lib.hid (by rw [HE.out, List.drop_eq_nil_of_le (by omega)]; rfl)
        have hdi : decide ((i : Int) < (L.length : Int)) = false := by simp; omega
        clear HE
        by_cases hcu : cur = []
        · subst hcu
          have hsl9 : Sl 1 Rpara nowhere wr _ (endP ⟨all, []⟩) := ht.sl
          have f0 := F4.free 0
          have f1 := F4.free 1
          have f2 := F4.free 2
          have z0 := F4.cell 0
          have z1 := F4.cell 1
          have z2 := F4.cell 2
          simp at z0 z1 z2
          have K3 := blk_set3 F4 (.string ⟨#[]⟩) (.int .i64 0) (.int .i64 0)
          have hq2 := below_set3 q4 (g := w.heap.size) (Nat.le_refl _) (.string ⟨#[]⟩) (.int .i64 0) (.int .i64 0)
          go_wp2_with fail
          have kk : Kept nowhere wr (((wr.setCell ⟨w.heap.size, 0, none⟩ (.string ⟨#[]⟩)).setCell ⟨w.heap.size, 1, none⟩ (.int .i64 0)).setCell ⟨w.heap.size, 2, none⟩ (.int .i64 0)) := by
            have k1 := kept_set3 wr w.heap.size (.string ⟨#[]⟩) (.int .i64 0) (.int .i64 0)
            refine ⟨k1.os, k1.tape, k1.output, k1.size, fun k hk _ => ?_⟩
            by_cases e : k = w.heap.size
            · subst e; exact K3.trans F4.symm
            · exact k1.block k hk e
          generalize ((wr.setCell ⟨w.heap.size, 0, none⟩ (.string ⟨#[]⟩)).setCell ⟨w.heap.size, 1, none⟩ (.int .i64 0)).setCell ⟨w.heap.size, 2, none⟩ (.int .i64 0) = W2 at K3 hq2 kk ⊢
          have k0 := K3.cell 0
          have k1 := K3.cell 1
          have k2 := K3.cell 2
          simp at k0 k1 k2
          refine bodyPost_ret (v := .tuple #[.slice Ao all.length capo, .agg #[.string ⟨#[]⟩, .int .i64 0, .int .i64 0]]) (by simp [results, Tryd.results14, go_sem, k0, k1, k2]) rfl ?_
          rw [HV.out]
          exact ⟨⟨_, rfl, hsl9.keep good_para kk⟩, hq2⟩
        · have hpos : 0 < cur.length := List.length_pos_iff.2 hcu
          have hdp : decide ((0 : Int) < (cur.length : Int)) = true := by simp; omega
          have hsz := q4.size
          go_wp2_with (at_builtin; revert hsz)
          intro hsz
          refine wpList_appendL (X := old' wr _) (l := vs) good_val rfl _ _ _ _ (.slice none 0 0) 24 rfl Tryd.underlying22 info_slp rfl (by omega) w2.heap.size rfl (v2.old free_val) [.slice Ap cur.length capp] (.slice Ap cur.length capp) rfl ⟨rfl, rfl⟩ (by omega) (by omega) hB (fun k hk hk2 => by have := hk2.1; omega) ?_
          intro v7 w7 hown7 hk7
          obtain ⟨ht7, hb7⟩ := ht.done v1 v2 v3 hk7 hown7 hB
          have hbw7 := hbw.trans hb7
          have hsl9 : Sl 1 Rpara nowhere w7 v7 (endP ⟨all, cur⟩) := by
            rw [endP, if_neg hcu]; exact ht7.sl
          obtain ⟨A7, cap7, rfl⟩ := hown7.form
          have F4 := F2.below hbw7 F2.lt
          have q4 := q2.trans (hbw7.mono q2.size)
          clear hk7 hown7 ht7 hb7 ht v1 v2 v3
          have f0 := F4.free 0
          have f1 := F4.free 1
          have f2 := F4.free 2
          have z0 := F4.cell 0
          have z1 := F4.cell 1
          have z2 := F4.cell 2
          simp at z0 z1 z2
          have K3 := blk_set3 F4 (.string ⟨#[]⟩) (.int .i64 0) (.int .i64 0)
          have hq2 := below_set3 q4 (g := w.heap.size) (Nat.le_refl _) (.string ⟨#[]⟩) (.int .i64 0) (.int .i64 0)
          go_wp2_with fail
          have kk : Kept nowhere w7 (((w7.setCell ⟨w.heap.size, 0, none⟩ (.string ⟨#[]⟩)).setCell ⟨w.heap.size, 1, none⟩ (.int .i64 0)).setCell ⟨w.heap.size, 2, none⟩ (.int .i64 0)) := by
            have k1 := kept_set3 w7 w.heap.size (.string ⟨#[]⟩) (.int .i64 0) (.int .i64 0)
            refine ⟨k1.os, k1.tape, k1.output, k1.size, fun k hk _ => ?_⟩
            by_cases e : k = w.heap.size
            · subst e; exact K3.trans F4.symm
            · exact k1.block k hk e
          generalize ((w7.setCell ⟨w.heap.size, 0, none⟩ (.string ⟨#[]⟩)).setCell ⟨w.heap.size, 1, none⟩ (.int .i64 0)).setCell ⟨w.heap.size, 2, none⟩ (.int .i64 0) = W2 at K3 hq2 kk ⊢
          have k0 := K3.cell 0
          have k1 := K3.cell 1
          have k2 := K3.cell 2
          simp at k0 k1 k2
          refine bodyPost_ret (v := .tuple #[.slice A7 (vs ++ [Value.slice Ap cur.length capp]).length cap7, .agg #[.string ⟨#[]⟩, .int .i64 0, .int .i64 0]]) (by simp [results, Tryd.results14, go_sem, k0, k1, k2]) rfl ?_
          rw [HV.out]
          exact ⟨⟨_, rfl, hsl9.keep good_para kk⟩, hq2⟩
end Go.Proofs.YthcgomainhaemaaDoor

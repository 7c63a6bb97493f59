/- The walk of the document's Print on paragraphs, and the law on them. -/
import Derived.Test.YthcgomainhaemaaDoorPaZ
import Derived.Test.YthcgomainhaemaaDoorPaT
namespace Go.Proofs.YthcgomainhaemaaDoor
open Go.RowKit
def tlT (t : List (List UInt8)) : List UInt8 := t.flatMap fun x => 32 :: (x ++ [10])
def hdT (h : List UInt8) : List UInt8 := if h = [] then [] else 32 :: h
theorem nl_split : ∀ (l a : List UInt8), ∃ h t, splitP 10 l a = h :: t ∧ a ++ nlT l = h ++ t.flatMap (fun x => 10 :: 32 :: x) ∧ (∃ r, h = a ++ r) ∧ (a = [] → gapT l = if h = [] then [] else [32])
  | [], a => ⟨a, [], rfl, by simp [nlT], ⟨[], by simp⟩, fun e => by subst e; rfl⟩
  | c :: l, a => by
    rw [splitP]
    by_cases hc : c = 10
    · obtain ⟨h, t, h1, h2, _, _⟩ := nl_split l []
      rw [if_pos hc, h1]
      refine ⟨a, h :: t, rfl, ?_, ⟨[], by simp⟩, fun e => ?_⟩
      · have : nlT (c :: l) = 10 :: 32 :: nlT l := by rw [hc]; rfl
        rw [this]
        simp at h2
        rw [h2]
        simp
      · subst e
        simp [gapT, hc]
    · obtain ⟨h, t, h1, h2, ⟨r, h3⟩, _⟩ := nl_split l (a ++ [c])
      rw [if_neg hc, h1]
      refine ⟨h, t, rfl, ?_, ⟨c :: r, by rw [h3]; simp⟩, fun e => ?_⟩
      · have : nlT (c :: l) = c :: nlT l := by simp [nlT, hc]
        rw [this, ← h2]
        simp
      · subst e
        simp [gapT, hc, h3]
theorem shift_nl (t : List (List UInt8)) : t.flatMap (fun x => 10 :: 32 :: x) ++ [10] = 10 :: tlT t := by
  induction t with
  | nil => rfl
  | cons x t ih =>
    rw [List.flatMap_cons, List.append_assoc, ih]
    simp [tlT]
theorem fdT_lines (f : Fd) : ∃ h t, splitB 10 f.2 = h :: t ∧ fdT f = (f.1 ++ [58]) ++ (hdT h ++ ([10] ++ tlT t)) := by
  obtain ⟨h, t, h1, h2, _, h4⟩ := nl_split f.2 []
  refine ⟨h, t, h1, ?_⟩
  have h2 : nlT f.2 = h ++ t.flatMap (fun x => 10 :: 32 :: x) := by simpa using h2
  rw [fdT, h4 rfl, h2]
  have h5 : (h ++ t.flatMap (fun x => 10 :: 32 :: x)) ++ [10] = h ++ ([10] ++ tlT t) := by rw [List.append_assoc, shift_nl]; rfl
  rw [h5, hdT]
  by_cases he : h = []
  · subst he; simp
  · rw [if_neg he, if_neg he]; simp
theorem tlT_take (t : List (List UInt8)) (k : Nat) (h : k < t.length) : tlT (t.take (k + 1)) = tlT (t.take k) ++ (32 :: (t[k] ++ [10])) := by
  rw [List.take_succ_eq_append_getElem h, tlT, List.flatMap_append]; simp [tlT]
theorem tlT_pre (t : List (List UInt8)) (k : Nat) : (tlT (t.take k)).length ≤ (tlT t).length := by
  conv => rhs; rw [← List.take_append_drop k t]
  rw [tlT, tlT, List.flatMap_append, List.length_append]
  exact Nat.le_add_right _ _
set_option maxRecDepth 20000 in
set_option maxHeartbeats 16000000 in
theorem rprint_any (l : List (List Fd)) (v : Value) (X : Nat → Prop) (w : World) (hsl : Sl 1 Rpara X w v l) (hF : PS l) (hT : (parasT l).length ≤ 1000000000) :
    Calls Tryd.prog 10 #[v] w fun e w' => e = .returned (.tuple #[.string (bs (printP l).1), .int .i64 (printP l).2]) ∧ Below w.heap.size w w' := by
  obtain ⟨A, cap, rfl, hc1, hc2⟩ := hsl.form
  unfold maxLen at hc2
  have HP : Hid (printP l = if chkP l = 0 then (parasT l, 0) else ([], chkP l)) := Lib.hid rfl
  have HF := Lib.hid hF.2
  have HTT : Hid (Lib.join (l.map pgT) [10] = parasT l) := Lib.hid rfl
  go_enter Tryd.func10, Tryd.ntmps10
  go_wp2_with fail
  refine (rcheck_any l _ X _ hsl hF).mono ?_
  rintro e w1 ⟨rfl, hb1⟩
  have r1 : ∀ q, bs q ++ (⟨#[10]⟩ : ByteArray) = bs (q ++ [10]) := fun q => bs_app q [10]
  have r2 : ∀ q, bs q ++ (⟨#[32]⟩ : ByteArray) = bs (q ++ [32]) := fun q => bs_app q [32]
  have r3 : ∀ q, bs q ++ (⟨#[58]⟩ : ByteArray) = bs (q ++ [58]) := fun q => bs_app q [58]
  have hcat := bs_app
  have hsz := bs_size
  by_cases h0 : chkP l = 0
  · have HP2 : Hid (printP l = (parasT l, 0)) := Lib.hid (by rw [HP.out, if_pos h0])
    rw [h0]
    clear h0 HP
    go_wp2_with fail
    go_loopg [5, 6] l.length (fun G s5 s6 wr => ∃ (i : Nat) (acc : List UInt8), i ≤ l.length ∧ G = l.length - i ∧ s6 = .int .i64 i ∧ Below w.heap.size w wr ∧ s5 = .string (bs acc) ∧ Hid (Lib.join ((l.take i).map pgT) [10] = acc))
    case atStart => exact ⟨0, [], Nat.zero_le _, rfl, rfl, hb1, rfl, Lib.hid rfl⟩
    case round =>
      clear hb1
      obtain ⟨i, acc, hi, rfl, rfl, hbw, rfl, HA⟩ := hrel
      by_cases hlt : i < l.length
      · have hslr := hsl.keep good_para (Kept.of_below hbw X)
        obtain ⟨b, off, rfl, _, hc⟩ := hslr.para (by omega)
        obtain ⟨vg, ck, hsg⟩ := hc i hlt
        obtain ⟨A2, cap2, rfl, hg1, hg2⟩ := hsg.form
        unfold maxLen at hg2
        have HST := Lib.hid (join_take pgT l [10] i hlt)
        have hjp := join_pre pgT l [10] (i + 1) hlt
        rw [HTT.out] at hjp
        obtain ⟨hgl, hsb⟩ := HF.out _ (List.getElem_mem hlt)
        have i1 : (0 : Int) ≤ (i : Int) := by omega
        have i2 : (i : Int) < (l.length : Int) := by omega
        clear hc hslr
        generalize l[i] = gr at ck hsg HST hgl hsb hg1
        have HSB := Lib.hid hsb
        clear hsb
        have HN : Hid (Lib.join ((l.take (i + 1)).map pgT) [10] = (acc ++ sepP i [10]) ++ pgT gr) := Lib.hid (by rw [HST.out, HA.out]; simp)
        have hjl : ((acc ++ sepP i [10]) ++ pgT gr).length ≤ 1000000000 := by rw [← HN.out]; omega
        have hal : acc.length ≤ 1000000000 := by simp at hjl; omega
        clear HST HA hjp
        go_upto_if 22 with fail
        go_cut [5] (fun s5 wy => s5 = .string (bs (acc ++ sepP i [10])) ∧ wr = wy)
        case first => as_aux_lemma =>
          by_cases h0 : i = 0
          · have hd : decide ((0 : Int) < (i : Int)) = false := by simp; omega
            have hd2 : ¬ 0 < i := by omega
            have HG : Hid (acc ++ sepP i [10] = acc) := Lib.hid (by rw [sepP, if_pos h0]; simp)
            clear h0
            go_wp2_with fail
            go_meet
            exact ⟨by rw [HG.out], rfl⟩
          · have hd : decide ((0 : Int) < (i : Int)) = true := by simp; omega
            have hd2 : 0 < i := by omega
            have HG : Hid (acc ++ sepP i [10] = acc ++ [10]) := Lib.hid (by rw [sepP, if_neg h0])
            have o1 : ¬ 9223372036854775807 < acc.length + 1 := by omega
            clear h0
            go_wp2_with fail
            go_meet
            exact ⟨by rw [HG.out], rfl⟩
        case rest => as_aux_lemma =>
          obtain ⟨rfl, rfl⟩ := hcut
          clear hal
          generalize acc ++ sepP i [10] = a2 at HN hjl ⊢
          go_wp2_with fail
          go_loopg [5, 7] gr.length (fun G s5 s7 wx => ∃ (j : Nat) (ac2 : List UInt8), j ≤ gr.length ∧ G = gr.length - j ∧ s7 = .int .i64 j ∧ s5 = .string (bs ac2) ∧ Below w.heap.size w wx ∧ wx.cell? ⟨b, off + i, none⟩ = some (.slice A2 gr.length cap2) ∧ Sl 2 Rfield X wx (.slice A2 gr.length cap2) gr ∧ Hid (a2 ++ pgT (gr.take j) = ac2))
          case atStart => exact ⟨0, a2, Nat.zero_le _, rfl, rfl, rfl, hbw, ck, hsg, Lib.hid (by simp [pgT])⟩
          case round =>
            clear hbw ck hsg
            obtain ⟨j, ac2, hj, rfl, rfl, rfl, hbx, ck, hsg, HA⟩ := hrel
            by_cases hjlt : j < gr.length
            · obtain ⟨b2, off2, rfl, _, hc⟩ := hsg.field (by omega)
              obtain ⟨c0, c1⟩ := hc j hjlt
              have HST := Lib.hid (pgT_take gr j hjlt)
              have hpp := pgT_pre gr (j + 1)
              obtain ⟨hn1, hn2⟩ := HSB.out _ (List.getElem_mem hjlt)
              have j1 : (0 : Int) ≤ (j : Int) := by omega
              have j2 : (j : Int) < (gr.length : Int) := by omega
              clear hc
              generalize gr[j] = f at c0 c1 HST hn1 hn2
              obtain ⟨fn, fv⟩ := f
              simp only at c0 c1 hn1 hn2
              obtain ⟨h, t, hs, hft⟩ := fdT_lines (fn, fv)
              simp only at hs hft
              have HN2 : Hid (a2 ++ pgT (gr.take (j + 1)) = ((ac2 ++ (fn ++ [58])) ++ hdT h) ++ [10] ++ tlT t) := Lib.hid (by rw [HST.out, ← List.append_assoc, HA.out, hft]; simp)
              have hbd : (((ac2 ++ (fn ++ [58])) ++ hdT h) ++ [10] ++ tlT t).length ≤ 1000000000 := by rw [← HN2.out]; simp only [List.length_append] at hjl ⊢; omega
              have hbd2 : ac2.length + fn.length + 1 + (hdT h).length + 1 + (tlT t).length ≤ 1000000000 := by simp only [List.length_append, List.length_cons, List.length_nil] at hbd; omega
              clear HST HA hft hpp hbd
              have hlen : (splitB 10 fv).length = t.length + 1 := by rw [hs]; simp
              have htl : t.length ≤ 1000001 := by
                have := (splitP_len fv [] fv.length (by simp)).1
                rw [show splitP 10 fv [] = splitB 10 fv from rfl, hlen] at this
                omega
              go_wp2_with fail
              refine (lines_any fv _ (by omega)).mono ?_
              rintro e w3 ⟨⟨v8, rfl, hs8⟩, hb3⟩
              have ck3 := (hb3.cell (p := ⟨b, off + i, none⟩) (World.block_lt_of_cell? _ _ ck)).trans ck
              have hsg3 := Below.sl good_field hb3 hsg
              have c03 := (hb3.cell (p := ⟨b2, off2 + j * 2, none⟩) (World.block_lt_of_cell? _ _ c0)).trans c0
              have q3 := below_trans hbx hb3
              clear ck hsg c0 c1 hbx hb3
              obtain ⟨A8, cap8, rfl, hc81, hc82⟩ := hs8.form
              unfold maxLen at hc82
              have HS := Lib.hid hs
              clear hs
              obtain ⟨_, _, _, b8, off8, rfl, hc⟩ := hs8.text (by omega)
              have HC := Lib.hid hc
              have ch : w3.cell? ⟨b8, off8, none⟩ = some (.string (bs h)) := by
                have := hc 0 (by omega)
                have e : (splitB 10 fv)[0]'(by omega) = h := by simp [HS.out]
                rwa [e, Nat.add_zero] at this
              have ct : Hid (∀ q (hq : q < t.length), w3.cell? ⟨b8, off8 + (q + 1), none⟩ = some (.string (bs t[q]))) := Lib.hid fun q hq => by
                have := HC.out (q + 1) (by omega)
                have e : (splitB 10 fv)[q + 1]'(by omega) = t[q] := by simp [HS.out]
                rwa [e] at this
              rw [hlen] at hc81 ⊢
              generalize splitB 10 fv = L at hs8 HS HC hc
              clear hc HC HS hs8 hlen
              have o1 : ¬ 9223372036854775807 < ac2.length + fn.length := by omega
              have o2 : ¬ 9223372036854775807 < ac2.length + fn.length + 1 := by omega
              have o3 : ¬ 9223372036854775807 < ac2.length + (fn.length + 1) := by omega
              have k8 : (0 : Int) < ((t.length + 1 : Nat) : Int) := by omega
              have n1 : (bs ([] : List UInt8)).toList = [] := toList_bs _
              have qh := beq_bs2 h []
              rw [n1] at qh
              go_upto_if 57 with fail
              go_cut [5] (fun s5 wy => s5 = .string (bs ((ac2 ++ (fn ++ [58])) ++ hdT h)) ∧ w3 = wy)
              case first => as_aux_lemma =>
                cases h with
                | nil =>
                  have HG : Hid ((ac2 ++ (fn ++ [58])) ++ hdT [] = (ac2 ++ fn) ++ [58]) := Lib.hid (by rw [hdT, if_pos rfl]; simp)
                  go_wp2_with fail
                  go_meet
                  exact ⟨by rw [HG.out]; first | done | rfl | simp, rfl⟩
                | cons c0 h0 =>
                  have HG : Hid ((ac2 ++ (fn ++ [58])) ++ hdT (c0 :: h0) = (((ac2 ++ fn) ++ [58]) ++ [32]) ++ (c0 :: h0)) := Lib.hid (by rw [hdT, if_neg (by simp)]; simp)
                  have hdl : (hdT (c0 :: h0)).length = h0.length + 1 + 1 := by rw [hdT, if_neg (by simp)]; rfl
                  have o4 : ¬ 9223372036854775807 < ac2.length + fn.length + 1 + 1 := by omega
                  have o5 : ¬ 9223372036854775807 < ac2.length + (fn.length + 1) + 1 := by omega
                  have o6 : ¬ 9223372036854775807 < ac2.length + fn.length + 1 + 1 + (h0.length + 1) := by omega
                  have o7 : ¬ 9223372036854775807 < ac2.length + (fn.length + 1) + 1 + (h0.length + 1) := by omega
                  have o8 : ¬ 9223372036854775807 < ac2.length + (fn.length + (1 + 1)) + (h0.length + 1) := by omega
                  have o9 : ¬ 9223372036854775807 < ac2.length + (fn.length + 1 + 1) + (h0.length + 1) := by omega
                  go_wp2_with fail
                  go_meet
                  exact ⟨by rw [HG.out]; first | done | rfl | simp, rfl⟩
              case rest => as_aux_lemma =>
                obtain ⟨rfl, rfl⟩ := hcut
                have hb4 : ((ac2 ++ (fn ++ [58])) ++ hdT h).length + 1 + (tlT t).length ≤ 1000000000 := by simp only [List.length_append, List.length_cons, List.length_nil]; omega
                generalize (ac2 ++ (fn ++ [58])) ++ hdT h = a4 at HN2 hb4 ⊢
                clear o1 o2 o3 qh n1 hbd2
                have o1 : ¬ 9223372036854775807 < a4.length + 1 := by omega
                go_wp2_with fail
                go_loopg [5, 9] t.length (fun G s5 s9 wy => ∃ (q : Nat) (ac3 : List UInt8), 1 ≤ q ∧ q ≤ t.length + 1 ∧ G = t.length + 1 - q ∧ s9 = .int .i64 q ∧ s5 = .string (bs ac3) ∧ w3 = wy ∧ Hid ((a4 ++ [10]) ++ tlT (t.take (q - 1)) = ac3))
                case atStart => exact ⟨1, a4 ++ [10], Nat.le_refl _, by omega, by omega, rfl, rfl, rfl, Lib.hid (by simp [tlT])⟩
                case round =>
                  obtain ⟨q, ac3, hq1, hq, rfl, rfl, rfl, rfl, HA⟩ := hrel
                  by_cases hql : q < t.length + 1
                  · obtain ⟨p, rfl⟩ : ∃ p, q = p + 1 := ⟨q - 1, by omega⟩
                    have hp : p < t.length := by omega
                    have ctp := ct.out p hp
                    have HST := Lib.hid (tlT_take t p hp)
                    have hpp := tlT_pre t (p + 1)
                    generalize t[p] = x at ctp HST
                    have HN3 : Hid ((a4 ++ [10]) ++ tlT (t.take (p + 1)) = ((ac3 ++ [32]) ++ x) ++ [10]) := Lib.hid (by rw [HST.out, ← List.append_assoc, show p = p + 1 - 1 by omega, HA.out]; simp)
                    have hbl : ac3.length + 1 + x.length + 1 ≤ 1000000000 := by
                      have := congrArg List.length HN3.out
                      simp only [List.length_append, List.length_cons, List.length_nil] at this
                      omega
                    have o2 : ¬ 9223372036854775807 < ac3.length + 1 := by omega
                    have o3 : ¬ 9223372036854775807 < ac3.length + 1 + x.length := by omega
                    have o4 : ¬ 9223372036854775807 < ac3.length + 1 + x.length + 1 := by omega
                    clear HST HA hpp
                    have q1 : (0 : Int) ≤ ((p + 1 : Nat) : Int) := by omega
                    have q2 : ((p + 1 : Nat) : Int) < ((t.length + 1 : Nat) : Int) := by omega
                    go_wp2_with fail
                    go_roundg (t.length + 1 - (p + 1 + 1))
                    case measure => omega
                    case rel => exact ⟨p + 1 + 1, _, by omega, by omega, rfl, by go_num, rfl, rfl, Lib.hid (by rw [show p + 1 + 1 - 1 = p + 1 by omega, HN3.out]; simp)⟩
                  · have hqe : q = t.length + 1 := by omega
                    subst hqe
                    have HN4 : Hid (a2 ++ pgT (gr.take (j + 1)) = ac3) := Lib.hid (by rw [HN2.out, ← HA.out]; simp)
                    clear HA HN2
                    go_wp2_with fail
                    go_roundg (gr.length - (j + 1))
                    case measure => omega
                    case rel => exact ⟨j + 1, ac3, by omega, rfl, by go_num, rfl, q3, ck3, hsg3, HN4⟩
            · have hje : j = gr.length := by omega
              have HN2 : Hid (Lib.join ((l.take (i + 1)).map pgT) [10] = ac2) := Lib.hid (by rw [HN.out, ← HA.out, hje, List.take_length])
              clear HA HN
              go_wp2_with fail
              go_roundg (l.length - (i + 1))
              case measure => omega
              case rel => exact ⟨i + 1, ac2, by omega, rfl, by go_num, hbx, rfl, HN2⟩
      · obtain rfl : i = l.length := by omega
        rw [List.take_length] at HA
        have HV : Hid (parasT l = acc) := Lib.hid (by rw [← HTT.out, HA.out])
        clear HA
        go_wp2_with fail
        go_ret2
        exact ⟨by rw [HP2.out, HV.out]; rfl, hbw⟩
  · have HP2 : Hid (printP l = ([], chkP l)) := Lib.hid (by rw [HP.out, if_neg h0])
    have hd : (chkP l != 0) = true := by simpa using h0
    clear h0 HP
    go_wp2_with fail
    go_ret2
    exact ⟨by rw [HP2.out]; rfl, hb1⟩
end Go.Proofs.YthcgomainhaemaaDoor

/- The walk of the document's answer for ddep: Print. -/
import Derived.Test.YtdnncbhbajciaaaDoorDdN
namespace Go.Proofs.YtdnncbhbajciaaaDoor
open Go.RowKit
theorem join_snoc (xs : List (List UInt8)) (x sep : List UInt8) (h : xs ≠ []) : Lib.join (xs ++ [x]) sep = Lib.join xs sep ++ (sep ++ x) := by
  cases xs with
  | nil => exact absurd rfl h
  | cons a r =>
    rw [List.cons_append, Lib.join_cons, Lib.join_cons]
    simp [Lib.joinTail]
def sepP (k : Nat) (sep : List UInt8) : List UInt8 := if k = 0 then [] else sep
theorem join_take {α : Type} (f : α → List UInt8) (l : List α) (sep : List UInt8) (k : Nat) (h : k < l.length) : Lib.join ((l.take (k + 1)).map f) sep = Lib.join ((l.take k).map f) sep ++ (sepP k sep ++ f l[k]) := by
  rw [map_take f l k h]
  by_cases h0 : k = 0
  · subst h0
    simp [sepP, Lib.join_nil, Lib.join_one]
  · rw [join_snoc _ _ _ (by
      intro e
      have := congrArg List.length e
      rw [List.length_map, List.length_take, List.length_nil] at this
      omega), sepP, if_neg h0]
theorem sepP_len (k : Nat) (sep : List UInt8) : (sepP k sep).length ≤ sep.length := by
  unfold sepP; split <;> simp
def archP (l : List (List UInt8)) (i : Nat) : List UInt8 := if i = 0 then [] else [32, 91] ++ Lib.join (l.take i) [32]
theorem archP_zero (l : List (List UInt8)) : archP l 0 = [] := rfl
theorem archP_step (l : List (List UInt8)) (i : Nat) (h : i < l.length) : archP l (i + 1) = archP l i ++ ((if i = 0 then [32, 91] else [32]) ++ l[i]) := by
  have := join_take id l [32] i h
  simp only [List.map_id, id] at this
  rw [archP, if_neg (by omega), this, archP]
  by_cases h0 : i = 0
  · subst h0; simp [sepP, Lib.join_nil]
  · rw [if_neg h0, if_neg h0, sepP, if_neg h0]; simp
theorem archP_end (l : List (List UInt8)) : archT l = archP l l.length ++ (if l = [] then [] else [93]) := by
  unfold archT archP
  by_cases h0 : l = []
  · subst h0; rfl
  · rw [if_neg h0, if_neg h0, if_neg (by simpa using h0), List.take_length]; simp
theorem archP_len (l : List (List UInt8)) (i : Nat) (hi : i ≤ l.length) (h : ∀ a ∈ l, a.length ≤ 1000000) : (archP l i).length ≤ 2 + i * 1000001 := by
  unfold archP
  split
  · simp
  · have := join_len (l.take i) [32] 1000000 (fun a ha => h a (List.mem_of_mem_take ha))
    rw [List.length_take, Nat.min_eq_left hi] at this
    simp only [List.length_append, List.length_cons, List.length_nil] at this ⊢
    omega
set_option maxRecDepth 20000 in
set_option maxHeartbeats 16000000 in
theorem eprint_any (l : List (List Tm)) (v : Value) (X : Nat → Prop) (w : World) (hsl : Sl 1 Rgroup X w v l) (hF : FS l) (hw : Words w) :
    Calls Tryd.prog 19 #[v] w fun e w' => e = .returned (.tuple #[.string (bs (printS l).1), .int .i64 (printS l).2]) ∧ Below w.heap.size w w' := by
  have hck := fun X w hsl hw => echeck_any l v X w hsl hF hw
  obtain ⟨A, cap, rfl, hc1, hc2⟩ := hsl.form
  unfold maxLen at hc2
  have HT : Hid (printS l = if chkS l = 0 then (fieldT l, 0) else ([], chkS l)) := Lib.hid rfl
  go_enter Tryd.func19, Tryd.ntmps19
  go_wp2_with fail
  refine (hck X w hsl hw).mono ?_
  rintro e w1 ⟨rfl, hb1⟩
  by_cases h0 : chkS l = 0
  · have HV : Hid (printS l = (fieldT l, 0)) := Lib.hid (by rw [HT.out, if_pos h0])
    rw [h0]
    obtain ⟨hs64, hne, hte⟩ := chk_ok l h0
    have hl64 := sumT_len l hne
    have HM := Lib.hid (sumT_mem l)
    have HF2 := Lib.hid hF
    have HTE := Lib.hid hte
    clear hck hF hne hte HT h0
    go_wp2_with fail
    go_loopg [5, 6] l.length (fun G s5 s6 wr => ∃ k : Nat, k ≤ l.length ∧ G = l.length - k ∧ s6 = .int .i64 k ∧ Below w.heap.size w wr ∧ ∃ acc, s5 = .string (bs acc) ∧ Hid (acc.length ≤ k * 1000000000000000) ∧ Hid (acc = Lib.join ((l.take k).map groupT) [44, 32]))
    case atStart => exact ⟨0, Nat.zero_le _, rfl, rfl, hb1, [], rfl, Lib.hid (by simp), Lib.hid rfl⟩
    case round =>
      clear hb1
      obtain ⟨k, hk, rfl, rfl, hbw, acc, rfl, hal, HA⟩ := hrel
      by_cases hlt : k < l.length
      · have hslr := hsl.keep good_group (Kept.of_below hbw X)
        obtain ⟨b, off, rfl, _, hc⟩ := hslr.group (by omega)
        obtain ⟨vg, ck, hsg⟩ := hc k hlt
        obtain ⟨A2, cap2, rfl, hg1, hg2⟩ := hsg.form
        unfold maxLen at hg2
        have HST := Lib.hid (join_take groupT l [44, 32] k hlt)
        rw [← HA.out] at HST
        have hgl := HM.out _ (List.getElem_mem hlt)
        have hsb := (HF2.out.2 _ (List.getElem_mem hlt)).2
        have hte := HTE.out _ (List.getElem_mem hlt)
        clear hc HA
        generalize l[k] = gr at ck hsg HST hgl hsb hg1 hte
        have HSB := Lib.hid hsb
        have HTE2 := Lib.hid hte
        clear hsb hte
        go_upto_if 22 with fail
        go_cut [5] (fun s5 wx => s5 = .string (bs (acc ++ sepP k [44, 32])) ∧ wr = wx)
        case first =>
          have hcat := bs_app
          have hsz := bs_size
          have r1 : ∀ q, bs q ++ (⟨#[44, 32]⟩ : ByteArray) = bs (q ++ [44, 32]) := fun q => bs_app q [44, 32]
          have o1 : ¬ 9223372036854775807 < acc.length + 2 := by have := hal.out; omega
          by_cases h0 : k = 0
          · have hkb : decide (0 < (k : Int)) = false := by simp; omega
            have hkb2 : ¬ 0 < k := by omega
            have HP : Hid (acc ++ sepP k [44, 32] = acc) := Lib.hid (by rw [sepP, if_pos h0, List.append_nil])
            clear h0 hal
            go_wp2_with fail
            go_meet
            rw [HP.out]
            exact ⟨rfl, rfl⟩
          · have hkb : decide (0 < (k : Int)) = true := by simp; omega
            have hkb2 : 0 < k := by omega
            have HP : Hid (sepP k [44, 32] = [44, 32]) := Lib.hid (by rw [sepP, if_neg h0])
            clear h0
            go_wp2_with fail
            go_meet
            rw [HP.out]
            exact ⟨rfl, rfl⟩
        case rest =>
          obtain ⟨rfl, rfl⟩ := hcut
          obtain ⟨base, HB⟩ : ∃ x, Hid (acc ++ sepP k [44, 32] = x) := ⟨_, Lib.hid rfl⟩
          have hbl : Hid (base.length ≤ k * 1000000000000000 + 2) := Lib.hid (by
            have h1 := sepP_len k [44, 32]
            have h2 := hal.out
            rw [← HB.out, List.length_append]
            simp only [List.length_cons, List.length_nil] at h1
            omega)
          rw [HB.out]
          have HST2 : Hid (Lib.join ((l.take (k + 1)).map groupT) [44, 32] = base ++ groupT gr) := Lib.hid (by rw [HST.out, ← HB.out]; simp)
          clear HST HB
          go_wp2_with fail
          go_loopg [5, 7] gr.length (fun G s5 s7 wx => ∃ j : Nat, j ≤ gr.length ∧ G = gr.length - j ∧ s7 = .int .i64 j ∧ Below w.heap.size w wx ∧ Below wr.heap.size wr wx ∧ ∃ acc, s5 = .string (bs acc) ∧ Hid (acc.length ≤ base.length + j * 10000000000000) ∧ Hid (acc = base ++ Lib.join ((gr.take j).map termT) [32, 124, 32]))
          case atStart => exact ⟨0, Nat.zero_le _, rfl, rfl, hbw, Below.refl _ _, base, rfl, Lib.hid (by simp), Lib.hid (by simp [Lib.join_nil])⟩
          case round =>
            clear hal acc
            obtain ⟨j, hj, rfl, rfl, hbx, hbx2, acc, rfl, hal, HA⟩ := hrel
            have ckx := (hbx2.cell (p := ⟨b, off + k, none⟩) (lt_of_cell ck)).trans ck
            by_cases hjl : j < gr.length
            · have hsgx := hsg.keep good_term (Kept.of_below hbx2 X)
              obtain ⟨b2, off2, rfl, _, hc⟩ := hsgx.term (by omega)
              obtain ⟨va, ⟨c0, c1, c2, c3, c4⟩, hsa⟩ := hc j hjl
              obtain ⟨A3, cap3, rfl, ha1, ha2⟩ := hsa.form
              unfold maxLen at ha2
              have HST3 := Lib.hid (join_take termT gr [32, 124, 32] j hjl)
              obtain ⟨hTS, hTJ⟩ := HSB.out _ (List.getElem_mem hjl)
              have hop := tErr_op _ (HTE2.out _ (List.getElem_mem hjl))
              clear hc
              generalize gr[j] = t at c0 c1 c2 c3 c4 hsa HST3 hTS hTJ hop ha1
              obtain ⟨s1, s2, s3, s4, s5⟩ := hTS
              have HT : Hid (termT t = t.name ++ (qualT t.qual ++ (relT t.op t.ver ++ archT t.archs))) := Lib.hid rfl
              have H55 := Lib.hid s5
              clear s5 hTJ
              go_upto_if 42 with fail
              have hba : Below wr.heap.size wr (wr.alloc (.cells #[.string (bs t.name), .int .i64 t.op, .string (bs t.ver), .string (bs t.qual), .slice A3 t.archs.length cap3] 50)) := (Below.refl _ _).alloc (Nat.le_refl _) _
              have bT : TB (wr.alloc (.cells #[.string (bs t.name), .int .i64 t.op, .string (bs t.ver), .string (bs t.qual), .slice A3 t.archs.length cap3] 50)) wr.heap.size t.name t.op t.ver t.qual (.slice A3 t.archs.length cap3) := Blk.new wr _ _
              have hsa1 := hsa.keep good_text (Kept.of_below hba X)
              generalize wr.alloc (.cells #[.string (bs t.name), .int .i64 t.op, .string (bs t.ver), .string (bs t.qual), .slice A3 t.archs.length cap3] 50) = w2 at hba bT hsa1 ⊢
              obtain ⟨d0, d1, d2, d3, d4⟩ := TB.cells bT
              clear c0 c1 c2 c3 c4 hsa hsgx
              go_cut [5] (fun s5 wz => s5 = .string (bs (acc ++ sepP j [32, 124, 32])) ∧ w2 = wz)
              case first =>
                have hcat := bs_app
                have hsz := bs_size
                have r1 : ∀ q, bs q ++ (⟨#[32, 124, 32]⟩ : ByteArray) = bs (q ++ [32, 124, 32]) := fun q => bs_app q [32, 124, 32]
                have o1 : ¬ 9223372036854775807 < acc.length + 3 := by have := hal.out; have := hbl.out; omega
                by_cases h0 : j = 0
                · subst h0
                  go_wp2_with fail
                  go_meet
                  exact ⟨by simp [sepP], rfl⟩
                · have hkb : decide (0 < (j : Int)) = true := by simp; omega
                  have hkb2 : 0 < j := by omega
                  have HP : Hid (sepP j [32, 124, 32] = [32, 124, 32]) := Lib.hid (by rw [sepP, if_neg h0])
                  clear h0
                  go_wp2_with fail
                  go_meet
                  rw [HP.out]
                  exact ⟨rfl, rfl⟩
              case rest =>
                obtain ⟨rfl, rfl⟩ := hcut
                obtain ⟨a2, HB2⟩ : ∃ x, Hid (acc ++ sepP j [32, 124, 32] = x) := ⟨_, Lib.hid rfl⟩
                have hl2 : a2.length ≤ acc.length + 3 := by
                  have h1 := sepP_len j [32, 124, 32]
                  rw [← HB2.out, List.length_append]
                  simp only [List.length_cons, List.length_nil] at h1
                  omega
                have hA : Hid (acc.length ≤ 100000000000000000) := Lib.hid (by have := hal.out; have := hbl.out; omega)
                rw [HB2.out]
                have HS4 : Hid (base ++ Lib.join ((gr.take (j + 1)).map termT) [32, 124, 32] = a2 ++ termT t) := Lib.hid (by rw [HST3.out, ← HB2.out, HA.out]; simp)
                clear HST3 HB2 HA
                have hcat := bs_app
                have hsz := bs_size
                have o2 : ¬ 9223372036854775807 < a2.length + t.name.length := by have := hA.out; omega
                go_upto_if 52 with fail
                clear hcat hsz o2
                go_cut [5] (fun s5 wz => s5 = .string (bs (a2 ++ t.name ++ qualT t.qual)) ∧ w2 = wz)
                case first =>
                  by_cases hq : t.qual = []
                  · have n1 : (bs t.qual).toList = [] := by rw [toList_bs]; exact hq
                    have n2 : (bs t.qual).toList.isEmpty = true := by rw [n1]; rfl
                    have HQ : Hid (qualT t.qual = []) := Lib.hid (by rw [qualT, if_pos hq])
                    rw [n2]
                    clear hq n1 n2
                    go_wp2_with fail
                    go_meet
                    rw [HQ.out, List.append_nil]
                    exact ⟨rfl, rfl⟩
                  · have n1 : ¬ (bs t.qual).toList = [] := by rw [toList_bs]; exact hq
                    have n2 : (bs t.qual).toList.isEmpty = false := by simpa using n1
                    have HQ : Hid (qualT t.qual = 58 :: t.qual) := Lib.hid (by rw [qualT, if_neg hq])
                    have hcat := bs_app
                    have hsz := bs_size
                    have r1 : ∀ q, bs q ++ (⟨#[58]⟩ : ByteArray) = bs (q ++ [58]) := fun q => bs_app q [58]
                    have o1 : ¬ 9223372036854775807 < a2.length + t.name.length + 1 := by have := hA.out; omega
                    have o2 : ¬ 9223372036854775807 < a2.length + t.name.length + 1 + t.qual.length := by have := hA.out; omega
                    have o3 : ¬ 9223372036854775807 < a2.length + (t.name.length + 1) := by have := hA.out; omega
                    have o4 : ¬ 9223372036854775807 < a2.length + (t.name.length + 1) + t.qual.length := by have := hA.out; omega
                    rw [n2]
                    clear hq n1 n2
                    go_wp2_with fail
                    go_meet
                    rw [HQ.out]
                    exact ⟨by simp, rfl⟩
                case rest =>
                  obtain ⟨rfl, rfl⟩ := hcut
                  obtain ⟨a3, HB3⟩ : ∃ x, Hid (a2 ++ t.name ++ qualT t.qual = x) := ⟨_, Lib.hid rfl⟩
                  have hl3 : a3.length ≤ a2.length + 2000001 := by
                    have hql : (qualT t.qual).length ≤ 1000001 := by unfold qualT; split <;> simp <;> omega
                    rw [← HB3.out, List.length_append, List.length_append]; omega
                  rw [HB3.out]
                  have HS5 : Hid (base ++ Lib.join ((gr.take (j + 1)).map termT) [32, 124, 32] = a3 ++ (relT t.op t.ver ++ archT t.archs)) := Lib.hid (by rw [HS4.out, ← HB3.out, HT.out]; simp)
                  clear HB3 HS4 HT
                  obtain ⟨op, Hop⟩ : ∃ o, Hid (t.op = o) := ⟨_, Lib.hid rfl⟩
                  rw [Hop.out] at HS5 hop d1
                  go_upto_if 61 with fail
                  go_cut [5] (fun s5 wz => s5 = .string (bs (a3 ++ relT op t.ver)) ∧ Below w2.heap.size w2 wz)
                  case first =>
                    by_cases h0 : op = 0
                    · have HR : Hid (relT op t.ver = []) := Lib.hid (by rw [relT, if_pos h0])
                      subst h0
                      go_wp2_with fail
                      go_meet
                      rw [HR.out, List.append_nil]
                      exact ⟨rfl, Below.refl _ _⟩
                    · obtain ⟨i, rfl⟩ := Int.eq_ofNat_of_zero_le hop.1
                      have hi6 : i < 6 := by omega
                      have hrel := fun W => erel_any i hi6 W
                      have HR : Hid (relT (i : Int) t.ver = [32, 40] ++ (signsL.getD i [] ++ (32 :: (t.ver ++ [41])))) := Lib.hid (by rw [relT, if_neg h0]; rfl)
                      have hsl2 : (signsL.getD i []).length ≤ 2 := by
                        obtain rfl | rfl | rfl | rfl | rfl | rfl : i = 0 ∨ i = 1 ∨ i = 2 ∨ i = 3 ∨ i = 4 ∨ i = 5 := by omega
                        all_goals decide
                      generalize signsL.getD i [] = sg at hrel HR hsl2
                      have hob : decide ((0 : Int) < (i : Int)) = true := by simp; omega
                      have hob2 : 0 < i := by omega
                      have hcat := bs_app
                      have hsz := bs_size
                      have r1 : ∀ q, bs q ++ (⟨#[32, 40]⟩ : ByteArray) = bs (q ++ [32, 40]) := fun q => bs_app q [32, 40]
                      have r2 : ∀ q, bs q ++ (⟨#[32]⟩ : ByteArray) = bs (q ++ [32]) := fun q => bs_app q [32]
                      have r3 : ∀ q, bs q ++ (⟨#[41]⟩ : ByteArray) = bs (q ++ [41]) := fun q => bs_app q [41]
                      have o1 : ¬ 9223372036854775807 < a3.length + 2 := by have := hA.out; omega
                      have o2 : ¬ 9223372036854775807 < a3.length + 2 + sg.length := by have := hA.out; omega
                      have o3 : ¬ 9223372036854775807 < a3.length + (sg.length + 1 + 1) + 1 := by have := hA.out; omega
                      have o4 : ¬ 9223372036854775807 < a3.length + (sg.length + 1 + 1 + 1) + t.ver.length := by have := hA.out; omega
                      have o5 : ¬ 9223372036854775807 < a3.length + (sg.length + (t.ver.length + 1) + 1 + 1) + 1 := by have := hA.out; omega
                      clear h0
                      go_wp2_with fail
                      refine wp_region_plan (fun W => W.cell? ⟨wr.heap.size, 1, none⟩ = some (.int .i64 i) ∧ W.cell? ⟨wr.heap.size, 2, none⟩ = some (.string (bs t.ver))) [(false, 0), (false, 1), (false, 2), (false, 3), (false, 4), (false, 8), (false, 9), (false, 10), (true, 5), (false, 6), (false, 7), (false, 11), (false, 12), (false, 13)] (by kernel_rfl) (by kernel_rfl) (⟨by simpa using d1, by simpa using d2⟩) ?_
                      simp only [planOps, List.map, List.getD_cons_zero, List.getD_cons_succ]
                      iterate 8 ((first | refine plan_quiet (v := ?_) rfl rfl (fun w' hw' => ?_) ?_ | refine plan_calm (v := ?_) (tt_of) rfl (fun w' hw' => ?_) ?_); rotate_left; (focus (go_simp <;> with_reducible rfl)); simp only [Act.put, List.setIfInBounds_toArray, List.set_cons_zero, List.set_cons_succ])
                      refine plan_loud rfl (fun K hK => ?_)
                      go_simp
                      refine (hrel _).mono ?_
                      rintro e w3 ⟨rfl, hb3⟩
                      have d1' := (hb3.cell (p := ⟨wr.heap.size, 1, none⟩) (lt_of_cell d1)).trans d1
                      have d2' := (hb3.cell (p := ⟨wr.heap.size, 2, none⟩) (lt_of_cell d2)).trans d2
                      refine hK _ _ (⟨d1', d2'⟩) ?_
                      clear hK K
                      (try simp only [Act.put, List.setIfInBounds_toArray, List.set_cons_zero, List.set_cons_succ])
                      iterate 5 ((first | refine plan_quiet (v := ?_) rfl rfl (fun w' hw' => ?_) ?_ | refine plan_calm (v := ?_) (tt_of) rfl (fun w' hw' => ?_) ?_); rotate_left; (focus (go_simp <;> with_reducible rfl)); simp only [Act.put, List.setIfInBounds_toArray, List.set_cons_zero, List.set_cons_succ])
                      refine plan_end ?_
                      go_wp2_with fail
                      go_meet
                      rw [HR.out]
                      refine ⟨?_, (Below.refl _ _).drew.trans hb3⟩
                      simp
                  case rest =>
                    obtain ⟨rfl, hb4⟩ := hcut
                    obtain ⟨a4, HB4⟩ : ∃ x, Hid (a3 ++ relT op t.ver = x) := ⟨_, Lib.hid rfl⟩
                    have hl4 : a4.length ≤ a3.length + 1000010 := by
                      have hrl : (relT op t.ver).length ≤ 1000010 := by
                        unfold relT
                        split
                        · simp
                        · obtain ⟨i, rfl⟩ := Int.eq_ofNat_of_zero_le hop.1
                          have hi6 : i < 6 := by omega
                          have : (signsL.getD i []).length ≤ 2 := by
                            obtain rfl | rfl | rfl | rfl | rfl | rfl : i = 0 ∨ i = 1 ∨ i = 2 ∨ i = 3 ∨ i = 4 ∨ i = 5 := by omega
                            all_goals decide
                          show ([32, 40] ++ (signsL.getD i [] ++ (32 :: (t.ver ++ [41])))).length ≤ 1000010
                          simp only [List.length_append, List.length_cons, List.length_nil]
                          omega
                      rw [← HB4.out, List.length_append]; omega
                    rw [HB4.out]
                    have HS6 : Hid (base ++ Lib.join ((gr.take (j + 1)).map termT) [32, 124, 32] = a4 ++ archT t.archs) := Lib.hid (by rw [HS5.out, ← HB4.out]; simp)
                    have d4' := (hb4.cell (p := ⟨wr.heap.size, 4, none⟩) (lt_of_cell d4)).trans d4
                    have hsa2 := hsa1.keep good_text (Kept.of_below hb4 X)
                    have q4 := (hbx2.trans (hba.mono hbx2.size)).trans (hb4.mono (Nat.le_trans hbx2.size hba.size))
                    have q4' := (hbx.trans (hba.mono hbx.size)).trans (hb4.mono (Nat.le_trans hbx.size hba.size))
                    clear HB4 HS5 d0 d1 d2 d3 d4 bT hsa1 hba hb4 hbx hbx2
                    go_wp2_with fail
                    go_loopg [5, 9] t.archs.length (fun G s5 s9 wz => ∃ i : Nat, i ≤ t.archs.length ∧ G = t.archs.length - i ∧ s9 = .int .i64 i ∧ wc = wz ∧ ∃ acc, s5 = .string (bs acc) ∧ Hid (acc.length ≤ a4.length + 2 + i * 1000001) ∧ Hid (acc = a4 ++ archP t.archs i))
                    case atStart => exact ⟨0, Nat.zero_le _, rfl, rfl, rfl, a4, rfl, Lib.hid (by omega), Lib.hid (by rw [archP_zero, List.append_nil])⟩
                    case round =>
                      obtain ⟨i, hi, rfl, rfl, rfl, acc2, rfl, hal2, HA2⟩ := hrel
                      by_cases hil : i < t.archs.length
                      · obtain ⟨_, _, _, b3, off3, rfl, hc⟩ := hsa2.text (by omega)
                        have cki := hc i hil
                        have hai := H55.out _ (List.getElem_mem hil)
                        have HST := Lib.hid (archP_step t.archs i hil)
                        clear hc
                        generalize t.archs[i] = a at cki hai HST
                        go_upto_if 83 with fail
                        go_cut [5] (fun s5 wz => s5 = .string (bs (acc2 ++ (if i = 0 then [32, 91] else [32]))) ∧ wc = wz)
                        case first =>
                          have hcat := bs_app
                          have hsz := bs_size
                          have r1 : ∀ q, bs q ++ (⟨#[32, 91]⟩ : ByteArray) = bs (q ++ [32, 91]) := fun q => bs_app q [32, 91]
                          have r2 : ∀ q, bs q ++ (⟨#[32]⟩ : ByteArray) = bs (q ++ [32]) := fun q => bs_app q [32]
                          have o1 : ¬ 9223372036854775807 < acc2.length + 2 := by have := hal2.out; have := hA.out; omega
                          have o2 : ¬ 9223372036854775807 < acc2.length + 1 := by have := hal2.out; have := hA.out; omega
                          by_cases h0 : i = 0
                          · have hb : ((i : Int) == 0) = true := by simpa using h0
                            have HI : Hid ((if i = 0 then [32, 91] else [32] : List UInt8) = [32, 91]) := Lib.hid (if_pos h0)
                            clear h0 hal2 HA2 HST
                            go_wp2_with fail
                            go_meet
                            rw [HI.out]
                            exact ⟨rfl, rfl⟩
                          · have hb : ((i : Int) == 0) = false := by simpa using h0
                            have HI : Hid ((if i = 0 then [32, 91] else [32] : List UInt8) = [32]) := Lib.hid (if_neg h0)
                            clear h0 hal2 HA2 HST
                            go_wp2_with fail
                            go_meet
                            rw [HI.out]
                            exact ⟨rfl, rfl⟩
                        case rest =>
                          obtain ⟨rfl, rfl⟩ := hcut
                          obtain ⟨a5, HB5⟩ : ∃ x, Hid (acc2 ++ (if i = 0 then [32, 91] else [32]) = x) := ⟨_, Lib.hid rfl⟩
                          rw [HB5.out]
                          have HS7 : Hid (a5 ++ a = a4 ++ archP t.archs (i + 1)) := Lib.hid (by rw [HST.out, ← HB5.out, HA2.out]; simp)
                          have hl5 : Hid ((a5 ++ a).length ≤ a4.length + 2 + (i + 1) * 1000001) := Lib.hid (by
                            rw [HS7.out, List.length_append]
                            have := archP_len t.archs (i + 1) hil H55.out
                            omega)
                          have hcat := bs_app
                          have hsz := bs_size
                          have o1 : ¬ 9223372036854775807 < a5.length + a.length := by
                            have := hl5.out
                            have := hA.out
                            rw [List.length_append] at *
                            omega
                          clear HST HB5 HA2 hal2
                          go_wp2_with fail
                          go_roundg (t.archs.length - (i + 1))
                          case measure => omega
                          case rel => exact ⟨i + 1, by omega, rfl, by go_num, rfl, _, rfl, hl5, HS7⟩
                      · obtain rfl : i = t.archs.length := by omega
                        have HE := Lib.hid (archP_end t.archs)
                        have HF : Hid (acc2 ++ (if t.archs = [] then [] else [93]) = base ++ Lib.join ((gr.take (j + 1)).map termT) [32, 124, 32]) := Lib.hid (by rw [HS6.out, HE.out, HA2.out]; simp)
                        have hlF : Hid ((acc2 ++ (if t.archs = [] then [] else [93])).length ≤ base.length + (j + 1) * 10000000000000) := Lib.hid (by
                            rw [List.length_append]
                            have h1 := hal2.out
                            have h2 := hal.out
                            have h3 : ((if t.archs = [] then [] else [93] : List UInt8)).length ≤ 1 := by split <;> simp
                            omega)
                        have hcat := bs_app
                        have hsz := bs_size
                        have r1 : ∀ q, bs q ++ (⟨#[93]⟩ : ByteArray) = bs (q ++ [93]) := fun q => bs_app q [93]
                        have o1 : ¬ 9223372036854775807 < acc2.length + 1 := by have := hal2.out; have := hA.out; omega
                        by_cases h0 : t.archs = []
                        · have hl : t.archs.length = 0 := by rw [h0]; rfl
                          have hb : decide (0 < (t.archs.length : Int)) = false := by simp [hl]
                          have hb2 : ¬ 0 < t.archs.length := by omega
                          rw [if_pos h0, List.append_nil] at HF hlF
                          clear h0 hal2 HA2 HE hl HS6
                          go_wp2_with fail
                          go_roundg (gr.length - (j + 1))
                          case measure => omega
                          case rel => exact ⟨j + 1, by omega, rfl, by go_num, q4', q4, _, rfl, hlF, HF⟩
                        · have hb2 : 0 < t.archs.length := List.length_pos_iff.2 h0
                          have hb : decide (0 < (t.archs.length : Int)) = true := by simpa using hb2
                          rw [if_neg h0] at HF hlF
                          clear h0 hal2 HA2 HE HS6
                          go_wp2_with fail
                          go_roundg (gr.length - (j + 1))
                          case measure => omega
                          case rel => exact ⟨j + 1, by omega, rfl, by go_num, q4', q4, _, rfl, hlF, HF⟩
            · obtain rfl : j = gr.length := by omega
              rw [List.take_length] at HA
              go_wp2_with fail
              go_roundg (l.length - (k + 1))
              case measure => omega
              case rel => exact ⟨k + 1, by omega, rfl, by go_num, hbx, acc, rfl, Lib.hid (by have := hal.out; have := hbl.out; omega), Lib.hid (by rw [HST2.out, HA.out]; rfl)⟩
      · obtain rfl : k = l.length := by omega
        rw [List.take_length] at HA
        go_wp2_with fail
        go_ret2
        exact ⟨by rw [HV.out, HA.out]; rfl, hbw⟩
  · have HV : Hid (printS l = ([], chkS l)) := Lib.hid (by rw [HT.out, if_neg h0])
    have hb : (chkS l != 0) = true := by simpa using h0
    generalize chkS l = ee at h0 HV hb
    clear h0
    go_wp2_with fail
    go_ret2
    exact ⟨by rw [HV.out]; rfl, hb1⟩
end Go.Proofs.YtdnncbhbajciaaaDoor

/- strings.ReplaceAll at line feeds; the walk of para.Print. -/
import Derived.Test.YthcgomainhaemaaDoorPaD
import Derived.Test.YthcgomainhaemaaDoorBldB
import Derived.Test.YthcgomainhaemaaDoorShelfR
namespace Go.Proofs.YthcgomainhaemaaDoor
open Go.RowKit
theorem replace_nl (v : List UInt8) : Lib.replaceK [10] [10, 32] (Lib.count v [10]) v = nlT v := by
  induction v with
  | nil => rw [Lib.count_miss (by rfl)]; rfl
  | cons c t ih =>
    by_cases hc : c = 10
    · subst hc
      have h0 : Lib.index (10 :: t) [10] = (0 : Nat) := by simp [Lib.index]
      rw [Lib.count_hit (by simp) h0, Nat.add_comm, Lib.replaceK_hit _ _ _ _ 0 h0]
      simp [nlT] at ih ⊢
      exact ih
    · have hi : Lib.index (c :: t) [10] = if Lib.index t [10] == -1 then -1 else Lib.index t [10] + 1 := by
        rw [Lib.index, if_neg]
        simp
        exact fun h => hc h.symm
      have hn : nlT (c :: t) = c :: nlT t := by simp [nlT, hc]
      have hge := Lib.index_ge t [10]
      by_cases hm : Lib.index t [10] = -1
      · rw [Lib.count_miss hm] at ih
        rw [hn, Lib.count_miss (by rw [hi, hm]; rfl), ← ih]
        rfl
      · obtain ⟨i, h1⟩ : ∃ i : Nat, Lib.index t [10] = i := ⟨(Lib.index t [10]).toNat, by omega⟩
        have h2 : Lib.index (c :: t) [10] = ((i + 1 : Nat) : Int) := by rw [hi, if_neg (by simp [hm]), h1]; rfl
        rw [Lib.count_hit (by simp) h1, Nat.add_comm, Lib.replaceK_hit _ _ _ _ i h1] at ih
        rw [hn, Lib.count_hit (by simp) h2, Nat.add_comm, Lib.replaceK_hit _ _ _ _ (i + 1) h2, ← ih]
        simp
theorem nlT_len (v : List UInt8) : (nlT v).length ≤ 2 * v.length := by
  induction v with
  | nil => simp [nlT]
  | cons c t ih =>
    have : nlT (c :: t) = (if c = 10 then [10, 32] else [c]) ++ nlT t := by simp [nlT]
    rw [this]
    split <;> simp <;> omega
theorem repl_any (v : List UInt8) (w : World) (hv : v.length ≤ 1000000000) (hm : MaxC w) :
    Calls Tryd.prog 20 #[.string (bs v), .string ⟨#[10]⟩, .string ⟨#[10, 32]⟩] w fun e w' => e = .returned (.string (bs (nlT v))) ∧ Below w.heap.size w w' := by
  obtain ⟨m, hm⟩ := hm
  refine (Tryd.strings_ReplaceAll (bs v) ⟨#[10]⟩ ⟨#[10, 32]⟩ m w (by rw [bs_size]; omega) hm (by decide) ?_).mono ?_
  · have := Lib.countB_le ⟨#[10]⟩ (by decide) _ (bs v) (Nat.le_refl _)
    rw [bs_size] at this ⊢
    show _ + _ * 2 ≤ _
    omega
  · rintro e w1 ⟨rfl, h⟩
    refine ⟨?_, h⟩
    have := replace_nl v
    rw [bs_list, Lib.replaceAll, Lib.replace, Lib.replaceNum, if_neg (by decide), if_pos (by simp)]
    show _ = Ending.returned (.string ⟨(nlT v).toArray⟩)
    rw [← this]
theorem join_snoc (xs : List (List UInt8)) (x sep : List UInt8) (h : xs ≠ []) : Lib.join (xs ++ [x]) sep = Lib.join xs sep ++ (sep ++ x) := by
  cases xs with
  | nil => exact absurd rfl h
  | cons a r =>
    rw [List.cons_append, Lib.join_cons, Lib.join_cons]
    simp [Lib.joinTail]
def sepP (k : Nat) (sep : List UInt8) : List UInt8 := if k = 0 then [] else sep
theorem join_take {α : Type} (f : α → List UInt8) (l : List α) (sep : List UInt8) (k : Nat) (h : k < l.length) : Lib.join ((l.take (k + 1)).map f) sep = Lib.join ((l.take k).map f) sep ++ (sepP k sep ++ f l[k]) := by
  rw [List.take_succ_eq_append_getElem h, List.map_append, List.map_cons, List.map_nil]
  by_cases h0 : k = 0
  · subst h0
    simp [sepP, Lib.join_nil, Lib.join_one]
  · rw [join_snoc _ _ _ (by
      intro e
      have := congrArg List.length e
      rw [List.length_map, List.length_take, List.length_nil] at this
      omega), sepP, if_neg h0]
theorem join_pre {α : Type} (f : α → List UInt8) (l : List α) (sep : List UInt8) (k : Nat) (h : k ≤ l.length) : (Lib.join ((l.take k).map f) sep).length ≤ (Lib.join (l.map f) sep).length := by
  have : ∀ n, k + n = l.length → (Lib.join ((l.take k).map f) sep).length ≤ (Lib.join (l.map f) sep).length := by
    intro n
    induction n generalizing k with
    | zero => intro e; rw [show k = l.length by omega, List.take_length]; exact Nat.le_refl _
    | succ n ih =>
      intro e
      have h1 := ih (k + 1) (by omega) (by omega)
      rw [join_take f l sep k (by omega)] at h1
      simp only [List.length_append] at h1
      omega
  exact this (l.length - k) (by omega)
theorem pgT_take (p : List Fd) (j : Nat) (h : j < p.length) : pgT (p.take (j + 1)) = pgT (p.take j) ++ fdT p[j] := by
  rw [List.take_succ_eq_append_getElem h, pgT, List.flatMap_append]; simp [pgT]
theorem pgT_pre (p : List Fd) (j : Nat) : (pgT (p.take j)).length ≤ (pgT p).length := by
  have : pgT p = pgT (p.take j) ++ pgT (p.drop j) := by rw [pgT, pgT, pgT, ← List.flatMap_append, List.take_append_drop]
  rw [this, List.length_append]
  omega
theorem Blk.kf {w w' : World} {F : Nat} {a b : Value} (h : Blk w F 37 #[a, b]) (k : KF w w') : Blk w' F 37 #[a, b] := k F _ _ h (by decide) (by decide)
theorem pcheck_stop (l : List (List Fd)) (h : chkP l ≠ 0) : printP l = ([], chkP l) := by rw [printP, if_neg h]
set_option maxRecDepth 20000 in
set_option maxHeartbeats 8000000 in
theorem pprint_any (l : List (List Fd)) (v : Value) (X : Nat → Prop) (w : World) (hsl0 : Sl 1 Rpara X w v l) (hF : PS l) (hT : (parasT l).length ≤ 1000000000) (hm0 : MaxC w) :
    Calls Tryd.prog 9 #[v] w fun e w' => e = .returned (.tuple #[.string (bs (printP l).1), .int .i64 (printP l).2]) ∧ Below w.heap.size w w' := by
  obtain ⟨A, cap, rfl, hc1, hc2⟩ := hsl0.form
  unfold maxLen at hc2
  have HT := Lib.hid hT
  have HS2 := Lib.hid hF.2
  go_enter Tryd.func9, Tryd.ntmps9
  go_wp2_with fail
  refine (pcheck_any l _ X _ hsl0 hF).mono ?_
  rintro e w1 ⟨rfl, hb1⟩
  by_cases h0 : chkP l = 0
  · have HP : Hid (printP l = (parasT l, 0)) := Lib.hid (by rw [printP, if_pos h0])
    rw [h0]
    have hsl := hsl0.keep good_para (Kept.of_below hb1 X)
    have hm := hm0.below hm0.lt hb1
    have hml := hm.lt
    clear hsl0 hm0 h0 hT hF
    have hB0 := bld_fresh w1 (Nat.le_refl w1.heap.size)
    go_wp2_with fail
    have hbw0 := (Below.refl w1.heap.size w1).alloc (Nat.le_refl _) (.cells #[.pointer none, .slice none 0 0] 46)
    generalize w1.alloc (.cells #[.pointer none, .slice none 0 0] 46) = w2 at hB0 hbw0 ⊢
    go_loopg [17] l.length (fun G s17 wr => ∃ k : Nat, k ≤ l.length ∧ G = l.length - k ∧ s17 = .int .i64 k ∧ Below w1.heap.size w1 wr ∧ Bld w1.heap.size w1.heap.size (Lib.join ((l.take k).map pgT) [10]) wr)
    case atStart => exact ⟨0, Nat.zero_le _, rfl, rfl, hbw0, by simpa [Lib.join_nil] using hB0⟩
    case round =>
      clear hB0 hbw0
      obtain ⟨k, hk, rfl, rfl, hbw, hB⟩ := hrel
      by_cases hlt : k < l.length
      · obtain ⟨b, off, rfl, _, hc⟩ := hsl.para (by omega)
        obtain ⟨vg, ck0, hsg⟩ := hc k hlt
        have ck := (hbw.cell (p := ⟨b, off + k, none⟩) (World.block_lt_of_cell? _ _ ck0)).trans ck0
        obtain ⟨A2, cap2, rfl, hg1, hg2⟩ := hsg.form
        unfold maxLen at hg2
        have HJ := Lib.hid (join_take pgT l [10] k hlt)
        have hjl := join_pre pgT l [10] (k + 1) (by omega)
        rw [HJ.out] at hjl
        have hjt := Nat.le_trans hjl HT.out
        simp only [List.length_append] at hjt
        obtain ⟨hgl, hsb⟩ := HS2.out _ (List.getElem_mem hlt)
        have HSB := Lib.hid hsb
        clear hc hsb ck0 hjl
        generalize l[k] = gr at ck hsg HJ hgl HSB hg1 hjt
        generalize hpre : Lib.join ((l.take k).map pgT) [10] = pre at hB HJ hjt
        clear hpre
        go_upto_if 23 with fail
        go_cut [] (fun wx => Below w1.heap.size w1 wx ∧ Bld w1.heap.size w1.heap.size (pre ++ sepP k [10]) wx)
        case first =>
          by_cases hk0 : k = 0
          · have hd : decide (0 < k) = false := by simp [hk0]
            go_wp2_with fail
            go_meet
            exact ⟨hbw, by rw [sepP, if_pos hk0, List.append_nil]; exact hB⟩
          · have hd : decide (0 < k) = true := by simp; omega
            go_wp2_with fail
            refine (wbyte _ _ pre 10 _ hB (by omega) hbw.size).mono ?_
            rintro e w3 ⟨rfl, hB3, hb3, _⟩
            go_wp2_with fail
            go_meet
            exact ⟨hbw.trans hb3, by rw [sepP, if_neg hk0]; exact hB3⟩
        case rest =>
          clear hbw hB ck
          obtain ⟨hbw, hB⟩ := hcut
          have HJ2 : Hid (Lib.join ((l.take (k + 1)).map pgT) [10] = (pre ++ sepP k [10]) ++ pgT gr) := Lib.hid (by rw [HJ.out, List.append_assoc])
          have hjt2 : (pre ++ sepP k [10]).length + (pgT gr).length ≤ 1000000000 := by rw [List.length_append]; omega
          clear HJ hjt
          generalize pre ++ sepP k [10] = pre2 at hB HJ2 hjt2
          go_wp2_with fail
          go_loopg [27] gr.length (fun G s27 wx => ∃ j : Nat, j ≤ gr.length ∧ G = gr.length - j ∧ s27 = .int .i64 j ∧ Below w1.heap.size w1 wx ∧ Bld w1.heap.size w1.heap.size (pre2 ++ pgT (gr.take j)) wx)
          case atStart => exact ⟨0, Nat.zero_le _, rfl, rfl, hbw, by simpa [pgT] using hB⟩
          case round =>
            clear hbw hB
            obtain ⟨j, hj, rfl, rfl, hbw, hB⟩ := hrel
            by_cases hjl : j < gr.length
            · have hsgx := hsg.keep good_field (Kept.of_below hbw X)
              obtain ⟨b2, off2, rfl, _, hc⟩ := hsgx.field (by omega)
              obtain ⟨c0, c1⟩ := hc j hjl
              have HG := Lib.hid (pgT_take gr j hjl)
              have hgt := pgT_pre gr (j + 1)
              rw [HG.out] at hgt
              obtain ⟨hn1, hn2⟩ := HSB.out _ (List.getElem_mem hjl)
              clear hc
              generalize gr[j] = f at c0 c1 HG hn1 hn2 hgt
              obtain ⟨fn, fv⟩ := f
              simp only at c0 c1 hn1 hn2
              have HFD : Hid (fdT (fn, fv) = fn ++ (58 :: (gapT fv ++ (nlT fv ++ [10])))) := Lib.hid rfl
              rw [HFD.out] at hgt
              simp only [List.length_append, List.length_cons, List.length_nil] at hgt
              generalize hq : pre2 ++ pgT (gr.take j) = q at hB
              have hqt : q.length + fn.length + (gapT fv).length + (nlT fv).length + 2 ≤ 1000000000 := by rw [← hq, List.length_append]; omega
              have HQ : Hid (pre2 ++ pgT (gr.take (j + 1)) = q ++ (fn ++ (58 :: (gapT fv ++ (nlT fv ++ [10]))))) := Lib.hid (by rw [HG.out, HFD.out, ← hq, List.append_assoc])
              clear hq HG HFD hgt
              have bF := Blk.new wr 37 #[.string (bs fn), .string (bs fv)]
              have hbF := hbw.alloc hbw.size (Obj.cells #[Value.string (bs fn), Value.string (bs fv)] 37)
              have hBF := hB.below ((Below.refl _ wr).alloc (Nat.le_refl _) (Obj.cells #[Value.string (bs fn), Value.string (bs fv)] 37))
              go_upto_region 13 with fail
              generalize wr.heap.size = F at bF
              generalize wr.alloc (Obj.cells #[Value.string (bs fn), Value.string (bs fv)] 37) = wF at hbF hBF bF ⊢
              clear hbw hB c0 c1
              have d0 : wF.cell? ⟨F, 0, none⟩ = some (.string (bs fn)) := by rw [bF.cell]; rfl
              go_wp2_with fail
              refine (wstrK _ _ q fn _ hBF (by omega) hbF.size).mono ?_
              rintro e w3 ⟨rfl, hB3, hb3, hk3⟩
              have bF3 := bF.kf hk3
              have hbw3 := hbF.trans hb3
              clear d0 bF hBF hbF hk3 hb3
              go_wp2_with fail
              refine (wbyte _ _ (q ++ fn) 58 _ hB3 (by simp only [List.length_append]; omega) hbw3.size).mono ?_
              rintro e w4 ⟨rfl, hB4, hb4, hk4⟩
              have bF4 := bF3.kf hk4
              have hbw4 := hbw3.trans hb4
              have d1 : w4.cell? ⟨F, 1, none⟩ = some (.string (bs fv)) := by rw [bF4.cell]; rfl
              clear bF3 hB3 hbw3 hk4 hb4
              cases hv : fv with
              | nil =>
                have HGP : Hid (gapT fv = []) := Lib.hid (by rw [hv]; rfl)
                rw [hv] at d1
                have hgl := congrArg List.length HGP.out
                simp only [List.length_nil] at hgl
                rw [show (bs ([] : List UInt8)) = bs fv by rw [hv]] at d1
                have t1 : (bs fv == (⟨#[]⟩ : ByteArray)) = true := by rw [hv]; rfl
                have t2 : (bs fv != (⟨#[]⟩ : ByteArray)) = false := by rw [hv]; rfl
                have t3 : bs fv = (⟨#[]⟩ : ByteArray) := by rw [hv]; rfl
                clear hv
                go_upto_region 17 with fail
                clear t1 t2 t3 d1
                have d3 : w4.cell? ⟨F, 1, none⟩ = some (.string (bs fv)) := by rw [bF4.cell]; rfl
                go_wp2_with fail
                refine (repl_any fv _ (by omega) (hm.below hml hbw4)).mono ?_
                rintro e w6 ⟨rfl, hb6⟩
                have hB6 := hB4.below hb6
                have hbw6 := hbw4.trans (hb6.mono hbw4.size)
                clear hb6
                go_wp2_with fail
                refine (wstrK _ _ (q ++ fn ++ [58]) (nlT fv) _ hB6 (by simp only [List.length_append, List.length_cons, List.length_nil]; omega) hbw6.size).mono ?_
                rintro e w7 ⟨rfl, hB7, hb7, _⟩
                have hbw7 := hbw6.trans hb7
                clear hb7
                go_wp2_with fail
                refine (wbyte _ _ _ 10 _ hB7 (by simp only [List.length_append, List.length_cons, List.length_nil]; omega) hbw7.size).mono ?_
                rintro e w8 ⟨rfl, hB8, hb8, _⟩
                have hbw8 := hbw7.trans hb8
                go_wp2_with fail
                go_roundg (gr.length - (j + 1))
                case measure => omega
                case rel => exact ⟨j + 1, by omega, rfl, by simp, hbw8, by rw [HQ.out, HGP.out]; simpa using hB8⟩
              | cons c t =>
                have HGP : Hid (gapT fv = if c = 10 then [] else [32]) := Lib.hid (by rw [hv]; rfl)
                have n1 : ¬ (bs (c :: t)).toList = [] := by rw [toList_bs]; simp
                have n2 : (bs (c :: t)).toList.isEmpty = false := by rw [toList_bs]; rfl
                rw [hv] at d1
                have hks2 : 0 < (bs (c :: t)).size := by rw [bs_size]; simp
                have hbb : (bs (c :: t))[0]'hks2 = c := rfl
                have HFV := Lib.hid hv
                clear hv
                cases hb : ((c.toNat : Int) != 10) with
                | false =>
                  have HGQ : Hid (gapT fv = []) := Lib.hid (by
                    rw [HGP.out, if_pos]
                    have : (c.toNat : Int) = 10 := by simpa using hb
                    exact UInt8.toNat_inj.1 (by show c.toNat = 10; omega))
                  clear HGP
                  go_upto_region 17 with fail
                  clear d1 n1 n2 hks2 hbb hb HFV
                  have d3 : w4.cell? ⟨F, 1, none⟩ = some (.string (bs fv)) := by rw [bF4.cell]; rfl
                  go_wp2_with fail
                  refine (repl_any fv _ (by omega) (hm.below hml hbw4)).mono ?_
                  rintro e w6 ⟨rfl, hb6⟩
                  have hB6 := hB4.below hb6
                  have hbw6 := hbw4.trans (hb6.mono hbw4.size)
                  clear hb6
                  go_wp2_with fail
                  refine (wstrK _ _ (q ++ fn ++ [58]) (nlT fv) _ hB6 (by simp only [List.length_append, List.length_cons, List.length_nil]; omega) hbw6.size).mono ?_
                  rintro e w7 ⟨rfl, hB7, hb7, _⟩
                  have hbw7 := hbw6.trans hb7
                  clear hb7
                  go_wp2_with fail
                  refine (wbyte _ _ _ 10 _ hB7 (by simp only [List.length_append, List.length_cons, List.length_nil]; omega) hbw7.size).mono ?_
                  rintro e w8 ⟨rfl, hB8, hb8, _⟩
                  have hbw8 := hbw7.trans hb8
                  go_wp2_with fail
                  go_roundg (gr.length - (j + 1))
                  case measure => omega
                  case rel => exact ⟨j + 1, by omega, rfl, by simp, hbw8, by rw [HQ.out, HGQ.out]; simpa using hB8⟩
                | true =>
                  have HGQ : Hid (gapT fv = [32]) := Lib.hid (by
                    rw [HGP.out, if_neg]
                    rintro rfl
                    simp at hb)
                  clear HGP
                  go_upto_region 16 with fail
                  clear d1 n1 n2 hks2 hbb hb HFV
                  have hgl := congrArg List.length HGQ.out
                  simp only [List.length_cons, List.length_nil] at hgl
                  go_wp2_with fail
                  refine (wbyte _ _ (q ++ fn ++ [58]) 32 _ hB4 (by simp only [List.length_append, List.length_cons, List.length_nil]; omega) hbw4.size).mono ?_
                  rintro e w5 ⟨rfl, hB5, hb5, hk5⟩
                  have bF5 := bF4.kf hk5
                  have hbw5 := hbw4.trans hb5
                  clear hb5 hk5 hB4
                  have d3 : w5.cell? ⟨F, 1, none⟩ = some (.string (bs fv)) := by rw [bF5.cell]; rfl
                  go_wp2_with fail
                  refine (repl_any fv _ (by omega) (hm.below hml hbw5)).mono ?_
                  rintro e w6 ⟨rfl, hb6⟩
                  have hB6 := hB5.below hb6
                  have hbw6 := hbw5.trans (hb6.mono hbw5.size)
                  clear hb6
                  go_wp2_with fail
                  refine (wstrK _ _ (q ++ fn ++ [58] ++ [32]) (nlT fv) _ hB6 (by simp only [List.length_append, List.length_cons, List.length_nil]; omega) hbw6.size).mono ?_
                  rintro e w7 ⟨rfl, hB7, hb7, _⟩
                  have hbw7 := hbw6.trans hb7
                  clear hb7
                  go_wp2_with fail
                  refine (wbyte _ _ _ 10 _ hB7 (by simp only [List.length_append, List.length_cons, List.length_nil]; omega) hbw7.size).mono ?_
                  rintro e w8 ⟨rfl, hB8, hb8, _⟩
                  have hbw8 := hbw7.trans hb8
                  go_wp2_with fail
                  go_roundg (gr.length - (j + 1))
                  case measure => omega
                  case rel => exact ⟨j + 1, by omega, rfl, by simp, hbw8, by rw [HQ.out, HGQ.out]; simpa using hB8⟩
            · obtain rfl : j = gr.length := by omega
              rw [List.take_length] at hB
              go_wp2_with fail
              go_roundg (l.length - (k + 1))
              case measure => omega
              case rel => exact ⟨k + 1, by omega, rfl, by simp, hbw, by rw [HJ2.out]; exact hB⟩
      · obtain rfl : k = l.length := by omega
        rw [List.take_length] at hB
        have HP2 : Hid (printP l = (Lib.join (l.map pgT) [10], 0)) := Lib.hid HP.out
        have hb2 := hb1.trans (hbw.mono hb1.size)
        go_wp2_with fail
        refine (bstr _ _ _ _ hB hbw.size).mono ?_
        rintro e w3 ⟨rfl, hb3⟩
        go_wp2_with fail
        go_ret2
        exact ⟨by rw [HP2.out]; rfl, hb2.trans (hb3.mono hb1.size)⟩
  · have HP := Lib.hid (pcheck_stop l h0)
    have hb : (chkP l != 0) = true := by simpa using h0
    generalize chkP l = e at HP hb
    clear h0
    go_wp2_with fail
    go_ret2
    exact ⟨by rw [HP.out]; rfl, hb1⟩
end Go.Proofs.YthcgomainhaemaaDoor

/- Walks of rdep's small functions. Printed by gen_rdb.py. -/
import Derived.Test.YtjdcegogkafmoaaDoorRdA
import Derived.Test.YtjdcegogkafmoaaDoorOrd
import Derived.Test.YtjdcegogkafmoaaDoorShelfV
import Derived.Test.YtjdcegogkafmoaaDoorRow
import Derived.Test.YtjdcegogkafmoaaDoorPlaF
import Derived.Deep.CutBlock
import Derived.WalkMore
import Derived.Deep.WholeRow
import Derived.Deep.DeepCutAuto
import Derived.Deep.LoopGhost
namespace Go.Proofs.YtjdcegogkafmoaaDoor
open Go.RowKit
set_option maxHeartbeats 1000000 in
theorem ltr_any (c : UInt8) (w : World) : Calls Tryd.prog 23 #[.int .u8 (c.toNat : Int)] w fun e w' => e = .returned (.bool (ltR c)) ∧ w = w' := by
  cases h1 : decide (97 ≤ (c.toNat : Int)) <;> cases h2 : decide ((c.toNat : Int) ≤ 122) <;> cases h3 : decide (65 ≤ (c.toNat : Int)) <;> cases h4 : decide ((c.toNat : Int) ≤ 90)
  all_goals
    go_enter Tryd.func23, Tryd.ntmps23
    go_wp2_with fail
    go_ret
    refine ⟨?_, rfl⟩
    simp at h1 h2 h3 h4
    simp [ltR]
    omega
theorem dgr_any (c : UInt8) (w : World) : Calls Tryd.prog 24 #[.int .u8 (c.toNat : Int)] w fun e w' => e = .returned (.bool (dgR c)) ∧ w = w' := by
  cases h1 : decide (48 ≤ (c.toNat : Int)) <;> cases h2 : decide ((c.toNat : Int) ≤ 57)
  all_goals
    go_enter Tryd.func24, Tryd.ntmps24
    go_wp2_with fail
    go_ret
    refine ⟨?_, rfl⟩
    simp at h1 h2
    simp [dgR]
    omega
/-- A text held against another one. -/
theorem eqS (a b : List UInt8) : ((bs a).toList == b) = decide (a = b) := by
  rw [toList_bs, Bool.eq_iff_iff]; simp
theorem eqS2 (a b : List UInt8) : ((bs a).toList == (bs b).toList) = decide (a = b) := by
  rw [toList_bs, toList_bs, Bool.eq_iff_iff]; simp
theorem blk_of3 {w : World} {g : Nat} {t : TypeId} {a b c : Value} (h : Blk w g t #[a, b, c]) (a' b' c' : Value) :
    Blk (((w.setCell ⟨g, 0, none⟩ a').setCell ⟨g, 1, none⟩ b').setCell ⟨g, 2, none⟩ c') g t #[a', b', c'] := by
  have := ((h.set (u := a') 0).set (u := b') 1).set (u := c') 2
  simpa using this
set_option maxRecDepth 20000 in
set_option maxHeartbeats 8000000 in
theorem fault_any (t : List UInt8) (a c : Int) (w : World) : Calls Tryd.prog 16 #[.agg #[.string (bs t), .int .i64 a], .int .i64 c] w fun e w' => e = .returned (.agg #[.string ⟨#[]⟩, .int .i64 a, .int .i64 c]) ∧ Below w.heap.size w w' := by
  go_enter Tryd.func16, Tryd.ntmps16
  go_upto_region 1 with fail
  have b0 := Blk.new w 48 #[.string (bs t), .int .i64 a]
  have q0 : Below w.heap.size w (w.alloc (.cells #[.string (bs t), .int .i64 a] 48)) := (Below.refl _ w).alloc (Nat.le_refl _) _
  have s1 : (w.alloc (.cells #[.string (bs t), .int .i64 a] 48)).heap.size = w.heap.size + 1 := by simp
  have b1 := Blk.new (w.alloc (.cells #[.string (bs t), .int .i64 a] 48)) 30 #[.string ⟨#[]⟩, .int .i64 0, .int .i64 0]
  have q1 : Below (w.alloc (.cells #[.string (bs t), .int .i64 a] 48)).heap.size (w.alloc (.cells #[.string (bs t), .int .i64 a] 48)) ((w.alloc (.cells #[.string (bs t), .int .i64 a] 48)).alloc (.cells #[.string ⟨#[]⟩, .int .i64 0, .int .i64 0] 30)) := (Below.refl _ _).alloc (Nat.le_refl _) _
  have b2 := b0.below q1 b0.lt
  have q2 := q0.trans (q1.mono q0.size)
  have hF : w.heap.size ≤ w.heap.size + 1 := by omega
  rw [s1] at b1
  clear b0 q0 q1 s1
  generalize (w.alloc (.cells #[.string (bs t), .int .i64 a] 48)).alloc (.cells #[.string ⟨#[]⟩, .int .i64 0, .int .i64 0] 30) = W2 at b1 b2 q2 ⊢
  generalize w.heap.size + 1 = gF at b1 hF ⊢
  generalize hg : w.heap.size = g at b2 ⊢
  have z1 := b2.cell 1
  have y0 := b1.cell 0
  have y1 := b1.cell 1
  have y2 := b1.cell 2
  have f0 := b1.frozen 0
  have f1 := b1.frozen 1
  have f2 := b1.frozen 2
  simp at z1 y0 y1 y2
  go_wp2_with fail
  have b3 := blk_of3 b1 (.string ⟨#[]⟩) (.int .i64 a) (.int .i64 c)
  have q3 := ((q2.setCell (p := ⟨gF, 0, none⟩) hF (.string ⟨#[]⟩)).setCell (p := ⟨gF, 1, none⟩) hF (.int .i64 a)).setCell (p := ⟨gF, 2, none⟩) hF (.int .i64 c)
  clear z1 y0 y1 y2 f0 f1 f2 b1 b2 q2
  generalize ((W2.setCell ⟨gF, 0, none⟩ (.string ⟨#[]⟩)).setCell ⟨gF, 1, none⟩ (.int .i64 a)).setCell ⟨gF, 2, none⟩ (.int .i64 c) = W9 at b3 q3 ⊢
  have k0 := b3.cell 0
  have k1 := b3.cell 1
  have k2 := b3.cell 2
  simp at k0 k1 k2
  refine bodyPost_ret (v := .agg #[.string ⟨#[]⟩, .int .i64 a, .int .i64 c]) (by simp [results, Tryd.results16, go_sem, k0, k1, k2]) rfl ?_
  exact ⟨rfl, by first | exact q3 | (rw [← hg]; exact q3)⟩
theorem closes_any (o : List UInt8) (n : Nat) (w : World) : Calls Tryd.prog 35 #[.string (bs o), .int .i64 (n : Int)] w fun e w' => e = .returned (.bool (clR o n)) ∧ w = w' := by
  have HV : Hid (clR o n = if (decide (o = [97, 110, 100]) || decide (o = [111, 114])) = true then decide (2 ≤ n) else if (decide (o = [105, 102]) || decide (o = [117, 110, 108, 101, 115, 115])) = true then (decide (n = 2) || decide (n = 3)) else if (decide (o = [119, 105, 116, 104]) || decide (o = [119, 105, 116, 104, 111, 117, 116])) = true then decide (n = 2) else false) := Lib.hid rfl
  have e1 := eqS o [97, 110, 100]
  have e2 := eqS o [111, 114]
  have e3 := eqS o [105, 102]
  have e4 := eqS o [117, 110, 108, 101, 115, 115]
  have e5 := eqS o [119, 105, 116, 104]
  have e6 := eqS o [119, 105, 116, 104, 111, 117, 116]
  have n1 : decide ((2 : Int) ≤ (n : Int)) = decide (2 ≤ n) := by apply decide_eq_decide.2; omega
  have n2 : ((n : Int) == 2) = decide (n = 2) := by rw [Bool.eq_iff_iff]; simp; omega
  have n3 : ((n : Int) == 3) = decide (n = 3) := by rw [Bool.eq_iff_iff]; simp; omega
  generalize decide (o = [97, 110, 100]) = b1 at *
  generalize decide (o = [111, 114]) = b2 at *
  generalize decide (o = [105, 102]) = b3 at *
  generalize decide (o = [117, 110, 108, 101, 115, 115]) = b4 at *
  generalize decide (o = [119, 105, 116, 104]) = b5 at *
  generalize decide (o = [119, 105, 116, 104, 111, 117, 116]) = b6 at *
  generalize clR o n = R at *
  generalize hc1 : decide (2 ≤ n) = c1 at *
  generalize hc2 : decide (n = 2) = c2 at *
  generalize hc3 : decide (n = 3) = c3 at *
  obtain ⟨N, HN⟩ : ∃ N : Int, Hid ((n : Int) = N) := ⟨_, Lib.hid rfl⟩
  rw [HN.out] at n1 n2 n3 ⊢
  clear hc1 hc2 hc3 HN
  cases b1 with
  | true =>
    go_enter Tryd.func35, Tryd.ntmps35
    go_wp2_with fail
    go_ret
    exact ⟨by rw [HV.out]; rfl, rfl⟩
  | false =>
    cases b2 with
    | true =>
      go_enter Tryd.func35, Tryd.ntmps35
      go_wp2_with fail
      go_ret
      exact ⟨by rw [HV.out]; rfl, rfl⟩
    | false =>
      cases b3 with
      | true =>
        cases c2 with
        | true =>
          go_enter Tryd.func35, Tryd.ntmps35
          go_wp2_with fail
          go_ret
          exact ⟨by rw [HV.out]; rfl, rfl⟩
        | false =>
          go_enter Tryd.func35, Tryd.ntmps35
          go_wp2_with fail
          go_ret
          exact ⟨by rw [HV.out]; rfl, rfl⟩
      | false =>
        cases b4 with
        | true =>
          cases c2 with
          | true =>
            go_enter Tryd.func35, Tryd.ntmps35
            go_wp2_with fail
            go_ret
            exact ⟨by rw [HV.out]; rfl, rfl⟩
          | false =>
            go_enter Tryd.func35, Tryd.ntmps35
            go_wp2_with fail
            go_ret
            exact ⟨by rw [HV.out]; rfl, rfl⟩
        | false =>
          cases b5 with
          | true =>
            go_enter Tryd.func35, Tryd.ntmps35
            go_wp2_with fail
            go_ret
            exact ⟨by rw [HV.out]; rfl, rfl⟩
          | false =>
            cases b6 with
            | true =>
              go_enter Tryd.func35, Tryd.ntmps35
              go_wp2_with fail
              go_ret
              exact ⟨by rw [HV.out]; rfl, rfl⟩
            | false =>
              go_enter Tryd.func35, Tryd.ntmps35
              go_wp2_with fail
              go_ret
              exact ⟨by rw [HV.out]; rfl, rfl⟩
/-- The table of words, and of signs. -/
def WordsT (w : World) : Prop := ∀ i < 6, w.cell? ⟨1, i, none⟩ = some (.string (bs (wordsR.getD i [])))
def SignsT (w : World) : Prop := ∀ i < 6, w.cell? ⟨0, i, none⟩ = some (.string (bs (signsR.getD i [])))
theorem con_step (l : List (List UInt8)) (k : Nat) (h : k < l.length) (s : List UInt8) : (l.drop k).contains s = (decide (l.getD k [] = s) || (l.drop (k + 1)).contains s) := by
  rw [List.drop_eq_getElem_cons h, List.contains_cons, show l.getD k [] = l[k] by simp [List.getD, h]]
  congr 1
  by_cases e : s = l[k]
  · simp [e]
  · have : ¬ l[k] = s := fun h => e h.symm
    simp [e, this]
set_option maxRecDepth 20000 in
set_option maxHeartbeats 8000000 in
theorem known_any (s : List UInt8) (w : World) (hw : WordsT w) : Calls Tryd.prog 34 #[.string (bs s)] w fun e w' => e = .returned (.bool (knR s)) ∧ w = w' := by
  have c0 : w.cell? ⟨1, 0, none⟩ = some (.string (bs [97, 110, 100])) := hw 0 (by omega)
  have c1 : w.cell? ⟨1, 1, none⟩ = some (.string (bs [111, 114])) := hw 1 (by omega)
  have c2 : w.cell? ⟨1, 2, none⟩ = some (.string (bs [105, 102])) := hw 2 (by omega)
  have c3 : w.cell? ⟨1, 3, none⟩ = some (.string (bs [117, 110, 108, 101, 115, 115])) := hw 3 (by omega)
  have c4 : w.cell? ⟨1, 4, none⟩ = some (.string (bs [119, 105, 116, 104])) := hw 4 (by omega)
  have c5 : w.cell? ⟨1, 5, none⟩ = some (.string (bs [119, 105, 116, 104, 111, 117, 116])) := hw 5 (by omega)
  go_enter Tryd.func34, Tryd.ntmps34
  go_wp2_with fail
  go_loopg [6] 6 (fun g s6 wr => ∃ k : Nat, k ≤ 6 ∧ g = 6 - k ∧ s6 = .int .i64 k ∧ w = wr ∧ Hid (knR s = (wordsR.drop k).contains s))
  case atStart => exact ⟨0, Nat.zero_le _, rfl, rfl, rfl, Lib.hid rfl⟩
  case round =>
    obtain ⟨k, hk, rfl, rfl, rfl, HE⟩ := hrel
    by_cases hlt : k < 6
    · have ix : ∀ W : World, (Instr.index 69 (.agg #[.string (bs [97, 110, 100]), .string (bs [111, 114]), .string (bs [105, 102]), .string (bs [117, 110, 108, 101, 115, 115]), .string (bs [119, 105, 116, 104]), .string (bs [119, 105, 116, 104, 111, 117, 116])]) (.int .i64 (k : Int))).run Tryd.prog W = .ok (.string (bs (wordsR.getD k []))) W := by
        intro W
        obtain rfl | rfl | rfl | rfl | rfl | rfl : k = 0 ∨ k = 1 ∨ k = 2 ∨ k = 3 ∨ k = 4 ∨ k = 5 := by omega
        all_goals kernel_rfl
      have HST := Lib.hid (HE.out.trans (con_step wordsR k (by show k < 6; omega) s))
      have he := eqS2 (wordsR.getD k []) s
      generalize wordsR.getD k [] = p at ix HST he
      cases hd : decide (p = s) with
      | true =>
        rw [hd] at he HST
        have HV : Hid (knR s = true) := Lib.hid (by rw [HST.out, Bool.true_or])
        clear hd
        go_wp2_with fail
        go_ret
        exact ⟨by rw [HV.out]; rfl, rfl⟩
      | false =>
        rw [hd] at he HST
        have HV : Hid (knR s = (wordsR.drop (k + 1)).contains s) := Lib.hid (by rw [HST.out, Bool.false_or])
        clear hd
        go_wp2_with fail
        go_roundg (6 - (k + 1))
        case measure => omega
        case rel => exact ⟨k + 1, by omega, rfl, by first | (simp; done) | (simp; omega), rfl, HV⟩
    · have HV : Hid (knR s = false) := Lib.hid (by rw [HE.out, List.drop_eq_nil_of_le (by show 6 ≤ k; omega)]; rfl)
      go_wp2_with fail
      go_ret
      exact ⟨by rw [HV.out]; rfl, rfl⟩
theorem rel_step (l : List (List UInt8)) (k : Nat) (h : k < l.length) (s : List UInt8) : relL (l.drop k) k s = if l.getD k [] = s then k else relL (l.drop (k + 1)) (k + 1) s := by
  rw [List.drop_eq_getElem_cons h, show l.getD k [] = l[k] by simp [List.getD, h], relL]
set_option maxRecDepth 20000 in
set_option maxHeartbeats 8000000 in
theorem relation_any (s : List UInt8) (w : World) (hw : SignsT w) : Calls Tryd.prog 38 #[.string (bs s)] w fun e w' => e = .returned (.int .i64 (relR s : Nat)) ∧ w = w' := by
  have c0 : w.cell? ⟨0, 0, none⟩ = some (.string (bs [])) := hw 0 (by omega)
  have c1 : w.cell? ⟨0, 1, none⟩ = some (.string (bs [60])) := hw 1 (by omega)
  have c2 : w.cell? ⟨0, 2, none⟩ = some (.string (bs [60, 61])) := hw 2 (by omega)
  have c3 : w.cell? ⟨0, 3, none⟩ = some (.string (bs [61])) := hw 3 (by omega)
  have c4 : w.cell? ⟨0, 4, none⟩ = some (.string (bs [62, 61])) := hw 4 (by omega)
  have c5 : w.cell? ⟨0, 5, none⟩ = some (.string (bs [62])) := hw 5 (by omega)
  go_enter Tryd.func38, Tryd.ntmps38
  go_wp2_with fail
  go_loopg [6] 6 (fun g s6 wr => ∃ k : Nat, k ≤ 6 ∧ g = 6 - k ∧ s6 = .int .i64 k ∧ w = wr ∧ Hid (relR s = relL (signsR.drop k) k s))
  case atStart => exact ⟨0, Nat.zero_le _, rfl, rfl, rfl, Lib.hid rfl⟩
  case round =>
    obtain ⟨k, hk, rfl, rfl, rfl, HE⟩ := hrel
    by_cases hlt : k < 6
    · have ix : ∀ W : World, (Instr.index 69 (.agg #[.string (bs []), .string (bs [60]), .string (bs [60, 61]), .string (bs [61]), .string (bs [62, 61]), .string (bs [62])]) (.int .i64 (k : Int))).run Tryd.prog W = .ok (.string (bs (signsR.getD k []))) W := by
        intro W
        obtain rfl | rfl | rfl | rfl | rfl | rfl : k = 0 ∨ k = 1 ∨ k = 2 ∨ k = 3 ∨ k = 4 ∨ k = 5 := by omega
        all_goals kernel_rfl
      have HST := Lib.hid (HE.out.trans (rel_step signsR k (by show k < 6; omega) s))
      have he := eqS2 (signsR.getD k []) s
      generalize signsR.getD k [] = p at ix HST he
      by_cases hd : p = s
      · rw [decide_eq_true hd] at he
        have HV : Hid (relR s = k) := Lib.hid (by rw [HST.out, if_pos hd])
        clear hd
        go_wp2_with fail
        go_ret
        exact ⟨by rw [HV.out]; rfl, rfl⟩
      · rw [decide_eq_false hd] at he
        have HV : Hid (relR s = relL (signsR.drop (k + 1)) (k + 1) s) := Lib.hid (by rw [HST.out, if_neg hd])
        clear hd
        go_wp2_with fail
        go_roundg (6 - (k + 1))
        case measure => omega
        case rel => exact ⟨k + 1, by omega, rfl, by first | (simp; done) | (simp; omega), rfl, HV⟩
    · have HV : Hid (relR s = 0) := Lib.hid (by rw [HE.out, List.drop_eq_nil_of_le (by show 6 ≤ k; omega)]; rfl)
      go_wp2_with fail
      go_ret
      exact ⟨by rw [HV.out]; rfl, rfl⟩
theorem follows_any (o : List UInt8) (n : Nat) (s : List UInt8) (w : World) (hw : WordsT w) : Calls Tryd.prog 37 #[.string (bs o), .int .i64 (n : Int), .string (bs s)] w fun e w' => e = .returned (.bool (foR o n s)) ∧ w = w' := by
  have hk := known_any s w hw
  clear hw
  by_cases h1 : n = 1
  · subst h1
    have HV : Hid (foR o 1 s = knR s) := Lib.hid (by rw [foR, if_pos rfl])
    generalize foR o 1 s = R at *
    go_enter Tryd.func37, Tryd.ntmps37
    go_wp2_with (go_at_call 34; refine hk.mono ?_; rintro r W2 ⟨rfl, rfl⟩)
    go_ret
    exact ⟨by rw [HV.out]; rfl, rfl⟩
  have HV : Hid (foR o n s = if (decide (o = [97, 110, 100]) || decide (o = [111, 114])) = true then decide (s = o) else if (decide (o = [105, 102]) || decide (o = [117, 110, 108, 101, 115, 115])) = true then (decide (n = 2) && decide (s = [101, 108, 115, 101])) else false) := Lib.hid (by rw [foR, if_neg h1]; rfl)
  have e1 := eqS o [97, 110, 100]
  have e2 := eqS o [111, 114]
  have e3 := eqS o [105, 102]
  have e4 := eqS o [117, 110, 108, 101, 115, 115]
  have e7 := eqS2 s o
  have e8 := eqS s [101, 108, 115, 101]
  have n1 : ((n : Int) == 1) = false := by simpa using (show ¬ (n : Int) = 1 by omega)
  have n2 : ((n : Int) == 2) = decide (n = 2) := by rw [Bool.eq_iff_iff]; simp; omega
  generalize decide (o = [97, 110, 100]) = b1 at *
  generalize decide (o = [111, 114]) = b2 at *
  generalize decide (o = [105, 102]) = b3 at *
  generalize decide (o = [117, 110, 108, 101, 115, 115]) = b4 at *
  generalize decide (s = o) = b7 at *
  generalize decide (s = [101, 108, 115, 101]) = b8 at *
  generalize foR o n s = R at *
  generalize hc2 : decide (n = 2) = c2 at *
  obtain ⟨N, HN⟩ : ∃ N : Int, Hid ((n : Int) = N) := ⟨_, Lib.hid rfl⟩
  rw [HN.out] at n1 n2 ⊢
  clear hc2 HN hk h1
  cases b1 with
  | true =>
    go_enter Tryd.func37, Tryd.ntmps37
    go_wp2_with fail
    go_ret
    exact ⟨by rw [HV.out]; rfl, rfl⟩
  | false =>
    cases b2 with
    | true =>
      go_enter Tryd.func37, Tryd.ntmps37
      go_wp2_with fail
      go_ret
      exact ⟨by rw [HV.out]; rfl, rfl⟩
    | false =>
      cases b3 with
      | true =>
        cases c2 with
        | true =>
          go_enter Tryd.func37, Tryd.ntmps37
          go_wp2_with fail
          go_ret
          exact ⟨by rw [HV.out]; rfl, rfl⟩
        | false =>
          go_enter Tryd.func37, Tryd.ntmps37
          go_wp2_with fail
          go_ret
          exact ⟨by rw [HV.out]; rfl, rfl⟩
      | false =>
        cases b4 with
        | true =>
          cases c2 with
          | true =>
            go_enter Tryd.func37, Tryd.ntmps37
            go_wp2_with fail
            go_ret
            exact ⟨by rw [HV.out]; rfl, rfl⟩
          | false =>
            go_enter Tryd.func37, Tryd.ntmps37
            go_wp2_with fail
            go_ret
            exact ⟨by rw [HV.out]; rfl, rfl⟩
        | false =>
          go_enter Tryd.func37, Tryd.ntmps37
          go_wp2_with fail
          go_ret
          exact ⟨by rw [HV.out]; rfl, rfl⟩
end Go.Proofs.YtjdcegogkafmoaaDoor

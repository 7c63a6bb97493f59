/- The walks of both Paths, and of the paths that stand above. -/
import Derived.Test.YtjhikglgaoncjaaDoorEnD
import Derived.Test.YtjhikglgaoncjaaDoorShelfV
namespace Go.Proofs.YtjhikglgaoncjaaDoor
open Go.RowKit
theorem idx_has (l : List UInt8) (c : UInt8) : decide (0 ≤ Lib.indexByte l c) = l.contains c := by
  induction l with
  | nil => simp [Lib.indexByte]
  | cons d t ih =>
    unfold Lib.indexByte
    rw [List.contains_cons]
    by_cases h : d = c
    · subst h; simp
    · have h1 : (d == c) = false := by simpa using h
      have h2 : (c == d) = false := by simpa using fun e => h e.symm
      rw [h1, h2, Bool.false_or, ← ih]
      have hge := Lib.indexByte_ge t c
      by_cases hm : Lib.indexByte t c = -1
      · simp [hm]
      · have hm' : (Lib.indexByte t c == -1) = false := by simpa using hm
        simp only [hm', Bool.false_eq_true, if_false]
        congr 1
        rw [eq_iff_iff]
        omega
theorem contains0 (s : List UInt8) (c : UInt8) (w : World) : Calls Tryd.prog 40 #[.string (bs s), .string ⟨#[c]⟩] w fun e w' => e = .returned (.bool (s.contains c)) ∧ w' = w := by
  have := Tryd.strings_Contains_one (bs s) c w
  rwa [bs_list, idx_has] at this
/-- The parts of a path, one by one. -/
theorem all_step {α : Type} (p : α → Bool) (l : List α) (k : Nat) (h : k < l.length) : (l.drop k).all p = (p l[k] && (l.drop (k + 1)).all p) := by
  rw [List.drop_eq_getElem_cons h, List.all_cons]
theorem part_facts (p : List UInt8) : (bs p).toList.isEmpty = decide (p = []) ∧ ((bs p).toList == []) = decide (p = []) ∧ ((bs p).toList == [46]) = decide (p = [46]) ∧ ((bs p).toList == [46, 46]) = decide (p = [46, 46]) := by
  rw [toList_bs]
  refine ⟨?_, ?_, ?_, ?_⟩ <;> rw [Bool.eq_iff_iff] <;> simp
theorem partsB_len (b : UInt8) : ∀ (l a : List UInt8) (n : Nat), a.length + l.length ≤ n → (splitP b l a).length ≤ l.length + 1 ∧ ∀ x ∈ splitP b l a, x.length ≤ n
  | [], a, n, h => by simp [splitP]; simpa using h
  | c :: t, a, n, h => by
    simp at h
    rw [splitP]
    split
    · obtain ⟨h1, h2⟩ := partsB_len b t [] n (by simp; omega)
      refine ⟨by simp; omega, fun x hx => ?_⟩
      rcases List.mem_cons.1 hx with rfl | hx
      · omega
      · exact h2 x hx
    · obtain ⟨h1, h2⟩ := partsB_len b t (a ++ [c]) n (by simp; omega)
      exact ⟨by simp; omega, h2⟩
set_option maxRecDepth 20000 in
set_option maxHeartbeats 8000000 in
theorem ppath_any (s : List UInt8) (w : World) (hs : s.length ≤ 1000000000) :
    Calls Tryd.prog 21 #[.string (bs s)] w fun e w' => e = .returned (.bool (pathOk s)) ∧ Below w.heap.size w w' := by
  have HX : Hid (pathOk s = (!decide (s.length < 1) && (!decide (200 < s.length) && (!s.contains 0 && (partsB 47 s).all partOk)))) := Lib.hid rfl
  generalize pathOk s = res at HX
  have hz : ((bs s).size : Int) = (s.length : Int) := by rw [bs_size]
  go_enter Tryd.func21, Tryd.ntmps21
  by_cases h1 : s.length < 1
  · have d1 : decide ((s.length : Int) < 1) = true := by simp; omega
    have HV := Lib.hid (show res = false by rw [HX.out, decide_eq_true h1]; rfl)
    clear h1
    go_wp2_with fail
    go_ret
    exact ⟨by rw [HV.out]; rfl, Below.refl _ _⟩
  · have d1 : decide ((s.length : Int) < 1) = false := by simp; omega
    by_cases h2 : 200 < s.length
    · have d2 : decide ((200 : Int) < (s.length : Int)) = true := by simp; omega
      have HV := Lib.hid (show res = false by rw [HX.out, decide_eq_true h2]; simp)
      clear h1 h2
      go_wp2_with fail
      go_ret
      exact ⟨by rw [HV.out]; rfl, Below.refl _ _⟩
    · have d2 : decide ((200 : Int) < (s.length : Int)) = false := by simp; omega
      have HX2 := Lib.hid (show res = (!s.contains 0 && (partsB 47 s).all partOk) by rw [HX.out, decide_eq_false h1, decide_eq_false h2]; rfl)
      have h3 : s.length ≤ 200 := by omega
      clear HX h1 h2
      go_wp2_with fail
      refine (contains0 s 0 _).mono ?_
      rintro e w1 ⟨rfl, rfl⟩
      cases h0 : s.contains 0 with
      | true =>
        have HV := Lib.hid (show res = false by rw [HX2.out, h0]; rfl)
        clear h0 HX2
        go_wp2_with fail
        go_ret
        exact ⟨by rw [HV.out]; rfl, Below.refl _ _⟩
      | false =>
        have HE := Lib.hid (show res = ((partsB 47 s).drop 0).all partOk by rw [HX2.out, h0]; rfl)
        clear h0 HX2
        obtain ⟨hL1, _⟩ := partsB_len 47 s [] s.length (by simp)
        rw [show splitP 47 s [] = partsB 47 s from rfl] at hL1
        go_wp2_with fail
        refine (split1 s 47 _ (by omega)).mono ?_
        rintro e w2 ⟨rfl, rfl⟩
        generalize partsB 47 s = L at HE hL1 ⊢
        have B2 := Blk.new w1 9 (L.map fun x => Value.string (bs x)).toArray
        have hb2 : Below w1.heap.size w1 (w1.alloc (.cells (L.map fun x => Value.string (bs x)).toArray 9)) := (Below.refl _ _).alloc (Nat.le_refl _) _
        generalize w1.alloc (.cells (L.map fun x => Value.string (bs x)).toArray 9) = w2 at B2 hb2 ⊢
        generalize hg : w1.heap.size = g at B2 ⊢
        go_wp2_with fail
        go_loopg [20] L.length (fun G s20 wr => ∃ k : Nat, k ≤ L.length ∧ G = L.length - k ∧ s20 = .int .i64 k ∧ w2 = wr ∧ Hid (res = (L.drop k).all partOk))
        case atStart => exact ⟨0, Nat.zero_le _, rfl, rfl, rfl, HE⟩
        case round =>
          clear HE
          obtain ⟨k, hk, rfl, rfl, rfl, HE⟩ := hrel
          by_cases hlt : k < L.length
          · have ck : w2.cell? ⟨g, k, none⟩ = some (.string (bs L[k])) := by
              have := B2.cell k
              rw [this]
              simp [hlt]
            have HST := Lib.hid (HE.out.trans (all_step partOk L k hlt))
            clear HE
            generalize L[k] = p at ck HST
            obtain ⟨f1, f2, f3, f4⟩ := part_facts p
            have i1 : (0 : Int) ≤ (k : Int) := by omega
            have i2 : (k : Int) < (L.length : Int) := by omega
            by_cases p1 : p = []
            · have HV := Lib.hid (show res = false by rw [HST.out, p1]; rfl)
              rw [decide_eq_true p1] at f1 f2
              clear HST p1
              go_wp2_with fail
              go_ret
              exact ⟨by rw [HV.out]; rfl, by first | exact hb2 | (rw [← hg]; exact hb2)⟩
            · rw [decide_eq_false p1] at f1 f2
              by_cases p2 : p = [46]
              · have HV := Lib.hid (show res = false by rw [HST.out, p2]; rfl)
                rw [decide_eq_true p2] at f3
                clear HST p1 p2
                go_wp2_with fail
                go_ret
                exact ⟨by rw [HV.out]; rfl, by first | exact hb2 | (rw [← hg]; exact hb2)⟩
              · rw [decide_eq_false p2] at f3
                by_cases p3 : p = [46, 46]
                · have HV := Lib.hid (show res = false by rw [HST.out, p3]; rfl)
                  rw [decide_eq_true p3] at f4
                  clear HST p1 p2 p3
                  go_wp2_with fail
                  go_ret
                  exact ⟨by rw [HV.out]; rfl, by first | exact hb2 | (rw [← hg]; exact hb2)⟩
                · rw [decide_eq_false p3] at f4
                  have HV := Lib.hid (show res = (L.drop (k + 1)).all partOk by rw [HST.out, partOk, decide_eq_false p1, decide_eq_false p2, decide_eq_false p3]; rfl)
                  clear HST p1 p2 p3
                  go_wp2_with fail
                  go_roundg (L.length - (k + 1))
                  case measure => omega
                  case rel => exact ⟨k + 1, by omega, rfl, by simp, rfl, HV⟩
          · have HV := Lib.hid (show res = true by rw [HE.out, List.drop_eq_nil_of_le (by omega)]; rfl)
            have hke : k = L.length := by omega
            subst hke
            clear HE
            go_wp2_with fail
            go_ret
            exact ⟨by rw [HV.out]; rfl, by first | exact hb2 | (rw [← hg]; exact hb2)⟩
theorem has_lit (s : List UInt8) (c : UInt8) (n : Int) (hn : (c.toNat : Int) = n) (w : World) (hs : s.length ≤ 1000000000) :
    Calls Tryd.prog 31 #[.string (bs s), .int .u8 n] w fun e w' => e = .returned (.bool (s.contains c)) ∧ w = w' := by
  subst hn; exact has_any s c w hs
set_option maxRecDepth 20000 in
set_option maxHeartbeats 8000000 in
theorem rpath_any (s : List UInt8) (w : World) (hs : s.length ≤ 1000000000) :
    Calls Tryd.prog 22 #[.string (bs s)] w fun e w' => e = .returned (.bool (pathOk s)) ∧ Below w.heap.size w w' := by
  have HX : Hid (pathOk s = (!decide (s.length < 1) && (!decide (200 < s.length) && (!s.contains 0 && (partsB 47 s).all partOk)))) := Lib.hid rfl
  generalize pathOk s = res at HX
  have hz : ((bs s).size : Int) = (s.length : Int) := by rw [bs_size]
  go_enter Tryd.func22, Tryd.ntmps22
  by_cases h1 : s.length < 1
  · have d1 : decide ((s.length : Int) < 1) = true := by simp; omega
    have HV := Lib.hid (show res = false by rw [HX.out, decide_eq_true h1]; rfl)
    clear h1
    go_wp2_with fail
    go_ret
    exact ⟨by rw [HV.out]; rfl, Below.refl _ _⟩
  · have d1 : decide ((s.length : Int) < 1) = false := by simp; omega
    by_cases h2 : 200 < s.length
    · have d2 : decide ((200 : Int) < (s.length : Int)) = true := by simp; omega
      have HV := Lib.hid (show res = false by rw [HX.out, decide_eq_true h2]; simp)
      clear h1 h2
      go_wp2_with fail
      go_ret
      exact ⟨by rw [HV.out]; rfl, Below.refl _ _⟩
    · have d2 : decide ((200 : Int) < (s.length : Int)) = false := by simp; omega
      have HX2 := Lib.hid (show res = (!s.contains 0 && (partsB 47 s).all partOk) by rw [HX.out, decide_eq_false h1, decide_eq_false h2]; rfl)
      have h3 : s.length ≤ 200 := by omega
      clear HX h1 h2
      go_wp2_with fail
      refine (has_lit s 0 0 rfl _ hs).mono ?_
      rintro e w1 ⟨rfl, rfl⟩
      cases h0 : s.contains 0 with
      | true =>
        have HV := Lib.hid (show res = false by rw [HX2.out, h0]; rfl)
        clear h0 HX2
        go_wp2_with fail
        go_ret
        exact ⟨by rw [HV.out]; rfl, Below.refl _ _⟩
      | false =>
        have HE := Lib.hid (show res = ((partsB 47 s).drop 0).all partOk by rw [HX2.out, h0]; rfl)
        clear h0 HX2
        go_wp2_with fail
        refine (parts_any s _ hs).mono ?_
        rintro e w2 ⟨⟨v, rfl, hsl⟩, hb2⟩
        generalize partsB 47 s = L at HE hsl
        obtain ⟨A, cap, rfl, hc1, hc2⟩ := hsl.form
        unfold maxLen at hc2
        go_wp2_with fail
        go_loopg [4] L.length (fun G s4 wr => ∃ k : Nat, k ≤ L.length ∧ G = L.length - k ∧ s4 = .int .i64 k ∧ w2 = wr ∧ Hid (res = (L.drop k).all partOk))
        case atStart => exact ⟨0, Nat.zero_le _, rfl, rfl, rfl, HE⟩
        case round =>
          clear HE
          obtain ⟨k, hk, rfl, rfl, rfl, HE⟩ := hrel
          by_cases hlt : k < L.length
          · obtain ⟨_, _, _, b, off, rfl, hc⟩ := hsl.text (by omega)
            have ck := hc k hlt
            have HST := Lib.hid (HE.out.trans (all_step partOk L k hlt))
            clear HE hc
            generalize L[k] = p at ck HST
            obtain ⟨f1, f2, f3, f4⟩ := part_facts p
            have i1 : (0 : Int) ≤ (k : Int) := by omega
            have i2 : (k : Int) < (L.length : Int) := by omega
            by_cases p1 : p = []
            · have HV := Lib.hid (show res = false by rw [HST.out, p1]; rfl)
              rw [decide_eq_true p1] at f1 f2
              clear HST p1
              go_wp2_with fail
              go_ret
              exact ⟨by rw [HV.out]; rfl, hb2⟩
            · rw [decide_eq_false p1] at f1 f2
              by_cases p2 : p = [46]
              · have HV := Lib.hid (show res = false by rw [HST.out, p2]; rfl)
                rw [decide_eq_true p2] at f3
                clear HST p1 p2
                go_wp2_with fail
                go_ret
                exact ⟨by rw [HV.out]; rfl, hb2⟩
              · rw [decide_eq_false p2] at f3
                by_cases p3 : p = [46, 46]
                · have HV := Lib.hid (show res = false by rw [HST.out, p3]; rfl)
                  rw [decide_eq_true p3] at f4
                  clear HST p1 p2 p3
                  go_wp2_with fail
                  go_ret
                  exact ⟨by rw [HV.out]; rfl, hb2⟩
                · rw [decide_eq_false p3] at f4
                  have HV := Lib.hid (show res = (L.drop (k + 1)).all partOk by rw [HST.out, partOk, decide_eq_false p1, decide_eq_false p2, decide_eq_false p3]; rfl)
                  clear HST p1 p2 p3
                  go_wp2_with fail
                  go_roundg (L.length - (k + 1))
                  case measure => omega
                  case rel => exact ⟨k + 1, by omega, rfl, by simp, rfl, HV⟩
          · have HV := Lib.hid (show res = true by rw [HE.out, List.drop_eq_nil_of_le (by omega)]; rfl)
            have hke : k = L.length := by omega
            subst hke
            clear HE
            go_wp2_with fail
            go_ret
            exact ⟨by rw [HV.out]; rfl, hb2⟩
end Go.Proofs.YtjhikglgaoncjaaDoor

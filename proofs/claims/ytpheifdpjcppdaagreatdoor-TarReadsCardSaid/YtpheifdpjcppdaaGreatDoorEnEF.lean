/- The walks of both Paths, and of the paths that stand above. The walks of entry.parents, owner, target and of the document's owner, above, alike. -/
import Derived.Test.YtpheifdpjcppdaaGreatDoorEnBD
import Derived.Test.YtpheifdpjcppdaaGreatDoorShelfV
import Derived.Test.YtpheifdpjcppdaaGreatDoorAny
namespace Go.Proofs.YtpheifdpjcppdaaGreatDoor
open Go.RowKit
theorem idx_has (l : List UInt8) (c : UInt8) : decide (0 ≤ Lib.indexByte l c) = l.contains c := by
  induction l with
  | nil => simp [Lib.indexByte]
  | cons d t ih =>
    unfold Lib.indexByte
    rw [List.contains_cons]
    by_cases h : d = c
    · subst h; simp
    · have h1 : (d == c) = false := by simpa using h
      have h2 : (c == d) = false := by simpa using fun e => h e.symm
      rw [h1, h2, Bool.false_or, ← ih]
      have hge := Lib.indexByte_ge t c
      by_cases hm : Lib.indexByte t c = -1
      · simp [hm]
      · have hm' : (Lib.indexByte t c == -1) = false := by simpa using hm
        simp only [hm', Bool.false_eq_true, if_false]
        congr 1
        rw [eq_iff_iff]
        omega
theorem contains0 (s : List UInt8) (c : UInt8) (w : World) : Calls Tryz.prog 104 #[.string (bs s), .string ⟨#[c]⟩] w fun e w' => e = .returned (.bool (s.contains c)) ∧ w' = w := by
  have := Tryz.strings_Contains_one (bs s) c w
  rwa [bs_list, idx_has] at this
/-- The parts of a path, one by one. -/
theorem all_step {α : Type} (p : α → Bool) (l : List α) (k : Nat) (h : k < l.length) : (l.drop k).all p = (p l[k] && (l.drop (k + 1)).all p) := by
  rw [List.drop_eq_getElem_cons h, List.all_cons]
theorem part_facts (p : List UInt8) : (bs p).toList.isEmpty = decide (p = []) ∧ ((bs p).toList == []) = decide (p = []) ∧ ((bs p).toList == [46]) = decide (p = [46]) ∧ ((bs p).toList == [46, 46]) = decide (p = [46, 46]) := by
  rw [toList_bs]
  refine ⟨?_, ?_, ?_, ?_⟩ <;> rw [Bool.eq_iff_iff] <;> simp
theorem partsB_len (b : UInt8) : ∀ (l a : List UInt8) (n : Nat), a.length + l.length ≤ n → (splitP b l a).length ≤ l.length + 1 ∧ ∀ x ∈ splitP b l a, x.length ≤ n
  | [], a, n, h => by simp [splitP]; simpa using h
  | c :: t, a, n, h => by
    simp at h
    rw [splitP]
    split
    · obtain ⟨h1, h2⟩ := partsB_len b t [] n (by simp; omega)
      refine ⟨by simp; omega, fun x hx => ?_⟩
      rcases List.mem_cons.1 hx with rfl | hx
      · omega
      · exact h2 x hx
    · obtain ⟨h1, h2⟩ := partsB_len b t (a ++ [c]) n (by simp; omega)
      exact ⟨by simp; omega, h2⟩
set_option maxRecDepth 20000 in
set_option maxHeartbeats 8000000 in
theorem ppath_any (s : List UInt8) (w : World) (hs : s.length ≤ 1000000000) :
    Calls Tryz.prog 84 #[.string (bs s)] w fun e w' => e = .returned (.bool (pathOk s)) ∧ Below w.heap.size w w' := by
  have HX : Hid (pathOk s = (!decide (s.length < 1) && (!decide (200 < s.length) && (!s.contains 0 && (partsB 47 s).all partOk)))) := Lib.hid rfl
  generalize pathOk s = res at HX
  have hz : ((bs s).size : Int) = (s.length : Int) := by rw [bs_size]
  go_enter Tryz.func84, Tryz.ntmps84
  by_cases h1 : s.length < 1
  · have d1 : decide ((s.length : Int) < 1) = true := by simp; omega
    have HV := Lib.hid (show res = false by rw [HX.out, decide_eq_true h1]; rfl)
    clear h1
    go_wp2_with fail
    go_ret
    exact ⟨by rw [HV.out]; rfl, Below.refl _ _⟩
  · have d1 : decide ((s.length : Int) < 1) = false := by simp; omega
    by_cases h2 : 200 < s.length
    · have d2 : decide ((200 : Int) < (s.length : Int)) = true := by simp; omega
      have HV := Lib.hid (show res = false by rw [HX.out, decide_eq_true h2]; simp)
      clear h1 h2
      go_wp2_with fail
      go_ret
      exact ⟨by rw [HV.out]; rfl, Below.refl _ _⟩
    · have d2 : decide ((200 : Int) < (s.length : Int)) = false := by simp; omega
      have HX2 := Lib.hid (show res = (!s.contains 0 && (partsB 47 s).all partOk) by rw [HX.out, decide_eq_false h1, decide_eq_false h2]; rfl)
      have h3 : s.length ≤ 200 := by omega
      clear HX h1 h2
      go_wp2_with fail
      refine (contains0 s 0 _).mono ?_
      rintro e w1 ⟨rfl, rfl⟩
      cases h0 : s.contains 0 with
      | true =>
        have HV := Lib.hid (show res = false by rw [HX2.out, h0]; rfl)
        clear h0 HX2
        go_wp2_with fail
        go_ret
        exact ⟨by rw [HV.out]; rfl, Below.refl _ _⟩
      | false =>
        have HE := Lib.hid (show res = ((partsB 47 s).drop 0).all partOk by rw [HX2.out, h0]; rfl)
        clear h0 HX2
        obtain ⟨hL1, _⟩ := partsB_len 47 s [] s.length (by simp)
        rw [show splitP 47 s [] = partsB 47 s from rfl] at hL1
        go_wp2_with fail
        refine (split1 s 47 _ (by omega)).mono ?_
        rintro e w2 ⟨rfl, rfl⟩
        generalize partsB 47 s = L at HE hL1 ⊢
        have B2 := Blk.new w1 9 (L.map fun x => Value.string (bs x)).toArray
        have hb2 : Below w1.heap.size w1 (w1.alloc (.cells (L.map fun x => Value.string (bs x)).toArray 9)) := (Below.refl _ _).alloc (Nat.le_refl _) _
        generalize w1.alloc (.cells (L.map fun x => Value.string (bs x)).toArray 9) = w2 at B2 hb2 ⊢
        generalize hg : w1.heap.size = g at B2 ⊢
        go_wp2_with fail
        go_loopg [20] L.length (fun G s20 wr => ∃ k : Nat, k ≤ L.length ∧ G = L.length - k ∧ s20 = .int .i64 k ∧ w2 = wr ∧ Hid (res = (L.drop k).all partOk))
        case atStart => exact ⟨0, Nat.zero_le _, rfl, rfl, rfl, HE⟩
        case round =>
          clear HE
          obtain ⟨k, hk, rfl, rfl, rfl, HE⟩ := hrel
          by_cases hlt : k < L.length
          · have ck : w2.cell? ⟨g, k, none⟩ = some (.string (bs L[k])) := by
              have := B2.cell k
              rw [this]
              simp [hlt]
            have HST := Lib.hid (HE.out.trans (all_step partOk L k hlt))
            clear HE
            generalize L[k] = p at ck HST
            obtain ⟨f1, f2, f3, f4⟩ := part_facts p
            have i1 : (0 : Int) ≤ (k : Int) := by omega
            have i2 : (k : Int) < (L.length : Int) := by omega
            by_cases p1 : p = []
            · have HV := Lib.hid (show res = false by rw [HST.out, p1]; rfl)
              rw [decide_eq_true p1] at f1 f2
              clear HST p1
              go_wp2_with fail
              go_ret
              exact ⟨by rw [HV.out]; rfl, by first | exact hb2 | (rw [← hg]; exact hb2)⟩
            · rw [decide_eq_false p1] at f1 f2
              by_cases p2 : p = [46]
              · have HV := Lib.hid (show res = false by rw [HST.out, p2]; rfl)
                rw [decide_eq_true p2] at f3
                clear HST p1 p2
                go_wp2_with fail
                go_ret
                exact ⟨by rw [HV.out]; rfl, by first | exact hb2 | (rw [← hg]; exact hb2)⟩
              · rw [decide_eq_false p2] at f3
                by_cases p3 : p = [46, 46]
                · have HV := Lib.hid (show res = false by rw [HST.out, p3]; rfl)
                  rw [decide_eq_true p3] at f4
                  clear HST p1 p2 p3
                  go_wp2_with fail
                  go_ret
                  exact ⟨by rw [HV.out]; rfl, by first | exact hb2 | (rw [← hg]; exact hb2)⟩
                · rw [decide_eq_false p3] at f4
                  have HV := Lib.hid (show res = (L.drop (k + 1)).all partOk by rw [HST.out, partOk, decide_eq_false p1, decide_eq_false p2, decide_eq_false p3]; rfl)
                  clear HST p1 p2 p3
                  go_wp2_with fail
                  go_roundg (L.length - (k + 1))
                  case measure => omega
                  case rel => exact ⟨k + 1, by omega, rfl, by simp, rfl, HV⟩
          · have HV := Lib.hid (show res = true by rw [HE.out, List.drop_eq_nil_of_le (by omega)]; rfl)
            have hke : k = L.length := by omega
            subst hke
            clear HE
            go_wp2_with fail
            go_ret
            exact ⟨by rw [HV.out]; rfl, by first | exact hb2 | (rw [← hg]; exact hb2)⟩
theorem has_lit (s : List UInt8) (c : UInt8) (n : Int) (hn : (c.toNat : Int) = n) (w : World) (hs : s.length ≤ 1000000000) :
    Calls Tryz.prog 83 #[.string (bs s), .int .u8 n] w fun e w' => e = .returned (.bool (s.contains c)) ∧ w = w' := by
  subst hn; exact has_any s c w hs
set_option maxRecDepth 20000 in
set_option maxHeartbeats 8000000 in
theorem rpath_any (s : List UInt8) (w : World) (hs : s.length ≤ 1000000000) :
    Calls Tryz.prog 81 #[.string (bs s)] w fun e w' => e = .returned (.bool (pathOk s)) ∧ Below w.heap.size w w' := by
  have HX : Hid (pathOk s = (!decide (s.length < 1) && (!decide (200 < s.length) && (!s.contains 0 && (partsB 47 s).all partOk)))) := Lib.hid rfl
  generalize pathOk s = res at HX
  have hz : ((bs s).size : Int) = (s.length : Int) := by rw [bs_size]
  go_enter Tryz.func81, Tryz.ntmps81
  by_cases h1 : s.length < 1
  · have d1 : decide ((s.length : Int) < 1) = true := by simp; omega
    have HV := Lib.hid (show res = false by rw [HX.out, decide_eq_true h1]; rfl)
    clear h1
    go_wp2_with fail
    go_ret
    exact ⟨by rw [HV.out]; rfl, Below.refl _ _⟩
  · have d1 : decide ((s.length : Int) < 1) = false := by simp; omega
    by_cases h2 : 200 < s.length
    · have d2 : decide ((200 : Int) < (s.length : Int)) = true := by simp; omega
      have HV := Lib.hid (show res = false by rw [HX.out, decide_eq_true h2]; simp)
      clear h1 h2
      go_wp2_with fail
      go_ret
      exact ⟨by rw [HV.out]; rfl, Below.refl _ _⟩
    · have d2 : decide ((200 : Int) < (s.length : Int)) = false := by simp; omega
      have HX2 := Lib.hid (show res = (!s.contains 0 && (partsB 47 s).all partOk) by rw [HX.out, decide_eq_false h1, decide_eq_false h2]; rfl)
      have h3 : s.length ≤ 200 := by omega
      clear HX h1 h2
      go_wp2_with fail
      refine (has_lit s 0 0 rfl _ hs).mono ?_
      rintro e w1 ⟨rfl, rfl⟩
      cases h0 : s.contains 0 with
      | true =>
        have HV := Lib.hid (show res = false by rw [HX2.out, h0]; rfl)
        clear h0 HX2
        go_wp2_with fail
        go_ret
        exact ⟨by rw [HV.out]; rfl, Below.refl _ _⟩
      | false =>
        have HE := Lib.hid (show res = ((partsB 47 s).drop 0).all partOk by rw [HX2.out, h0]; rfl)
        clear h0 HX2
        go_wp2_with fail
        refine (parts_any s _ hs).mono ?_
        rintro e w2 ⟨⟨v, rfl, hsl⟩, hb2⟩
        generalize partsB 47 s = L at HE hsl
        obtain ⟨A, cap, rfl, hc1, hc2⟩ := hsl.form
        unfold maxLen at hc2
        go_wp2_with fail
        go_loopg [4] L.length (fun G s4 wr => ∃ k : Nat, k ≤ L.length ∧ G = L.length - k ∧ s4 = .int .i64 k ∧ w2 = wr ∧ Hid (res = (L.drop k).all partOk))
        case atStart => exact ⟨0, Nat.zero_le _, rfl, rfl, rfl, HE⟩
        case round =>
          clear HE
          obtain ⟨k, hk, rfl, rfl, rfl, HE⟩ := hrel
          by_cases hlt : k < L.length
          · obtain ⟨_, _, _, b, off, rfl, hc⟩ := hsl.text (by omega)
            have ck := hc k hlt
            have HST := Lib.hid (HE.out.trans (all_step partOk L k hlt))
            clear HE hc
            generalize L[k] = p at ck HST
            obtain ⟨f1, f2, f3, f4⟩ := part_facts p
            have i1 : (0 : Int) ≤ (k : Int) := by omega
            have i2 : (k : Int) < (L.length : Int) := by omega
            by_cases p1 : p = []
            · have HV := Lib.hid (show res = false by rw [HST.out, p1]; rfl)
              rw [decide_eq_true p1] at f1 f2
              clear HST p1
              go_wp2_with fail
              go_ret
              exact ⟨by rw [HV.out]; rfl, hb2⟩
            · rw [decide_eq_false p1] at f1 f2
              by_cases p2 : p = [46]
              · have HV := Lib.hid (show res = false by rw [HST.out, p2]; rfl)
                rw [decide_eq_true p2] at f3
                clear HST p1 p2
                go_wp2_with fail
                go_ret
                exact ⟨by rw [HV.out]; rfl, hb2⟩
              · rw [decide_eq_false p2] at f3
                by_cases p3 : p = [46, 46]
                · have HV := Lib.hid (show res = false by rw [HST.out, p3]; rfl)
                  rw [decide_eq_true p3] at f4
                  clear HST p1 p2 p3
                  go_wp2_with fail
                  go_ret
                  exact ⟨by rw [HV.out]; rfl, hb2⟩
                · rw [decide_eq_false p3] at f4
                  have HV := Lib.hid (show res = (L.drop (k + 1)).all partOk by rw [HST.out, partOk, decide_eq_false p1, decide_eq_false p2, decide_eq_false p3]; rfl)
                  clear HST p1 p2 p3
                  go_wp2_with fail
                  go_roundg (L.length - (k + 1))
                  case measure => omega
                  case rel => exact ⟨k + 1, by omega, rfl, by simp, rfl, HV⟩
          · have HV := Lib.hid (show res = true by rw [HE.out, List.drop_eq_nil_of_le (by omega)]; rfl)
            have hke : k = L.length := by omega
            subst hke
            clear HE
            go_wp2_with fail
            go_ret
            exact ⟨by rw [HV.out]; rfl, hb2⟩
end Go.Proofs.YtpheifdpjcppdaaGreatDoor
namespace Go.Proofs.YtpheifdpjcppdaaGreatDoor
open Go.RowKit
theorem up_step (s : List UInt8) (k : Nat) (h : k < s.length) : upP (s.take k) (s.drop k) = if s[k] = 47 then s.take k :: upP (s.take (k + 1)) (s.drop (k + 1)) else upP (s.take (k + 1)) (s.drop (k + 1)) := by
  rw [List.drop_eq_getElem_cons h, upP, List.take_succ_eq_append_getElem h]
theorem up_len : ∀ (l acc : List UInt8), (upP acc l).length ≤ l.length
  | [], _ => by simp [upP]
  | c :: t, acc => by
    have := up_len t (acc ++ [c])
    rw [upP]
    split <;> simp <;> omega
set_option maxRecDepth 20000 in
set_option maxHeartbeats 8000000 in
theorem parents_any (s : List UInt8) (w : World) (hs : s.length ≤ 1000000000) :
    Calls Tryz.prog 33 #[.string (bs s)] w fun e w' => (∃ v, e = .returned v ∧ Sl 1 Rtext nowhere w' v (upsL s)) ∧ Below w.heap.size w w' := by
  have HX : Hid (upsL s = [] ++ upP (s.take 0) (s.drop 0)) := Lib.hid (by simp [upsL])
  generalize upsL s = res at HX
  have hz : ((bs s).size : Int) = (s.length : Int) := by rw [bs_size]
  go_enter Tryz.func33, Tryz.ntmps33
  go_wp2_with fail
  go_loopg [3, 7] s.length (fun G s3 s7 wr => ∃ (k : Nat) (acc : List (List UInt8)), k ≤ s.length ∧ acc.length ≤ k ∧ G = s.length - k ∧ s7 = .int .i64 k ∧ Below w.heap.size w wr ∧ OwnL 1 Rtext 9 w.heap.size (old w.heap.size) wr s3 acc ∧ Hid (res = acc ++ upP (s.take k) (s.drop k)))
  case atStart => exact ⟨0, [], Nat.zero_le _, Nat.le_refl _, rfl, rfl, Below.refl _ _, OwnL.nil _ _ _ _ _ _, HX⟩
  case round =>
    clear HX
    obtain ⟨k, acc, hk, hac, rfl, rfl, hbw, hown, HE⟩ := hrel
    obtain ⟨A3, cap3, rfl⟩ := hown.form
    by_cases hlt : k < s.length
    · have hks : (k : Int) < ((bs s).size : Int) := by omega
      have hks2 : k < (bs s).size := by rw [bs_size]; exact hlt
      obtain ⟨b, hb⟩ : ∃ b, b = s[k]'hlt := ⟨_, rfl⟩
      have HST : Hid (res = acc ++ (if b = 47 then s.take k :: upP (s.take (k + 1)) (s.drop (k + 1)) else upP (s.take (k + 1)) (s.drop (k + 1)))) := Lib.hid (by rw [HE.out, up_step s k hlt, hb])
      have hbb : (bs s)[k]'hks2 = b := hb.symm
      have i1 : (0 : Int) ≤ (k : Int) := by omega
      have i2 : (k : Int) < (s.length : Int) := by omega
      have i3 : (k : Int) ≤ ((bs s).size : Int) := by omega
      have hext : (bs s).extract 0 k = bs (s.take k) := by rw [ext_take _ _ (by rw [bs_size]; omega), bs_list]
      clear hb HE
      have hq : ((b.toNat : Int) == 47) = decide (b = 47) := by rw [show (47 : Int) = ((47 : UInt8).toNat : Int) from rfl, beq_byte]
      by_cases he : b = 47
      · have HN : Hid (res = (acc ++ [s.take k]) ++ upP (s.take (k + 1)) (s.drop (k + 1))) := Lib.hid (by rw [HST.out, if_pos he]; simp)
        rw [decide_eq_true he] at hq
        have hnew := hown.new
        clear he HST
        generalize s.take k = piece at hext HN
        go_wp2_with (at_builtin; refine wpList_appendL (l := acc) good_text rfl _ _ _ _ _ 16 rfl Tryz.underlying77 info_str rfl (by omega) _ rfl hown [.string (bs piece)] piece rfl rfl (by omega) (by omega) hbw.size (fun k hk hk2 => by have := hbw.size; unfold old at hk2; omega) ?_; intro v5 w5 hown5 hk5)
        have q5 := hbw.trans (hk5.below hbw.size (fun k _ h => hnew k h))
        clear hk5 hnew hown
        go_wp2_with fail
        go_roundg (s.length - (k + 1))
        case measure => omega
        case rel => exact ⟨k + 1, acc ++ [piece], by omega, by simp; omega, rfl, by simp, q5, hown5, HN⟩
      · have HN : Hid (res = acc ++ upP (s.take (k + 1)) (s.drop (k + 1))) := Lib.hid (by rw [HST.out, if_neg he])
        rw [decide_eq_false he] at hq
        clear he HST
        go_wp2_with fail
        go_roundg (s.length - (k + 1))
        case measure => omega
        case rel => exact ⟨k + 1, acc, by omega, by omega, rfl, by simp, hbw, hown, HN⟩
    · have HV : Hid (res = acc) := Lib.hid (by rw [HE.out, List.drop_eq_nil_of_le (by omega)]; simp [upP])
      have hke : k = s.length := by omega
      subst hke
      clear HE
      go_wp2_with fail
      go_ret
      rw [HV.out]
      exact ⟨⟨_, rfl, (hown.no free_text).sl good_text⟩, hbw⟩
theorem idxAny_has (s C : List UInt8) : decide ((0 : Int) ≤ Lib.indexAny s C) = s.any fun c => C.contains c := by
  induction s with
  | nil => rfl
  | cons b s ih =>
    have hge := Lib.indexAny_ge C s
    rw [Lib.indexAny, List.any_cons]
    cases hb : C.contains b with
    | true => rfl
    | false =>
      rw [if_neg (by simp), Bool.false_or, ← ih]
      by_cases hm : Lib.indexAny s C = -1
      · rw [hm]; rfl
      · rw [if_neg (by simpa using hm)]
        exact decide_eq_decide.2 (by omega)
set_option maxRecDepth 20000 in
set_option maxHeartbeats 4000000 in
theorem cany_any (s : List UInt8) (C : ByteArray) (D : List UInt8) (hD : C.data.toList = D) (w : World) (hs : s.length ≤ 1000000000) (h2 : 2 ≤ C.size) (h8 : C.size ≤ 1000) (hch : ∀ b ∈ C.data.toList, b.toNat < 128) :
    Calls Tryz.prog 106 #[.string (bs s), .string C] w fun e w' => e = .returned (.bool (s.any fun c => D.contains c)) ∧ Below w.heap.size w w' := by
  have hI := iany (bs s) C w (by rw [bs_size]; omega) h2 h8 hch
  have HB := Lib.hid (idxAny_has s D)
  rw [bs_list, hD] at hI
  generalize (s.any fun c => D.contains c) = res at HB
  go_enter Tryz.func106, Tryz.ntmps106
  go_wp2_with fail
  refine hI.mono ?_
  rintro e w1 ⟨rfl, hb⟩
  have hge := HB.out
  generalize Lib.indexAny s D = z at hge
  clear HB
  go_wp2_with fail
  go_ret
  exact ⟨by first | rfl | (rw [← hge]) | (rw [← hge]; rfl), hb⟩
theorem own_any (s : List UInt8) : (s.any fun c => ([0, 10, 58] : List UInt8).contains c) = s.any fun c => decide (c = 0) || (decide (c = 10) || decide (c = 58)) := by
  congr 1
  funext c
  rw [Bool.eq_iff_iff]; simp
theorem tgt_any (s : List UInt8) : (s.any fun c => ([0, 10] : List UInt8).contains c) = s.any fun c => decide (c = 0) || decide (c = 10) := by
  congr 1
  funext c
  rw [Bool.eq_iff_iff]; simp
set_option maxRecDepth 20000 in
set_option maxHeartbeats 4000000 in
theorem powner_any (s : List UInt8) (w : World) (hs : s.length ≤ 1000000000) :
    Calls Tryz.prog 85 #[.string (bs s)] w fun e w' => e = .returned (.bool (ownOk s)) ∧ Below w.heap.size w w' := by
  have HX : Hid (ownOk s = (decide (s.length ≤ 31) && !s.any fun c => ([0, 10, 58] : List UInt8).contains c)) := Lib.hid (by rw [own_any]; rfl)
  generalize ownOk s = res at HX
  have hz : ((bs s).size : Int) = (s.length : Int) := by rw [bs_size]
  go_enter Tryz.func85, Tryz.ntmps85
  by_cases h1 : s.length ≤ 31
  · have d1 : decide ((s.length : Int) ≤ 31) = true := by simp; omega
    have HX2 := Lib.hid (show res = !s.any fun c => ([0, 10, 58] : List UInt8).contains c by rw [HX.out, decide_eq_true h1, Bool.true_and])
    clear HX h1
    go_wp2_with fail
    refine (cany_any s ⟨#[0, 10, 58]⟩ [0, 10, 58] rfl _ hs (by decide) (by decide) (by decide)).mono ?_
    rintro e w1 ⟨rfl, hb1⟩
    generalize (s.any fun c => ([0, 10, 58] : List UInt8).contains c) = z at HX2 ⊢
    go_wp2_with fail
    go_ret
    exact ⟨by rw [HX2.out]; rfl, hb1⟩
  · have d1 : decide ((s.length : Int) ≤ 31) = false := by simp; omega
    have HV := Lib.hid (show res = false by rw [HX.out, decide_eq_false h1]; rfl)
    clear HX h1
    go_wp2_with fail
    go_ret
    exact ⟨by rw [HV.out]; rfl, Below.refl _ _⟩
set_option maxRecDepth 20000 in
set_option maxHeartbeats 4000000 in
theorem ptarget_any (s : List UInt8) (w : World) (hs : s.length ≤ 1000000000) :
    Calls Tryz.prog 86 #[.string (bs s)] w fun e w' => e = .returned (.bool (tgtOk s)) ∧ Below w.heap.size w w' := by
  have HX : Hid (tgtOk s = (decide (1 ≤ s.length) && (decide (s.length ≤ 200) && !s.any fun c => ([0, 10] : List UInt8).contains c))) := Lib.hid (by rw [tgt_any]; rfl)
  generalize tgtOk s = res at HX
  have hz : ((bs s).size : Int) = (s.length : Int) := by rw [bs_size]
  go_enter Tryz.func86, Tryz.ntmps86
  by_cases h0 : 1 ≤ s.length
  · have d0 : decide ((1 : Int) ≤ (s.length : Int)) = true := by simp; omega
    by_cases h1 : s.length ≤ 200
    · have d1 : decide ((s.length : Int) ≤ 200) = true := by simp; omega
      have HX2 := Lib.hid (show res = !s.any fun c => ([0, 10] : List UInt8).contains c by rw [HX.out, decide_eq_true h0, decide_eq_true h1, Bool.true_and, Bool.true_and])
      clear HX h0 h1
      go_wp2_with fail
      refine (cany_any s ⟨#[0, 10]⟩ [0, 10] rfl _ hs (by decide) (by decide) (by decide)).mono ?_
      rintro e w1 ⟨rfl, hb1⟩
      generalize (s.any fun c => ([0, 10] : List UInt8).contains c) = z at HX2 ⊢
      go_wp2_with fail
      go_ret
      exact ⟨by rw [HX2.out]; rfl, hb1⟩
    · have d1 : decide ((s.length : Int) ≤ 200) = false := by simp; omega
      have HV := Lib.hid (show res = false by rw [HX.out, decide_eq_false h1]; simp)
      clear HX h0 h1
      go_wp2_with fail
      go_ret
      exact ⟨by rw [HV.out]; rfl, Below.refl _ _⟩
  · have d0 : decide ((1 : Int) ≤ (s.length : Int)) = false := by simp; omega
    have HV := Lib.hid (show res = false by rw [HX.out, decide_eq_false h0]; rfl)
    clear HX h0
    go_wp2_with fail
    go_ret
    exact ⟨by rw [HV.out]; rfl, Below.refl _ _⟩
theorem any_has3 (s : List UInt8) : (s.any fun c => decide (c = 0) || (decide (c = 10) || decide (c = 58))) = (s.contains 0 || (s.contains 10 || s.contains 58)) := by
  induction s with
  | nil => rfl
  | cons c t ih =>
    rw [List.any_cons, ih, List.contains_cons, List.contains_cons, List.contains_cons]
    have e : ∀ d : UInt8, decide (c = d) = (d == c) := fun d => by rw [Bool.eq_iff_iff, decide_eq_true_iff, beq_iff_eq]; exact eq_comm
    rw [e 0, e 10, e 58]
    cases (0 : UInt8) == c <;> cases (10 : UInt8) == c <;> cases (58 : UInt8) == c <;> cases t.contains 0 <;> cases t.contains 10 <;> cases t.contains 58 <;> rfl
theorem any_has2 (s : List UInt8) : (s.any fun c => decide (c = 0) || decide (c = 10)) = (s.contains 0 || s.contains 10) := by
  induction s with
  | nil => rfl
  | cons c t ih =>
    rw [List.any_cons, ih, List.contains_cons, List.contains_cons]
    have e : ∀ d : UInt8, decide (c = d) = (d == c) := fun d => by rw [Bool.eq_iff_iff, decide_eq_true_iff, beq_iff_eq]; exact eq_comm
    rw [e 0, e 10]
    cases (0 : UInt8) == c <;> cases (10 : UInt8) == c <;> cases t.contains 0 <;> cases t.contains 10 <;> rfl
set_option maxRecDepth 20000 in
set_option maxHeartbeats 4000000 in
theorem rowner_any (s : List UInt8) (w : World) (hs : s.length ≤ 1000000000) :
    Calls Tryz.prog 82 #[.string (bs s)] w fun e w' => e = .returned (.bool (ownOk s)) ∧ w = w' := by
  have HX : Hid (ownOk s = (decide (s.length ≤ 31) && !(s.contains 0 || (s.contains 10 || s.contains 58)))) := Lib.hid (by rw [← any_has3]; rfl)
  generalize ownOk s = res at HX
  have hz : ((bs s).size : Int) = (s.length : Int) := by rw [bs_size]
  go_enter Tryz.func82, Tryz.ntmps82
  by_cases h1 : s.length ≤ 31
  · have d1 : decide ((s.length : Int) ≤ 31) = true := by simp; omega
    have HX2 := Lib.hid (show res = !(s.contains 0 || (s.contains 10 || s.contains 58)) by rw [HX.out, decide_eq_true h1, Bool.true_and])
    clear HX h1
    go_wp2_with fail
    refine (has_lit s 0 0 rfl _ hs).mono ?_
    rintro e w1 ⟨rfl, rfl⟩
    cases h0 : s.contains 0 with
    | true =>
      have HV := Lib.hid (show res = false by rw [HX2.out, h0]; rfl)
      clear h0 HX2
      go_wp2_with fail
      go_ret
      exact ⟨by rw [HV.out]; rfl, rfl⟩
    | false =>
      have HX3 := Lib.hid (show res = !(s.contains 10 || s.contains 58) by rw [HX2.out, h0]; rfl)
      clear h0 HX2
      go_wp2_with fail
      refine (has_lit s 10 10 rfl _ hs).mono ?_
      rintro e w1 ⟨rfl, rfl⟩
      cases h1 : s.contains 10 with
      | true =>
        have HV := Lib.hid (show res = false by rw [HX3.out, h1]; rfl)
        clear h1 HX3
        go_wp2_with fail
        go_ret
        exact ⟨by rw [HV.out]; rfl, rfl⟩
      | false =>
        have HX4 := Lib.hid (show res = !s.contains 58 by rw [HX3.out, h1]; rfl)
        clear h1 HX3
        go_wp2_with fail
        refine (has_lit s 58 58 rfl _ hs).mono ?_
        rintro e w1 ⟨rfl, rfl⟩
        generalize s.contains 58 = z at HX4 ⊢
        go_wp2_with fail
        go_ret
        exact ⟨by rw [HX4.out]; rfl, rfl⟩
  · have d1 : decide ((s.length : Int) ≤ 31) = false := by simp; omega
    have HV := Lib.hid (show res = false by rw [HX.out, decide_eq_false h1]; rfl)
    clear HX h1
    go_wp2_with fail
    go_ret
    exact ⟨by rw [HV.out]; rfl, rfl⟩
end Go.Proofs.YtpheifdpjcppdaaGreatDoor

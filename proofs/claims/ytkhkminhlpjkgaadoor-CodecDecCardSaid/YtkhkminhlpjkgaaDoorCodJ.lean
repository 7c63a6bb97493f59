/- The walk of the reference's Unbase64. -/
import Derived.Test.YtkhkminhlpjkgaaDoorCodI
namespace Go.Proofs.YtkhkminhlpjkgaaDoor
open Go.RowKit
theorem suf1 (X : List UInt8) (c : UInt8) : Lib.hasSuffix (X ++ [c]) [61] = (61 == c) := by simp [Lib.hasSuffix, List.isSuffixOf, List.isPrefixOf]
theorem suf2 (X : List UInt8) (b c : UInt8) : Lib.hasSuffix (X ++ [b, c]) [61, 61] = (61 == c && 61 == b) := by simp [Lib.hasSuffix, List.isSuffixOf, List.isPrefixOf]
theorem end_exit (l : List UInt8) (p : Nat) (hp : p ≤ 2) (hpl : p ≤ l.length) (h4 : l.length % 4 = 0) (hall : ∀ j, j < p → l.getD (l.length - 1 - j) 0 = 61)
    (hex : l.length - p = 0 ∨ p = 2 ∨ l.getD (l.length - p - 1) 0 ≠ 61) : l.length - p = endOf l := by
  by_cases h0 : l = []
  · subst h0; simp [endOf, Lib.hasSuffix]
  · have hlen : 4 ≤ l.length := by have := List.length_pos_iff.2 h0; omega
    obtain ⟨X, b, c, rfl⟩ : ∃ X b c, l = X ++ [b, c] := by
      refine ⟨l.take (l.length - 2), l[l.length - 2], l[l.length - 1], ?_⟩
      have e : l.drop (l.length - 2) = [l[l.length - 2], l[l.length - 1]] := by
        rw [List.drop_eq_getElem_cons (by omega), List.drop_eq_getElem_cons (by omega), List.drop_of_length_le (by omega)]
        congr 2
        simp only [show l.length - 2 + 1 = l.length - 1 by omega]
      rw [← e, List.take_append_drop]
    have hx : (X ++ [b, c]).length = X.length + 2 := by simp
    have hb : (X ++ [b, c]).getD ((X ++ [b, c]).length - 2) 0 = b := by rw [hx]; simp [List.getD]
    have hc : (X ++ [b, c]).getD ((X ++ [b, c]).length - 1) 0 = c := by rw [hx]; simp [List.getD]
    have e2 := suf2 X b c
    have e1 : Lib.hasSuffix (X ++ [b, c]) [61] = (61 == c) := by rw [show X ++ [b, c] = (X ++ [b]) ++ [c] by simp, suf1]
    unfold endOf
    rw [e2, e1]
    obtain rfl | rfl | rfl : p = 0 ∨ p = 1 ∨ p = 2 := by omega
    · have : c ≠ 61 := by
        rcases hex with h | h | h
        · omega
        · omega
        · rw [Nat.sub_zero, hc] at h; exact h
      simp [Ne.symm this]
    · have h1 : c = 61 := by have := hall 0 (by omega); rwa [Nat.sub_zero, hc] at this
      have h2 : b ≠ 61 := by
        rcases hex with h | h | h
        · omega
        · omega
        · rw [show (X ++ [b, c]).length - 1 - 1 = (X ++ [b, c]).length - 2 by omega, hb] at h; exact h
      subst h1
      simp [Ne.symm h2]
    · have h1 : c = 61 := by have := hall 0 (by omega); rwa [Nat.sub_zero, hc] at this
      have h2 : b = 61 := by have := hall 1 (by omega); rwa [show (X ++ [b, c]).length - 1 - 1 = (X ++ [b, c]).length - 2 by omega, hb] at this
      subst h1 h2
      simp
theorem find_sign (b : UInt8) (w : World) : Calls Tryd.prog 36 #[.string ⟨#[65, 66, 67, 68, 69, 70, 71, 72, 73, 74, 75, 76, 77, 78, 79, 80, 81, 82, 83, 84, 85, 86, 87, 88, 89, 90, 97, 98, 99, 100, 101, 102, 103, 104, 105, 106, 107, 108, 109, 110, 111, 112, 113, 114, 115, 116, 117, 118, 119, 120, 121, 122, 48, 49, 50, 51, 52, 53, 54, 55, 56, 57, 43, 47]⟩, .int .u8 (b.toNat : Int)] w fun e w' => e = .returned (.int .i64 (Lib.indexByte signs b)) ∧ w = w' :=
  find_any _ b w (by decide)
theorem getD_get (s : ByteArray) (k : Nat) (h : k < s.size) : s.data.toList.getD k 0 = s[k] := by
  have h' : k < s.data.toList.length := by simpa using h
  simp [List.getD, List.getElem?_eq_getElem h']
  rfl
theorem allSign_snoc (l : List UInt8) (k : Nat) (h : k < l.length) (ha : allSign (l.take k) = true) (hc : 0 ≤ Lib.indexByte signs l[k]) : allSign (l.take (k + 1)) = true := by
  rw [take_snoc l k h, allSign_append, ha]
  simp [allSign, hc]
theorem allSign_not (l : List UInt8) (k n : Nat) (h : k < l.length) (hn : k < n) (hc : Lib.indexByte signs l[k] < 0) : ¬ allSign (l.take n) = true := by
  intro ha
  unfold allSign at ha
  have := List.all_eq_true.1 ha l[k] (List.mem_iff_getElem.2 ⟨k, by rw [List.length_take]; omega, by simp⟩)
  simp at this
  omega
set_option maxHeartbeats 2000000 in
theorem runbase64_any (s : ByteArray) (w : World) (hs : s.size ≤ 1000000000000) :
    Calls Tryd.prog 15 #[.string s] w (GivesB 5 w (fun v => .agg #[v, .int .i64 0, .int .i64 (un64Code s.data.toList)]) (un64R s.data.toList)) := by
  by_cases h4 : ¬ s.size % 4 = 0
  · have hb : ((s.size : Int) % 4 != 0) = true := by rw [bne_iff_ne]; omega
    go_enter Tryd.func15, Tryd.ntmps15
    go_wp2_with fail
    have hf := un64_short s.data.toList (by simpa using h4)
    exact bodyPost_ret (v := .agg #[.slice none 0 0, .int .i64 0, .int .i64 2]) (by simp [results, Tryd.results15, go_sem]) rfl ⟨_, by rw [hf.1], by rw [hf.2]; exact World.ownsRow_nil _ _ _ _, (Below.refl _ _).alloc (Nat.le_refl _) _⟩
  · have h4 : s.size % 4 = 0 := by omega
    have hb : ((s.size : Int) % 4 != 0) = false := by simp; omega
    go_enter Tryd.func15, Tryd.ntmps15
    go_wp2
    go_loop [3] (fun e => ∃ p : Nat, p ≤ 2 ∧ p ≤ s.size ∧ e = .int .i64 ((s.size - p : Nat) : Int) ∧ Hid (∀ j, j < p → s.data.toList.getD (s.data.toList.length - 1 - j) 0 = 61)) (fun e => (intOf e).toNat)
    case atStart => exact ⟨0, by omega, by omega, rfl, by intro j hj; omega⟩
    case round =>
      obtain ⟨p, hp2, hps, rfl, Hall⟩ := hrel
      obtain ⟨E, HE⟩ : ∃ E, Hid (E = s.size - p) := ⟨_, rfl⟩
      rw [← HE.out]
      have hE : E + p = s.size := by have := HE.out; omega
      have hE1 : E ≤ s.size := by omega
      have hE2 : s.size ≤ E + 2 := by omega
      clear hE
      by_cases hgo : 0 < E ∧ (∃ h : E - 1 < s.size, s[E - 1] = 61) ∧ p < 2
      · obtain ⟨hE0, ⟨hEs, h61⟩, hp⟩ := hgo
        have hb1 : ((s[E - 1].toNat : Int) == 61) = true := by rw [h61]; rfl
        have hd1 : decide (0 < (E : Int)) = true := by simp; omega
        have hd2 : decide ((s.size : Int) - (E : Int) < 2) = true := by have := HE.out; simp; omega
        go_wp2
        go_round
        case rel =>
          refine ⟨p + 1, by omega, by omega, by have := HE.out; go_num, ?_⟩
          intro j hj
          by_cases hjp : j < p
          · exact Hall.out j hjp
          · have hpj : j = p := by omega
            subst hpj
            rw [show s.data.toList.length - 1 - j = E - 1 by rw [HE.out]; simp; omega, getD_get s (E - 1) hEs]
            exact h61
        case measure => simp [intOf]; omega
      · have HEnd : Hid (E = endOf s.data.toList) := by
          show E = endOf s.data.toList
          rw [HE.out]
          have := end_exit s.data.toList p hp2 (by simpa using hps) (by simpa using h4) Hall.out (by
            by_cases h0 : s.size - p = 0
            · left; simpa using h0
            · right
              by_cases hp : p = 2
              · exact .inl hp
              · right
                intro h61
                have hlt : E - 1 < s.size := by have := HE.out; omega
                refine hgo ⟨by have := HE.out; omega, ⟨hlt, ?_⟩, by omega⟩
                rw [← getD_get s (E - 1) hlt, ← h61]
                congr 1
                have := HE.out
                simp
                omega)
          simpa using this
        have hcases : E = 0 ∨ (∃ h : E - 1 < s.size, 0 < E ∧ ((s[E - 1].toNat : Int) == 61) = false) ∨ (∃ h : E - 1 < s.size, 0 < E ∧ ((s[E - 1].toNat : Int) == 61) = true ∧ s.size = E + 2) := by
          by_cases h0 : E = 0
          · exact .inl h0
          · right
            have hlt : E - 1 < s.size := by omega
            by_cases h61 : s[E - 1] = 61
            · right
              refine ⟨hlt, by omega, by rw [h61]; rfl, ?_⟩
              rcases Nat.lt_or_ge p 2 with h | h
              · exact absurd ⟨by omega, ⟨hlt, h61⟩, h⟩ hgo
              · have := HE.out; omega
            · left
              refine ⟨hlt, by omega, ?_⟩
              have := beq_byte s[E - 1] 61
              simpa [h61] using this
        clear hgo
        have Hl4 : Hid (s.data.toList.length % 4 = 0) := by show s.data.toList.length % 4 = 0; simpa using h4
        rcases hcases with hz | ⟨hlt, hpos, hne⟩ | ⟨hlt, hpos, heq, hsz2⟩
        · have hd1 : decide (0 < (E : Int)) = false := by simp; omega
          have hd0 : decide (0 < E) = false := by simp; omega
          have hz0 : E ≤ 0 := by omega
          clear hz
          go_wp2
          go_loopw [4, 5, 6, 7] (fun v n b i wr => ∃ k : Nat, k ≤ E ∧ i = .int .i64 k ∧ n = .int .i64 ((dread (s.data.toList.take k)).1 : Int) ∧ b = .int .i64 ((dread (s.data.toList.take k)).2.1 : Int) ∧
              wr.ownsRow (w.heap.size + 1) 5 1 v (dread (s.data.toList.take k)).2.2.length (bvs (dread (s.data.toList.take k)).2.2) ∧ Hid ((dread (s.data.toList.take k)).2.2.length ≤ k) ∧ Hid (allSign (s.data.toList.take k) = true) ∧
              Below (w.heap.size + 1) (w.alloc (.cells #[.slice none 0 0, .int .i64 0, .int .i64 0] 28)) wr) (fun _ _ _ i _ => E - (intOf i).toNat)
          case atStart => exact ⟨0, by omega, rfl, rfl, rfl, World.ownsRow_nil _ _ _ _, Nat.le_refl 0, rfl, Below.refl _ _⟩
          case round =>
            obtain ⟨k, hk, rfl, rfl, rfl, hown, Hlen, Hsign, hbw⟩ := hrel
            obtain ⟨wo, rfl⟩ : ∃ wo : World, wo = wr := ⟨_, rfl⟩
            have hsz : w.heap.size + 1 ≤ wo.heap.size := by have := hbw.size; simpa using this
            have Hinv := Lib.hid (dread_inv (s.data.toList.take k))
            obtain ⟨n, Hn⟩ : ∃ n, Hid (n = (dread (s.data.toList.take k)).1) := ⟨_, rfl⟩
            obtain ⟨b, Hb⟩ : ∃ b, Hid (b = (dread (s.data.toList.take k)).2.1) := ⟨_, rfl⟩
            obtain ⟨o, Ho⟩ : ∃ o, Hid (o = (dread (s.data.toList.take k)).2.2) := ⟨_, rfl⟩
            rw [← Hn.out, ← Hb.out]
            rw [← Ho.out] at hown Hlen
            have hol : o.length ≤ k := Hlen.out
            have hb6 : b ≤ 6 := by rw [Hb.out]; exact Hinv.out.2.1
            have hb2 : b % 2 = 0 := by rw [Hb.out]; exact Hinv.out.2.2
            have hn64 : n < 64 := by
              have h1 := Hinv.out.1
              have h2 := Nat.pow_le_pow_right (n := 2) (by omega) Hinv.out.2.1
              rw [Hn.out]; omega
            have hblk : Blk wo w.heap.size 28 #[.slice none 0 0, .int .i64 0, .int .i64 0] := (Blk.new w _ _).below hbw (by omega)
            have hc0 : wo.cell? ⟨w.heap.size, 0, none⟩ = some (.slice none 0 0) := hblk.cell 0
            have hc1 : wo.cell? ⟨w.heap.size, 1, none⟩ = some (.int .i64 0) := hblk.cell 1
            have hc2 : wo.cell? ⟨w.heap.size, 2, none⟩ = some (.int .i64 0) := hblk.cell 2
            have hf0 := hblk.frozen 0
            have hf1 := hblk.frozen 1
            have hf2 := hblk.frozen 2
            have hbw0 : Below w.heap.size w wo := ((Below.refl _ _).alloc (Nat.le_refl _) _).trans (hbw.mono (by omega))
            by_cases hkE : k < E
            · exact absurd hkE (by omega)
            · obtain rfl : k = E := by omega
              have hdk : decide ((k : Int) < (k : Int)) = false := by simp
              have Hraw : Hid (o = rraw s.data.toList) := by
                show o = rraw s.data.toList
                unfold rraw
                rw [← HEnd.out]
                exact Ho.out
              obtain ⟨A4, cap4, rfl⟩ := own_form hown
              have hsbo := SB.of_own hown
              by_cases heq2 : base64L o = s.data.toList
              · have hbe : (base64L o == s.toList) = true := by rw [ByteArray.toList_eq]; simpa using heq2
                have Hf := Lib.hid (ref_ok s.data.toList Hl4.out (by rw [← Hraw.out]; exact heq2))
                clear heq2
                go_wp2_with fail
                refine (rbase64_any _ _ _ hsbo (by omega)).mono ?_
                rintro e w5 ⟨rfl, hb5⟩
                have hblk5 := hblk.below hb5 hblk.lt
                have e0 : w5.cell? ⟨w.heap.size, 0, none⟩ = some (.slice none 0 0) := hblk5.cell 0
                have e1 : w5.cell? ⟨w.heap.size, 1, none⟩ = some (.int .i64 0) := hblk5.cell 1
                have e2 : w5.cell? ⟨w.heap.size, 2, none⟩ = some (.int .i64 0) := hblk5.cell 2
                have g0 := hblk5.frozen 0
                have g1 := hblk5.frozen 1
                have g2 := hblk5.frozen 2
                have hbw5 : Below w.heap.size w w5 := below_trans hbw0 hb5
                go_wp2
                have hB := ((hblk5.set (u := .slice A4 o.length cap4) 0).set (u := .int .i64 0) 1).set (u := .int .i64 0) 2
                have d0 := hB.cell 0
                have d1 := hB.cell 1
                have d2 := hB.cell 2
                refine bodyPost_ret (v := .agg #[.slice A4 o.length cap4, .int .i64 0, .int .i64 0]) (by simp [results, Tryd.results15, go_sem, d0, d1, d2]) rfl ⟨_, by rw [Hf.out.1], ?_, ((hbw5.setCell (by simp) _).setCell (by simp) _).setCell (by simp) _⟩
                rw [Hf.out.2, ← Hraw.out]
                have h1 := ownsRow_setCell_below (ownsRow_setCell_below (ownsRow_setCell_below (own_below hown hb5) (a := ⟨w.heap.size, 0, none⟩) (by simp) (.slice A4 o.length cap4)) (a := ⟨w.heap.size, 1, none⟩) (by simp) (.int .i64 0)) (a := ⟨w.heap.size, 2, none⟩) (by simp) (.int .i64 0)
                exact own_base h1 (by omega)
              · have hbe : (base64L o == s.toList) = false := by rw [ByteArray.toList_eq]; simpa using heq2
                have Hf := Lib.hid (ref_form s.data.toList Hl4.out (by rw [← Hraw.out]; exact fun hh => heq2 hh.2))
                clear heq2
                go_wp2_with fail
                refine (rbase64_any _ _ _ hsbo (by omega)).mono ?_
                rintro e w5 ⟨rfl, hb5⟩
                have hblk5 := hblk.below hb5 hblk.lt
                have e0 : w5.cell? ⟨w.heap.size, 0, none⟩ = some (.slice none 0 0) := hblk5.cell 0
                have e1 : w5.cell? ⟨w.heap.size, 1, none⟩ = some (.int .i64 0) := hblk5.cell 1
                have e2 : w5.cell? ⟨w.heap.size, 2, none⟩ = some (.int .i64 0) := hblk5.cell 2
                have g0 := hblk5.frozen 0
                have g1 := hblk5.frozen 1
                have g2 := hblk5.frozen 2
                have hbw5 : Below w.heap.size w w5 := below_trans hbw0 hb5
                go_wp2
                have hB := ((hblk5.set (u := .slice none 0 0) 0).set (u := .int .i64 0) 1).set (u := .int .i64 3) 2
                have d0 := hB.cell 0
                have d1 := hB.cell 1
                have d2 := hB.cell 2
                refine bodyPost_ret (v := .agg #[.slice none 0 0, .int .i64 0, .int .i64 3]) (by simp [results, Tryd.results15, go_sem, d0, d1, d2]) rfl ⟨_, by rw [Hf.out.1], ?_, ((hbw5.setCell (by simp) _).setCell (by simp) _).setCell (by simp) _⟩
                rw [Hf.out.2]
                exact World.ownsRow_nil _ _ _ _
        · have hd1 : decide (0 < (E : Int)) = true := by simp; omega
          go_wp2
          go_loopw [4, 5, 6, 7] (fun v n b i wr => ∃ k : Nat, k ≤ E ∧ i = .int .i64 k ∧ n = .int .i64 ((dread (s.data.toList.take k)).1 : Int) ∧ b = .int .i64 ((dread (s.data.toList.take k)).2.1 : Int) ∧
              wr.ownsRow (w.heap.size + 1) 5 1 v (dread (s.data.toList.take k)).2.2.length (bvs (dread (s.data.toList.take k)).2.2) ∧ Hid ((dread (s.data.toList.take k)).2.2.length ≤ k) ∧ Hid (allSign (s.data.toList.take k) = true) ∧
              Below (w.heap.size + 1) (w.alloc (.cells #[.slice none 0 0, .int .i64 0, .int .i64 0] 28)) wr) (fun _ _ _ i _ => E - (intOf i).toNat)
          case atStart => exact ⟨0, by omega, rfl, rfl, rfl, World.ownsRow_nil _ _ _ _, Nat.le_refl 0, rfl, Below.refl _ _⟩
          case round =>
            obtain ⟨k, hk, rfl, rfl, rfl, hown, Hlen, Hsign, hbw⟩ := hrel
            obtain ⟨wo, rfl⟩ : ∃ wo : World, wo = wr := ⟨_, rfl⟩
            have hsz : w.heap.size + 1 ≤ wo.heap.size := by have := hbw.size; simpa using this
            have Hinv := Lib.hid (dread_inv (s.data.toList.take k))
            obtain ⟨n, Hn⟩ : ∃ n, Hid (n = (dread (s.data.toList.take k)).1) := ⟨_, rfl⟩
            obtain ⟨b, Hb⟩ : ∃ b, Hid (b = (dread (s.data.toList.take k)).2.1) := ⟨_, rfl⟩
            obtain ⟨o, Ho⟩ : ∃ o, Hid (o = (dread (s.data.toList.take k)).2.2) := ⟨_, rfl⟩
            rw [← Hn.out, ← Hb.out]
            rw [← Ho.out] at hown Hlen
            have hol : o.length ≤ k := Hlen.out
            have hb6 : b ≤ 6 := by rw [Hb.out]; exact Hinv.out.2.1
            have hb2 : b % 2 = 0 := by rw [Hb.out]; exact Hinv.out.2.2
            have hn64 : n < 64 := by
              have h1 := Hinv.out.1
              have h2 := Nat.pow_le_pow_right (n := 2) (by omega) Hinv.out.2.1
              rw [Hn.out]; omega
            have hblk : Blk wo w.heap.size 28 #[.slice none 0 0, .int .i64 0, .int .i64 0] := (Blk.new w _ _).below hbw (by omega)
            have hc0 : wo.cell? ⟨w.heap.size, 0, none⟩ = some (.slice none 0 0) := hblk.cell 0
            have hc1 : wo.cell? ⟨w.heap.size, 1, none⟩ = some (.int .i64 0) := hblk.cell 1
            have hc2 : wo.cell? ⟨w.heap.size, 2, none⟩ = some (.int .i64 0) := hblk.cell 2
            have hf0 := hblk.frozen 0
            have hf1 := hblk.frozen 1
            have hf2 := hblk.frozen 2
            have hbw0 : Below w.heap.size w wo := ((Below.refl _ _).alloc (Nat.le_refl _) _).trans (hbw.mono (by omega))
            by_cases hkE : k < E
            · have hks : k < s.size := by omega
              have hdk : decide ((k : Int) < (E : Int)) = true := by simp; omega
              have hidx := indexByte_lt signs s[k]
              have hidx64 : Lib.indexByte signs s[k] < 64 := hidx
              have hidx1 := Lib.indexByte_ge signs s[k]
              by_cases hneg : Lib.indexByte signs s[k] < 0
              · have hdn : decide (Lib.indexByte signs s[k] < 0) = true := by simpa using hneg
                go_wp2_with (go_at_call 36; refine (find_sign _ _).mono ?_; rintro e w' ⟨rfl, rfl⟩)
                have hf := ref_form s.data.toList Hl4.out (fun hh => allSign_not s.data.toList k _ (by simpa using hks) (by rw [← HEnd.out]; exact hkE) hneg hh.1)
                have hB := ((hblk.set (u := .slice none 0 0) 0).set (u := .int .i64 0) 1).set (u := .int .i64 3) 2
                have d0 := hB.cell 0
                have d1 := hB.cell 1
                have d2 := hB.cell 2
                exact bodyPost_ret (v := .agg #[.slice none 0 0, .int .i64 0, .int .i64 3]) (by simp [results, Tryd.results15, go_sem, d0, d1, d2]) rfl ⟨_, by rw [hf.1], by rw [hf.2]; exact World.ownsRow_nil _ _ _ _, ((hbw0.setCell (by simp) _).setCell (by simp) _).setCell (by simp) _⟩
              · have hdn : decide (Lib.indexByte signs s[k] < 0) = false := by simpa using hneg
                have hsvI : Lib.indexByte signs s[k] = (sv s[k] : Int) := by unfold sv; omega
                have hsv := sv_lt s[k]
                have Hsign2 : Hid (allSign (s.data.toList.take (k + 1)) = true) := allSign_snoc s.data.toList k (by simpa using hks) Hsign.out (by show 0 ≤ Lib.indexByte signs s[k]; omega)
                have Hst : Hid (dread (s.data.toList.take (k + 1)) = dstep (n, b, o) (sv s[k])) := by
                  show dread (s.data.toList.take (k + 1)) = dstep (n, b, o) (sv s[k])
                  rw [take_snoc _ _ (by simpa using hks), dread_snoc, Hn.out, Hb.out, Ho.out]
                  rfl
                obtain ⟨q, Hq⟩ : ∃ q, Hid (q = sv s[k]) := ⟨_, Lib.hid rfl⟩
                rw [← Hq.out] at hsvI hsv
                clear hidx hidx64 hidx1 hneg
                by_cases hb0 : b = 0
                · subst hb0
                  have hstep : Hid (dread (s.data.toList.take (k + 1)) = (64 * n + q, 6, o)) := by
                    show _ = _
                    rw [Hst.out, Hq.out]; rfl
                  go_wp2_with (go_at_call 36; refine (find_sign _ _).mono ?_; rintro e w' ⟨rfl, rfl⟩)
                  go_roundw
                  case rel => exact ⟨k + 1, by omega, by go_num, by rw [hstep.out]; go_num, by rw [hstep.out]; rfl, by rw [hstep.out]; exact hown, by rw [hstep.out]; exact Nat.le_succ_of_le hol, Hsign2, hbw⟩
                  case measure => simp [intOf]; omega
                · have hb1 : 2 ≤ b := by omega
                  have hd8 : decide ((8 : Int) ≤ (b : Int) + 6) = true := by simp; omega
                  have hstep : Hid (dread (s.data.toList.take (k + 1)) = ((64 * n + q) % 2 ^ (b + 6 - 8), b + 6 - 8, o ++ [UInt8.ofNat ((64 * n + q) / 2 ^ (b + 6 - 8))])) := by
                    show _ = _
                    rw [Hst.out, Hq.out, dstep, if_pos (by show 8 ≤ b + 6; omega)]
                  go_wp2_with (go_at_call 36; refine (find_sign _ _).mono ?_; rintro e w' ⟨rfl, rfl⟩)
                  go_loop [9, 10] (fun x i => ∃ j : Nat, j ≤ b + 6 - 8 ∧ i = .int .i64 j ∧ x = .int .i64 ((2 ^ j : Nat) : Int)) (fun _ i => b + 6 - 8 - (intOf i).toNat)
                  case atStart => exact ⟨0, by omega, rfl, rfl⟩
                  case round =>
                    obtain ⟨j, hj, rfl, rfl⟩ := hrel
                    obtain ⟨P2, HP⟩ : ∃ P2, Hid (P2 = 2 ^ j) := ⟨_, Lib.hid rfl⟩
                    have hP64 : P2 ≤ 64 := by rw [HP.out]; have := Nat.pow_le_pow_right (n := 2) (by omega) (show j ≤ 6 by omega); omega
                    have hP1 : 1 ≤ P2 := by rw [HP.out]; exact Nat.two_pow_pos j
                    rw [← HP.out]
                    by_cases hjb : j < b + 6 - 8
                    · go_wp2
                      go_round
                      case rel => exact ⟨j + 1, by omega, by go_num, by rw [Nat.pow_succ, ← HP.out]; go_num⟩
                      case measure => simp [intOf]; omega
                    · obtain ⟨b8, Hb8⟩ : ∃ b8 : UInt8, Hid (b8 = UInt8.ofNat ((64 * n + q) / P2)) := ⟨_, rfl⟩
                      have hval : (64 * (n : Int) + (q : Int)) / (P2 : Int) % 256 = (b8.toNat : Int) := by rw [Hb8.out]; simp
                      have hjb2 : Hid (j = b + 6 - 8) := by show j = b + 6 - 8; omega
                      have hrem : (64 * (n : Int) + (q : Int)) % (P2 : Int) = (((64 * n + q) % P2 : Nat) : Int) := by simp
                      go_wp2_with (at_builtin; refine wpList_append8 rfl _ _ _ _ rfl Tryd.underlying22 u8info (w.heap.size + 1) u4 o.length _ rfl (hown.alloc _) _ 1 1 [b8] rfl (SB.made wo [b8] _ _ rfl (by unfold maxLen; simp)) (by omega) (by simp; omega) ?_; intro v4 w4 hown4 hb4 hg4)
                      have hb5 : Below (w.heap.size + 1) (w.alloc (.cells #[.slice none 0 0, .int .i64 0, .int .i64 0] 28)) w4 := (hbw.alloc hsz _).trans hb4
                      have hP3 : (2 : Nat) ^ (b + 6 - 8) = P2 := by rw [← hjb2.out, ← HP.out]
                      go_roundw
                      case rel =>
                        refine ⟨k + 1, by omega, by go_num, ?_, ?_, ?_, ?_, Hsign2, hb5⟩
                        · rw [hstep.out, hP3]; first | rfl | go_num
                        · rw [hstep.out]; go_num
                        · rw [hstep.out, hP3, ← Hb8.out]; simpa using hown4
                        · show (dread (s.data.toList.take (k + 1))).2.2.length ≤ k + 1
                          rw [hstep.out]; simp; exact hol
                      case measure => simp [intOf]; omega
            · obtain rfl : k = E := by omega
              have hdk : decide ((k : Int) < (k : Int)) = false := by simp
              have Hraw : Hid (o = rraw s.data.toList) := by
                show o = rraw s.data.toList
                unfold rraw
                rw [← HEnd.out]
                exact Ho.out
              obtain ⟨A4, cap4, rfl⟩ := own_form hown
              have hsbo := SB.of_own hown
              by_cases heq2 : base64L o = s.data.toList
              · have hbe : (base64L o == s.toList) = true := by rw [ByteArray.toList_eq]; simpa using heq2
                have Hf := Lib.hid (ref_ok s.data.toList Hl4.out (by rw [← Hraw.out]; exact heq2))
                clear heq2
                go_wp2_with fail
                refine (rbase64_any _ _ _ hsbo (by omega)).mono ?_
                rintro e w5 ⟨rfl, hb5⟩
                have hblk5 := hblk.below hb5 hblk.lt
                have e0 : w5.cell? ⟨w.heap.size, 0, none⟩ = some (.slice none 0 0) := hblk5.cell 0
                have e1 : w5.cell? ⟨w.heap.size, 1, none⟩ = some (.int .i64 0) := hblk5.cell 1
                have e2 : w5.cell? ⟨w.heap.size, 2, none⟩ = some (.int .i64 0) := hblk5.cell 2
                have g0 := hblk5.frozen 0
                have g1 := hblk5.frozen 1
                have g2 := hblk5.frozen 2
                have hbw5 : Below w.heap.size w w5 := below_trans hbw0 hb5
                go_wp2
                have hB := ((hblk5.set (u := .slice A4 o.length cap4) 0).set (u := .int .i64 0) 1).set (u := .int .i64 0) 2
                have d0 := hB.cell 0
                have d1 := hB.cell 1
                have d2 := hB.cell 2
                refine bodyPost_ret (v := .agg #[.slice A4 o.length cap4, .int .i64 0, .int .i64 0]) (by simp [results, Tryd.results15, go_sem, d0, d1, d2]) rfl ⟨_, by rw [Hf.out.1], ?_, ((hbw5.setCell (by simp) _).setCell (by simp) _).setCell (by simp) _⟩
                rw [Hf.out.2, ← Hraw.out]
                have h1 := ownsRow_setCell_below (ownsRow_setCell_below (ownsRow_setCell_below (own_below hown hb5) (a := ⟨w.heap.size, 0, none⟩) (by simp) (.slice A4 o.length cap4)) (a := ⟨w.heap.size, 1, none⟩) (by simp) (.int .i64 0)) (a := ⟨w.heap.size, 2, none⟩) (by simp) (.int .i64 0)
                exact own_base h1 (by omega)
              · have hbe : (base64L o == s.toList) = false := by rw [ByteArray.toList_eq]; simpa using heq2
                have Hf := Lib.hid (ref_form s.data.toList Hl4.out (by rw [← Hraw.out]; exact fun hh => heq2 hh.2))
                clear heq2
                go_wp2_with fail
                refine (rbase64_any _ _ _ hsbo (by omega)).mono ?_
                rintro e w5 ⟨rfl, hb5⟩
                have hblk5 := hblk.below hb5 hblk.lt
                have e0 : w5.cell? ⟨w.heap.size, 0, none⟩ = some (.slice none 0 0) := hblk5.cell 0
                have e1 : w5.cell? ⟨w.heap.size, 1, none⟩ = some (.int .i64 0) := hblk5.cell 1
                have e2 : w5.cell? ⟨w.heap.size, 2, none⟩ = some (.int .i64 0) := hblk5.cell 2
                have g0 := hblk5.frozen 0
                have g1 := hblk5.frozen 1
                have g2 := hblk5.frozen 2
                have hbw5 : Below w.heap.size w w5 := below_trans hbw0 hb5
                go_wp2
                have hB := ((hblk5.set (u := .slice none 0 0) 0).set (u := .int .i64 0) 1).set (u := .int .i64 3) 2
                have d0 := hB.cell 0
                have d1 := hB.cell 1
                have d2 := hB.cell 2
                refine bodyPost_ret (v := .agg #[.slice none 0 0, .int .i64 0, .int .i64 3]) (by simp [results, Tryd.results15, go_sem, d0, d1, d2]) rfl ⟨_, by rw [Hf.out.1], ?_, ((hbw5.setCell (by simp) _).setCell (by simp) _).setCell (by simp) _⟩
                rw [Hf.out.2]
                exact World.ownsRow_nil _ _ _ _
        · have hd1 : decide (0 < (E : Int)) = true := by simp; omega
          have hd2 : decide ((s.size : Int) - (E : Int) < 2) = false := by simp; omega
          have hsz3 : s.size ≤ E + 2 := by omega
          have hsz4 : E + 2 ≤ s.size := by omega
          clear hsz2
          go_wp2
          go_loopw [4, 5, 6, 7] (fun v n b i wr => ∃ k : Nat, k ≤ E ∧ i = .int .i64 k ∧ n = .int .i64 ((dread (s.data.toList.take k)).1 : Int) ∧ b = .int .i64 ((dread (s.data.toList.take k)).2.1 : Int) ∧
              wr.ownsRow (w.heap.size + 1) 5 1 v (dread (s.data.toList.take k)).2.2.length (bvs (dread (s.data.toList.take k)).2.2) ∧ Hid ((dread (s.data.toList.take k)).2.2.length ≤ k) ∧ Hid (allSign (s.data.toList.take k) = true) ∧
              Below (w.heap.size + 1) (w.alloc (.cells #[.slice none 0 0, .int .i64 0, .int .i64 0] 28)) wr) (fun _ _ _ i _ => E - (intOf i).toNat)
          case atStart => exact ⟨0, by omega, rfl, rfl, rfl, World.ownsRow_nil _ _ _ _, Nat.le_refl 0, rfl, Below.refl _ _⟩
          case round =>
            obtain ⟨k, hk, rfl, rfl, rfl, hown, Hlen, Hsign, hbw⟩ := hrel
            obtain ⟨wo, rfl⟩ : ∃ wo : World, wo = wr := ⟨_, rfl⟩
            have hsz : w.heap.size + 1 ≤ wo.heap.size := by have := hbw.size; simpa using this
            have Hinv := Lib.hid (dread_inv (s.data.toList.take k))
            obtain ⟨n, Hn⟩ : ∃ n, Hid (n = (dread (s.data.toList.take k)).1) := ⟨_, rfl⟩
            obtain ⟨b, Hb⟩ : ∃ b, Hid (b = (dread (s.data.toList.take k)).2.1) := ⟨_, rfl⟩
            obtain ⟨o, Ho⟩ : ∃ o, Hid (o = (dread (s.data.toList.take k)).2.2) := ⟨_, rfl⟩
            rw [← Hn.out, ← Hb.out]
            rw [← Ho.out] at hown Hlen
            have hol : o.length ≤ k := Hlen.out
            have hb6 : b ≤ 6 := by rw [Hb.out]; exact Hinv.out.2.1
            have hb2 : b % 2 = 0 := by rw [Hb.out]; exact Hinv.out.2.2
            have hn64 : n < 64 := by
              have h1 := Hinv.out.1
              have h2 := Nat.pow_le_pow_right (n := 2) (by omega) Hinv.out.2.1
              rw [Hn.out]; omega
            have hblk : Blk wo w.heap.size 28 #[.slice none 0 0, .int .i64 0, .int .i64 0] := (Blk.new w _ _).below hbw (by omega)
            have hc0 : wo.cell? ⟨w.heap.size, 0, none⟩ = some (.slice none 0 0) := hblk.cell 0
            have hc1 : wo.cell? ⟨w.heap.size, 1, none⟩ = some (.int .i64 0) := hblk.cell 1
            have hc2 : wo.cell? ⟨w.heap.size, 2, none⟩ = some (.int .i64 0) := hblk.cell 2
            have hf0 := hblk.frozen 0
            have hf1 := hblk.frozen 1
            have hf2 := hblk.frozen 2
            have hbw0 : Below w.heap.size w wo := ((Below.refl _ _).alloc (Nat.le_refl _) _).trans (hbw.mono (by omega))
            by_cases hkE : k < E
            · have hks : k < s.size := by omega
              have hdk : decide ((k : Int) < (E : Int)) = true := by simp; omega
              have hidx := indexByte_lt signs s[k]
              have hidx64 : Lib.indexByte signs s[k] < 64 := hidx
              have hidx1 := Lib.indexByte_ge signs s[k]
              by_cases hneg : Lib.indexByte signs s[k] < 0
              · have hdn : decide (Lib.indexByte signs s[k] < 0) = true := by simpa using hneg
                go_wp2_with (go_at_call 36; refine (find_sign _ _).mono ?_; rintro e w' ⟨rfl, rfl⟩)
                have hf := ref_form s.data.toList Hl4.out (fun hh => allSign_not s.data.toList k _ (by simpa using hks) (by rw [← HEnd.out]; exact hkE) hneg hh.1)
                have hB := ((hblk.set (u := .slice none 0 0) 0).set (u := .int .i64 0) 1).set (u := .int .i64 3) 2
                have d0 := hB.cell 0
                have d1 := hB.cell 1
                have d2 := hB.cell 2
                exact bodyPost_ret (v := .agg #[.slice none 0 0, .int .i64 0, .int .i64 3]) (by simp [results, Tryd.results15, go_sem, d0, d1, d2]) rfl ⟨_, by rw [hf.1], by rw [hf.2]; exact World.ownsRow_nil _ _ _ _, ((hbw0.setCell (by simp) _).setCell (by simp) _).setCell (by simp) _⟩
              · have hdn : decide (Lib.indexByte signs s[k] < 0) = false := by simpa using hneg
                have hsvI : Lib.indexByte signs s[k] = (sv s[k] : Int) := by unfold sv; omega
                have hsv := sv_lt s[k]
                have Hsign2 : Hid (allSign (s.data.toList.take (k + 1)) = true) := allSign_snoc s.data.toList k (by simpa using hks) Hsign.out (by show 0 ≤ Lib.indexByte signs s[k]; omega)
                have Hst : Hid (dread (s.data.toList.take (k + 1)) = dstep (n, b, o) (sv s[k])) := by
                  show dread (s.data.toList.take (k + 1)) = dstep (n, b, o) (sv s[k])
                  rw [take_snoc _ _ (by simpa using hks), dread_snoc, Hn.out, Hb.out, Ho.out]
                  rfl
                obtain ⟨q, Hq⟩ : ∃ q, Hid (q = sv s[k]) := ⟨_, Lib.hid rfl⟩
                rw [← Hq.out] at hsvI hsv
                clear hidx hidx64 hidx1 hneg
                by_cases hb0 : b = 0
                · subst hb0
                  have hstep : Hid (dread (s.data.toList.take (k + 1)) = (64 * n + q, 6, o)) := by
                    show _ = _
                    rw [Hst.out, Hq.out]; rfl
                  go_wp2_with (go_at_call 36; refine (find_sign _ _).mono ?_; rintro e w' ⟨rfl, rfl⟩)
                  go_roundw
                  case rel => exact ⟨k + 1, by omega, by go_num, by rw [hstep.out]; go_num, by rw [hstep.out]; rfl, by rw [hstep.out]; exact hown, by rw [hstep.out]; exact Nat.le_succ_of_le hol, Hsign2, hbw⟩
                  case measure => simp [intOf]; omega
                · have hb1 : 2 ≤ b := by omega
                  have hd8 : decide ((8 : Int) ≤ (b : Int) + 6) = true := by simp; omega
                  have hstep : Hid (dread (s.data.toList.take (k + 1)) = ((64 * n + q) % 2 ^ (b + 6 - 8), b + 6 - 8, o ++ [UInt8.ofNat ((64 * n + q) / 2 ^ (b + 6 - 8))])) := by
                    show _ = _
                    rw [Hst.out, Hq.out, dstep, if_pos (by show 8 ≤ b + 6; omega)]
                  go_wp2_with (go_at_call 36; refine (find_sign _ _).mono ?_; rintro e w' ⟨rfl, rfl⟩)
                  go_loop [9, 10] (fun x i => ∃ j : Nat, j ≤ b + 6 - 8 ∧ i = .int .i64 j ∧ x = .int .i64 ((2 ^ j : Nat) : Int)) (fun _ i => b + 6 - 8 - (intOf i).toNat)
                  case atStart => exact ⟨0, by omega, rfl, rfl⟩
                  case round =>
                    obtain ⟨j, hj, rfl, rfl⟩ := hrel
                    obtain ⟨P2, HP⟩ : ∃ P2, Hid (P2 = 2 ^ j) := ⟨_, Lib.hid rfl⟩
                    have hP64 : P2 ≤ 64 := by rw [HP.out]; have := Nat.pow_le_pow_right (n := 2) (by omega) (show j ≤ 6 by omega); omega
                    have hP1 : 1 ≤ P2 := by rw [HP.out]; exact Nat.two_pow_pos j
                    rw [← HP.out]
                    by_cases hjb : j < b + 6 - 8
                    · go_wp2
                      go_round
                      case rel => exact ⟨j + 1, by omega, by go_num, by rw [Nat.pow_succ, ← HP.out]; go_num⟩
                      case measure => simp [intOf]; omega
                    · obtain ⟨b8, Hb8⟩ : ∃ b8 : UInt8, Hid (b8 = UInt8.ofNat ((64 * n + q) / P2)) := ⟨_, rfl⟩
                      have hval : (64 * (n : Int) + (q : Int)) / (P2 : Int) % 256 = (b8.toNat : Int) := by rw [Hb8.out]; simp
                      have hjb2 : Hid (j = b + 6 - 8) := by show j = b + 6 - 8; omega
                      have hrem : (64 * (n : Int) + (q : Int)) % (P2 : Int) = (((64 * n + q) % P2 : Nat) : Int) := by simp
                      go_wp2_with (at_builtin; refine wpList_append8 rfl _ _ _ _ rfl Tryd.underlying22 u8info (w.heap.size + 1) u4 o.length _ rfl (hown.alloc _) _ 1 1 [b8] rfl (SB.made wo [b8] _ _ rfl (by unfold maxLen; simp)) (by omega) (by simp; omega) ?_; intro v4 w4 hown4 hb4 hg4)
                      have hb5 : Below (w.heap.size + 1) (w.alloc (.cells #[.slice none 0 0, .int .i64 0, .int .i64 0] 28)) w4 := (hbw.alloc hsz _).trans hb4
                      have hP3 : (2 : Nat) ^ (b + 6 - 8) = P2 := by rw [← hjb2.out, ← HP.out]
                      go_roundw
                      case rel =>
                        refine ⟨k + 1, by omega, by go_num, ?_, ?_, ?_, ?_, Hsign2, hb5⟩
                        · rw [hstep.out, hP3]; first | rfl | go_num
                        · rw [hstep.out]; go_num
                        · rw [hstep.out, hP3, ← Hb8.out]; simpa using hown4
                        · show (dread (s.data.toList.take (k + 1))).2.2.length ≤ k + 1
                          rw [hstep.out]; simp; exact hol
                      case measure => simp [intOf]; omega
            · obtain rfl : k = E := by omega
              have hdk : decide ((k : Int) < (k : Int)) = false := by simp
              have Hraw : Hid (o = rraw s.data.toList) := by
                show o = rraw s.data.toList
                unfold rraw
                rw [← HEnd.out]
                exact Ho.out
              obtain ⟨A4, cap4, rfl⟩ := own_form hown
              have hsbo := SB.of_own hown
              by_cases heq2 : base64L o = s.data.toList
              · have hbe : (base64L o == s.toList) = true := by rw [ByteArray.toList_eq]; simpa using heq2
                have Hf := Lib.hid (ref_ok s.data.toList Hl4.out (by rw [← Hraw.out]; exact heq2))
                clear heq2
                go_wp2_with fail
                refine (rbase64_any _ _ _ hsbo (by omega)).mono ?_
                rintro e w5 ⟨rfl, hb5⟩
                have hblk5 := hblk.below hb5 hblk.lt
                have e0 : w5.cell? ⟨w.heap.size, 0, none⟩ = some (.slice none 0 0) := hblk5.cell 0
                have e1 : w5.cell? ⟨w.heap.size, 1, none⟩ = some (.int .i64 0) := hblk5.cell 1
                have e2 : w5.cell? ⟨w.heap.size, 2, none⟩ = some (.int .i64 0) := hblk5.cell 2
                have g0 := hblk5.frozen 0
                have g1 := hblk5.frozen 1
                have g2 := hblk5.frozen 2
                have hbw5 : Below w.heap.size w w5 := below_trans hbw0 hb5
                go_wp2
                have hB := ((hblk5.set (u := .slice A4 o.length cap4) 0).set (u := .int .i64 0) 1).set (u := .int .i64 0) 2
                have d0 := hB.cell 0
                have d1 := hB.cell 1
                have d2 := hB.cell 2
                refine bodyPost_ret (v := .agg #[.slice A4 o.length cap4, .int .i64 0, .int .i64 0]) (by simp [results, Tryd.results15, go_sem, d0, d1, d2]) rfl ⟨_, by rw [Hf.out.1], ?_, ((hbw5.setCell (by simp) _).setCell (by simp) _).setCell (by simp) _⟩
                rw [Hf.out.2, ← Hraw.out]
                have h1 := ownsRow_setCell_below (ownsRow_setCell_below (ownsRow_setCell_below (own_below hown hb5) (a := ⟨w.heap.size, 0, none⟩) (by simp) (.slice A4 o.length cap4)) (a := ⟨w.heap.size, 1, none⟩) (by simp) (.int .i64 0)) (a := ⟨w.heap.size, 2, none⟩) (by simp) (.int .i64 0)
                exact own_base h1 (by omega)
              · have hbe : (base64L o == s.toList) = false := by rw [ByteArray.toList_eq]; simpa using heq2
                have Hf := Lib.hid (ref_form s.data.toList Hl4.out (by rw [← Hraw.out]; exact fun hh => heq2 hh.2))
                clear heq2
                go_wp2_with fail
                refine (rbase64_any _ _ _ hsbo (by omega)).mono ?_
                rintro e w5 ⟨rfl, hb5⟩
                have hblk5 := hblk.below hb5 hblk.lt
                have e0 : w5.cell? ⟨w.heap.size, 0, none⟩ = some (.slice none 0 0) := hblk5.cell 0
                have e1 : w5.cell? ⟨w.heap.size, 1, none⟩ = some (.int .i64 0) := hblk5.cell 1
                have e2 : w5.cell? ⟨w.heap.size, 2, none⟩ = some (.int .i64 0) := hblk5.cell 2
                have g0 := hblk5.frozen 0
                have g1 := hblk5.frozen 1
                have g2 := hblk5.frozen 2
                have hbw5 : Below w.heap.size w w5 := below_trans hbw0 hb5
                go_wp2
                have hB := ((hblk5.set (u := .slice none 0 0) 0).set (u := .int .i64 0) 1).set (u := .int .i64 3) 2
                have d0 := hB.cell 0
                have d1 := hB.cell 1
                have d2 := hB.cell 2
                refine bodyPost_ret (v := .agg #[.slice none 0 0, .int .i64 0, .int .i64 3]) (by simp [results, Tryd.results15, go_sem, d0, d1, d2]) rfl ⟨_, by rw [Hf.out.1], ?_, ((hbw5.setCell (by simp) _).setCell (by simp) _).setCell (by simp) _⟩
                rw [Hf.out.2]
                exact World.ownsRow_nil _ _ _ _
end Go.Proofs.YtkhkminhlpjkgaaDoor

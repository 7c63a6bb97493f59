/- The walk of the law on decimal digits. -/
import Derived.Test.YtkhkminhlpjkgaaDoorCodU
namespace Go.Proofs.YtkhkminhlpjkgaaDoor
open Go.RowKit
theorem dec_two (n : Int) (hn : -9223372036854775808 ≤ n ∧ n ≤ 9223372036854775807) : ∃ t : ByteArray,
    (∀ w, Tab w → Calls Tryd.prog 32 #[.int .i64 n] w fun e w' => e = .returned (.string t) ∧ Below w.heap.size w w') ∧
    (∀ w, Calls Tryd.prog 33 #[.int .i64 n] w fun e w' => e = .returned (.string t) ∧ Below w.heap.size w w') := by
  by_cases h : n < 0
  · exact ⟨_, fun w _ => dec_neg n w h, fun w => rdec_neg n w h⟩
  · obtain ⟨m, rfl⟩ := Int.eq_ofNat_of_zero_le (show 0 ≤ n by omega)
    exact ⟨_, fun w ht => dec_any m w (by omega) ht, fun w => rdec_any m w (by omega)⟩
theorem ud_split (s : ByteArray) : ∃ (N C : Int), Hid (N = udN s.data.toList ∧ C = udCode s.data.toList) ∧ ((C != 0) = true ∨ (C = 0 ∧ ∀ w, Tab w → Calls Tryd.prog 32 #[.int .i64 N] w fun e w' => e = .returned (.string s) ∧ Below w.heap.size w w')) := by
  refine ⟨_, _, Lib.hid ⟨rfl, rfl⟩, ?_⟩
  by_cases hC : udCode s.data.toList = 0
  · refine .inr ⟨hC, fun w ht => ?_⟩
    have h0 : headBad s.data.toList = false := by
      cases h : headBad s.data.toList with
      | false => rfl
      | true => rw [(ud_head _ h).1] at hC; cases hC
    have ha : allDig s.data.toList = true := by
      cases h : allDig s.data.toList with
      | true => rfl
      | false => rw [(ud_form _ h).1] at hC; cases hC
    have hG : decNum s.data.toList ≤ 4611686018427387903 := by
      rcases Nat.lt_or_ge 4611686018427387903 (decNum s.data.toList) with h | h
      · rw [(ud_large _ h0 ha h).1] at hC; cases hC
      · exact h
    rw [(ud_ok _ h0 ha hG).2]
    have h1 := dec_any (decNum s.data.toList) w (by omega) ht
    rw [dec_back _ h0 ha] at h1
    exact h1
  · exact .inl (by simpa using hC)
set_option maxRecDepth 100000 in
set_option maxHeartbeats 2000000 in
theorem law_dec (n : Int) (s : ByteArray) (w : World) (hn : -9223372036854775808 ≤ n ∧ n ≤ 9223372036854775807) (hs : s.size ≤ maxLen) (ht : Tab w) :
    Calls Tryd.prog 8 #[.int .i64 n, .string s] w fun e w' => e = .returned (.bool true) ∧ Below w.heap.size w w' := by
  unfold maxLen at hs
  by_cases hl : 2000 < s.size
  · have hd : decide ((2000 : Int) < (s.size : Int)) = true := by simp; omega
    go_enter Tryd.func8, Tryd.ntmps8
    go_wp2_with (go_at_call 9; refine (awake_any _).mono ?_; rintro e w1 ⟨rfl, hb1⟩)
    go_ret
    exact ⟨rfl, hb1⟩
  · have hd : decide ((2000 : Int) < (s.size : Int)) = false := by simp; omega
    obtain ⟨t, h1, h2⟩ := dec_two n hn
    have H1 := Lib.hid h1
    have H2 := Lib.hid h2
    have HT := Lib.hid ht
    clear h1 h2 hn ht
    obtain ⟨N, C, HNC, h3⟩ := ud_split s
    have cU : Hid (∀ w, Calls Tryd.prog 30 #[.string s] w fun e w' => e = .returned (.tuple #[.int .i64 N, .int .i64 C]) ∧ w = w') := Lib.hid (fun w => by have := undec_any s w (by omega); rw [← HNC.out.1, ← HNC.out.2] at this; exact this)
    have cR : Hid (∀ w, Calls Tryd.prog 31 #[.string s] w fun e w' => e = .returned (.agg #[.slice none 0 0, .int .i64 N, .int .i64 C]) ∧ Below w.heap.size w w') := Lib.hid (fun w => by have := rundec_any s w (by omega); rw [← HNC.out.1, ← HNC.out.2] at this; exact this)
    clear HNC
    rcases h3 with hC | ⟨rfl, h3⟩
    · go_enter Tryd.func8, Tryd.ntmps8
      go_wp2_with (go_at_call 9; refine (awake_any _).mono ?_; rintro e w1 ⟨rfl, hb1⟩)
      refine (cU.out _).mono ?_
      rintro e w2 ⟨rfl, rfl⟩
      go_wp2_with fail
      refine (cR.out _).mono ?_
      rintro e w3 ⟨rfl, hb3⟩
      have q3 := below_trans hb1 hb3
      clear hb1 hb3
      go_wp2_with fail
      refine (H1.out _ (HT.out.below (q3.alloc q3.size _))).mono ?_
      rintro e w4 ⟨rfl, hb4⟩
      have B4 := (Blk.new w3 28 #[.slice none 0 0, .int .i64 N, .int .i64 C]).below hb4 (by simp)
      have q4 := below_trans (q3.alloc q3.size _) hb4
      clear hb4 q3
      go_wp2_with fail
      refine (H2.out _).mono ?_
      rintro e w5 ⟨rfl, hb5⟩
      have B5 := B4.below hb5 B4.lt
      have q5 := below_trans q4 hb5
      have d1 := B5.cell 1
      have d2 := B5.cell 2
      clear hb5 q4 B4
      simp at d1 d2
      go_wp2_with fail
      go_ret
      exact ⟨rfl, q5⟩
    · have H3 := Lib.hid h3
      clear h3
      go_enter Tryd.func8, Tryd.ntmps8
      go_wp2_with (go_at_call 9; refine (awake_any _).mono ?_; rintro e w1 ⟨rfl, hb1⟩)
      refine (cU.out _).mono ?_
      rintro e w2 ⟨rfl, rfl⟩
      go_wp2_with fail
      refine (cR.out _).mono ?_
      rintro e w3 ⟨rfl, hb3⟩
      have q3 := below_trans hb1 hb3
      clear hb1 hb3
      go_wp2_with fail
      refine (H1.out _ (HT.out.below (q3.alloc q3.size _))).mono ?_
      rintro e w4 ⟨rfl, hb4⟩
      have B4 := (Blk.new w3 28 #[.slice none 0 0, .int .i64 N, .int .i64 0]).below hb4 (by simp)
      have q4 := below_trans (q3.alloc q3.size _) hb4
      clear hb4 q3
      go_wp2_with fail
      refine (H2.out _).mono ?_
      rintro e w5 ⟨rfl, hb5⟩
      have B5 := B4.below hb5 B4.lt
      have q5 := below_trans q4 hb5
      have d1 := B5.cell 1
      have d2 := B5.cell 2
      clear hb5 q4 B4
      simp at d1 d2
      go_wp2_with fail
      refine (H3.out _ (HT.out.below q5)).mono ?_
      rintro e w6 ⟨rfl, hb6⟩
      have q6 := below_trans q5 hb6
      go_wp2_with fail
      go_ret
      exact ⟨rfl, q6⟩
end Go.Proofs.YtkhkminhlpjkgaaDoor

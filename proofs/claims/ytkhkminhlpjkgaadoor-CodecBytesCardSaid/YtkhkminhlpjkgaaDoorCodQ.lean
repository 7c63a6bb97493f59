/- The walk of the law on numbers as bytes. -/
import Derived.Test.YtkhkminhlpjkgaaDoorCodP
namespace Go.Proofs.YtkhkminhlpjkgaaDoor
open Go.RowKit
set_option maxHeartbeats 400000 in
theorem rgetle_bad (v : Value) (l : List UInt8) (at_ size : Int) (w : World) (h : SB w v l) (hs : -9223372036854775808 ≤ size ∧ size ≤ 9223372036854775807) (hbad : ¬ (1 ≤ size ∧ size ≤ 8 ∧ 0 ≤ at_ ∧ at_ + size ≤ l.length)) :
    Calls Tryd.prog 29 #[v, .int .i64 at_, .int .i64 size] w fun e w' => e = .returned (.tuple #[.int .u64 0, .bool false]) ∧ w = w' := by
  obtain ⟨A, cap, rfl, h1, h2, h3, h4⟩ := h
  clear h3 h4
  unfold maxLen at h2
  by_cases c1 : size < 1
  · have d1 : decide (size < 1) = true := by simpa using c1
    go_enter Tryd.func29, Tryd.ntmps29
    go_wp2
    go_ret2
    exact ⟨rfl, rfl⟩
  · have d1 : decide (size < 1) = false := by simpa using c1
    by_cases c2 : 8 < size
    · have d2 : decide (8 < size) = true := by simpa using c2
      go_enter Tryd.func29, Tryd.ntmps29
      go_wp2
      go_ret2
      exact ⟨rfl, rfl⟩
    · have d2 : decide (8 < size) = false := by simpa using c2
      by_cases c3 : at_ < 0
      · have d3 : decide (at_ < 0) = true := by simpa using c3
        go_enter Tryd.func29, Tryd.ntmps29
        go_wp2
        go_ret2
        exact ⟨rfl, rfl⟩
      · have d3 : decide (at_ < 0) = false := by simpa using c3
        by_cases c4 : (l.length : Int) < at_
        · have d4 : decide ((l.length : Int) < at_) = true := by simpa using c4
          go_enter Tryd.func29, Tryd.ntmps29
          go_wp2
          go_ret2
          exact ⟨rfl, rfl⟩
        · have d4 : decide ((l.length : Int) < at_) = false := by simpa using c4
          have d5 : decide ((l.length : Int) - at_ < size) = true := by simp; omega
          have d6 : IntKind.i64.wrap ((l.length : Int) - at_) = (l.length : Int) - at_ := i64_in _ (by omega) (by omega)
          go_enter Tryd.func29, Tryd.ntmps29
          go_wp2
          go_ret2
          exact ⟨rfl, rfl⟩
set_option maxHeartbeats 400000 in
theorem rgetle_any (v : Value) (l : List UInt8) (a z : Nat) (w : World) (h : SB w v l) (h1 : 1 ≤ z) (h8 : z ≤ 8) (hz : a + z ≤ l.length) :
    Calls Tryd.prog 29 #[v, .int .i64 (a : Int), .int .i64 (z : Int)] w fun e w' => e = .returned (.tuple #[.int .u64 (leN ((l.drop a).take z) : Int), .bool true]) ∧ Below w.heap.size w w' := by
  obtain ⟨A, cap, rfl, g1, g2, g3, g4⟩ := id h
  clear g3
  unfold maxLen at g2
  have d1 : decide ((z : Int) < 1) = false := by simp; omega
  have d2 : decide (8 < (z : Int)) = false := by simp; omega
  have d3 : decide ((a : Int) < 0) = false := by simp
  have d4 : decide ((l.length : Int) < (a : Int)) = false := by simp; omega
  have d5 : decide ((l.length : Int) - (a : Int) < (z : Int)) = false := by simp; omega
  have d6 : IntKind.i64.wrap ((l.length : Int) - (a : Int)) = (l.length : Int) - (a : Int) := i64_in _ (by omega) (by omega)
  have d7 : IntKind.i64.wrap ((a : Int) + (z : Int)) = (a : Int) + (z : Int) := i64_in _ (by omega) (by omega)
  obtain ⟨A', cap', hrun, hsb⟩ := h.sub_ (P := Tryd.prog) 22 5 Tryd.underlying22 (by kernel_rfl) a z hz
  have hlen : ((l.drop a).take z).length = z := by rw [List.length_take, List.length_drop]; omega
  have Hlen := Lib.hid hlen
  clear hlen g4
  have Hsb := Lib.hid hsb
  clear hsb
  obtain ⟨L, HL⟩ : ∃ L, Hid (L = (l.drop a).take z) := ⟨_, Lib.hid rfl⟩
  rw [← HL.out] at Hlen Hsb ⊢
  clear HL
  go_enter Tryd.func29, Tryd.ntmps29
  go_wp2_with fail
  refine (turned_any _ L _ Hsb.out (by rw [Hlen.out]; omega)).mono ?_
  rintro e w1 ⟨v1, rfl, hown1, hb1⟩
  go_wp2_with fail
  refine (rgetbe_any _ L.reverse 0 z _ (SB.of_own hown1) h1 h8 (by rw [List.length_reverse, Hlen.out]; omega)).mono ?_
  rintro e w2 ⟨rfl, rfl⟩
  go_wp2_with fail
  go_ret2
  exact ⟨by rw [List.take_of_length_le (by rw [List.length_reverse, Hlen.out]; omega), leN_rev]; rfl, hb1⟩
theorem be_same (l : List UInt8) (at_ size : Int) (hs : -9223372036854775808 ≤ size ∧ size ≤ 9223372036854775807) : ∃ (N : Int) (K : Bool),
    (∀ v w, SB w v l → Calls Tryd.prog 26 #[v, .int .i64 at_, .int .i64 size] w fun e w' => e = .returned (.tuple #[.int .u64 N, .bool K]) ∧ w = w') ∧
    (∀ v w, SB w v l → Calls Tryd.prog 27 #[v, .int .i64 at_, .int .i64 size] w fun e w' => e = .returned (.tuple #[.int .u64 N, .bool K]) ∧ w = w') := by
  by_cases h : 1 ≤ size ∧ size ≤ 8 ∧ 0 ≤ at_ ∧ at_ + size ≤ l.length
  · obtain ⟨a, rfl⟩ := Int.eq_ofNat_of_zero_le h.2.2.1
    obtain ⟨z, rfl⟩ := Int.eq_ofNat_of_zero_le (show 0 ≤ size by omega)
    exact ⟨_, _, fun v w hv => getbe_any v l a z w hv (by omega) (by omega) (by omega), fun v w hv => rgetbe_any v l a z w hv (by omega) (by omega) (by omega)⟩
  · exact ⟨_, _, fun v w hv => getbe_bad v l at_ size w hv hs h, fun v w hv => rgetbe_bad v l at_ size w hv hs h⟩
theorem le_same (l : List UInt8) (at_ size : Int) (hs : -9223372036854775808 ≤ size ∧ size ≤ 9223372036854775807) : ∃ (N : Int) (K : Bool),
    (∀ v w, SB w v l → Calls Tryd.prog 28 #[v, .int .i64 at_, .int .i64 size] w fun e w' => e = .returned (.tuple #[.int .u64 N, .bool K]) ∧ w = w') ∧
    (∀ v w, SB w v l → Calls Tryd.prog 29 #[v, .int .i64 at_, .int .i64 size] w fun e w' => e = .returned (.tuple #[.int .u64 N, .bool K]) ∧ Below w.heap.size w w') := by
  by_cases h : 1 ≤ size ∧ size ≤ 8 ∧ 0 ≤ at_ ∧ at_ + size ≤ l.length
  · obtain ⟨a, rfl⟩ := Int.eq_ofNat_of_zero_le h.2.2.1
    obtain ⟨z, rfl⟩ := Int.eq_ofNat_of_zero_le (show 0 ≤ size by omega)
    exact ⟨_, _, fun v w hv => getle_any v l a z w hv (by omega) (by omega) (by omega), fun v w hv => rgetle_any v l a z w hv (by omega) (by omega) (by omega)⟩
  · exact ⟨_, _, fun v w hv => getle_bad v l at_ size w hv hs h, fun v w hv => (rgetle_bad v l at_ size w hv hs h).mono fun e w' hh => ⟨hh.1, by rw [← hh.2]; exact Below.refl _ _⟩⟩
/-- A slice that reads as l. -/
def GivesS (w : World) (l : List UInt8) (e : Ending) (w' : World) : Prop :=
  ∃ A cap, e = .returned (.slice A l.length cap) ∧ SB w' (.slice A l.length cap) l ∧ Below w.heap.size w w'
theorem gives_sb {E : TypeId} {w : World} {l : List UInt8} {e : Ending} {w' : World} (h : GivesB E w (fun v => v) l e w') : GivesS w l e w' := by
  obtain ⟨v, rfl, hown, hb⟩ := h
  obtain ⟨A, cap, rfl⟩ := own_form hown
  exact ⟨A, cap, rfl, SB.of_own hown, hb⟩
theorem gives_none {w : World} {e : Ending} {w' : World} (h : e = .returned (.slice none 0 0) ∧ w = w') : GivesS w [] e w' := by
  obtain ⟨rfl, rfl⟩ := h
  exact ⟨none, 0, rfl, SB.nil _, Below.refl _ _⟩
theorem be_two (n : Nat) (size : Int) (hn : n < 18446744073709551616) : ∃ L : List UInt8,
    (∀ w, Calls Tryd.prog 18 #[.int .u64 (n : Int), .int .i64 size] w (GivesS w L)) ∧
    (∀ w, Calls Tryd.prog 23 #[.int .u64 (n : Int), .int .i64 size] w (GivesS w L.reverse)) ∧
    (∀ w, Calls Tryd.prog 24 #[.int .u64 (n : Int), .int .i64 size] w (GivesS w L)) ∧
    L.length ≤ 8 ∧ ((L = [] ∧ (size < 1 ∨ 8 < size)) ∨ ∃ z : Nat, size = (z : Int) ∧ 1 ≤ z ∧ z ≤ 8 ∧ L = beL n z) := by
  by_cases h : size < 1 ∨ 8 < size
  · exact ⟨[], fun w => (be_none n size w h).mono fun _ _ => gives_none, fun w => (le_none n size w h).mono fun _ _ => gives_none, fun w => (rbe_none n size w h).mono fun _ _ => gives_none, by simp, .inl ⟨rfl, h⟩⟩
  · obtain ⟨z, rfl⟩ := Int.eq_ofNat_of_zero_le (show 0 ≤ size by omega)
    exact ⟨beL n z, fun w => (be_any n z w hn (by omega) (by omega)).mono fun _ _ => gives_sb, fun w => (le_any n z w hn (by omega) (by omega)).mono fun _ _ => gives_sb, fun w => (rbe_any n z w hn (by omega) (by omega)).mono fun _ _ => gives_sb, by rw [beL_length]; omega, .inr ⟨z, rfl, by omega, by omega, rfl⟩⟩
set_option maxRecDepth 100000 in
set_option maxHeartbeats 8000000 in
theorem law_bytes (n : Int) (size : Int) (v : Value) (l : List UInt8) (at_ : Int) (w : World) (hn : 0 ≤ n ∧ n ≤ 18446744073709551615) (hs : -9223372036854775808 ≤ size ∧ size ≤ 9223372036854775807) (h : SB w v l) (ha : -9223372036854775808 ≤ at_ ∧ at_ ≤ 9223372036854775807) :
    Calls Tryd.prog 7 #[.int .u64 n, .int .i64 size, v, .int .i64 at_] w fun e w' => e = .returned (.bool true) ∧ Below w.heap.size w w' := by
  obtain ⟨n, rfl⟩ := Int.eq_ofNat_of_zero_le hn.1
  have hn2 : n < 18446744073709551616 := by omega
  clear hn
  have h' := h
  obtain ⟨A, cap, rfl, hc1, hc2, hc3, hc4⟩ := h'
  clear hc4 hc3
  unfold maxLen at hc2
  by_cases hl : 2000 < l.length
  · have hd : decide ((2000 : Int) < (l.length : Int)) = true := by simp; omega
    go_enter Tryd.func7, Tryd.ntmps7
    go_wp2_with (go_at_call 9; refine (awake_any _).mono ?_; rintro e w1 ⟨rfl, hb1⟩)
    go_ret
    exact ⟨rfl, hb1⟩
  · have hd : decide ((2000 : Int) < (l.length : Int)) = false := by simp; omega
    obtain ⟨L, cBe, cLe, cRbe, hL8, hL⟩ := be_two n size hn2
    have HL := Lib.hid hL
    clear hL
    have CBe := Lib.hid cBe
    have CLe := Lib.hid cLe
    have CRbe := Lib.hid cRbe
    clear cBe cLe cRbe
    have HS := Lib.hid (And.intro hs ha)
    clear hs ha
    go_enter Tryd.func7, Tryd.ntmps7
    go_wp2_with (go_at_call 9; refine (awake_any _).mono ?_; rintro e w1 ⟨rfl, hb1⟩)
    refine (CBe.out _).mono ?_
    rintro e w2 ⟨A2, cap2, rfl, hsb2, hb2⟩
    go_wp2_with fail
    refine (CLe.out _).mono ?_
    rintro e w3 ⟨A3, cap3, rfl, hsb3, hb3⟩
    rw [List.length_reverse] at hsb3
    simp only [List.length_reverse]
    have q3 : Below w.heap.size w w3 := below_trans hb1 (below_trans hb2 hb3)
    have t2 := hsb2.below hb3
    clear hb1 hb2 hb3 hsb2
    go_wp2_with fail
    obtain ⟨sL, HsL⟩ : ∃ sl : ByteArray, Hid (sl = ⟨L.toArray⟩) := ⟨_, Lib.hid rfl⟩
    obtain ⟨sR, HsR⟩ : ∃ sl : ByteArray, Hid (sl = ⟨L.reverse.toArray⟩) := ⟨_, Lib.hid rfl⟩
    have c2 : Hid (∀ w', Below w3.heap.size w3 w' → (convert 22 9 (.slice A2 L.length cap2)).run Tryd.prog w' = .ok (.string sL) w') := Lib.hid (fun w' hb => by rw [HsL.out]; exact str8 (t2.below hb))
    have c3 : Hid (∀ w', Below w3.heap.size w3 w' → (convert 22 9 (.slice A3 L.length cap3)).run Tryd.prog w' = .ok (.string sR) w') := Lib.hid (fun w' hb => by rw [HsR.out]; exact str8 (hsb3.below hb))
    have HT2 := Lib.hid t2
    have Hsb3 := Lib.hid hsb3
    clear t2 hsb3
    refine wp_region_plan (fun w' => (convert 22 9 (.slice A2 L.length cap2)).run Tryd.prog w' = .ok (.string sL) w' ∧ (convert 22 9 (.slice A3 L.length cap3)).run Tryd.prog w' = .ok (.string sR) w') [(false, 0), (false, 1), (false, 2), (false, 3), (true, 4), (true, 5), (false, 6), (false, 7), (false, 8), (false, 9), (false, 10), (false, 11), (true, 12), (true, 13), (true, 14), (false, 15), (false, 16)] (by kernel_rfl) (by kernel_rfl) (⟨c2.out _ (Below.refl _ _).drew, c3.out _ (Below.refl _ _).drew⟩) ?_
    simp only [planOps, List.map, List.getD_cons_zero, List.getD_cons_succ]
    iterate 4 (refine plan_quiet_guarded (v := ?_) (fun w' hw' => ?_) ?_; rotate_left; (focus (go_simp <;> with_reducible rfl)); simp only [Act.put, List.setIfInBounds_toArray, List.set_cons_zero, List.set_cons_succ])
    refine plan_loud_guarded (fun K hK => ?_)
    go_simp
    refine (CRbe.out _).mono ?_
    rintro e w4 ⟨A4, cap4, rfl, hsb4, hb4⟩
    have q4 : Below w3.heap.size w3 w4 := (Below.refl _ _).drew.trans hb4
    refine hK _ _ (⟨c2.out _ q4, c3.out _ q4⟩) ?_
    clear hK K
    (try simp only [Act.put, List.setIfInBounds_toArray, List.set_cons_zero, List.set_cons_succ])
    refine plan_loud_guarded (fun K hK => ?_)
    have hq := str8 hsb4
    rw [← HsL.out] at hq
    go_simp
    refine hK _ _ (⟨c2.out _ q4, c3.out _ q4⟩) ?_
    clear hK K
    (try simp only [Act.put, List.setIfInBounds_toArray, List.set_cons_zero, List.set_cons_succ])
    iterate 6 (refine plan_quiet_guarded (v := ?_) (fun w' hw' => ?_) ?_; rotate_left; (focus (go_simp <;> with_reducible rfl)); simp only [Act.put, List.setIfInBounds_toArray, List.set_cons_zero, List.set_cons_succ])
    refine plan_loud_guarded (fun K hK => ?_)
    go_simp
    refine (CRbe.out _).mono ?_
    rintro e w5 ⟨A5, cap5, rfl, hsb5, hb5⟩
    have q5 := q4.trans (hb5.mono q4.size)
    refine hK _ _ (⟨c2.out _ q5, c3.out _ q5⟩) ?_
    clear hK K
    (try simp only [Act.put, List.setIfInBounds_toArray, List.set_cons_zero, List.set_cons_succ])
    refine plan_loud_guarded (fun K hK => ?_)
    go_simp
    refine (turned_any _ L _ hsb5 (by omega)).mono ?_
    rintro e w6 ⟨v6, rfl, hown6, hb6⟩
    have q6 := q5.trans (hb6.mono q5.size)
    refine hK _ _ (⟨c2.out _ q6, c3.out _ q6⟩) ?_
    clear hK K
    (try simp only [Act.put, List.setIfInBounds_toArray, List.set_cons_zero, List.set_cons_succ])
    refine plan_loud_guarded (fun K hK => ?_)
    have hq2 := str8 (SB.of_own hown6)
    rw [← HsR.out] at hq2
    go_simp
    refine hK _ _ (⟨c2.out _ q6, c3.out _ q6⟩) ?_
    clear hK K
    (try simp only [Act.put, List.setIfInBounds_toArray, List.set_cons_zero, List.set_cons_succ])
    iterate 2 (refine plan_quiet_guarded (v := ?_) (fun w' hw' => ?_) ?_; rotate_left; (focus (go_simp <;> with_reducible rfl)); simp only [Act.put, List.setIfInBounds_toArray, List.set_cons_zero, List.set_cons_succ])
    refine plan_end ?_
    have p6 : Below w.heap.size w w6 := below_trans q3 q6
    have s2 := HT2.out.below q6
    have s3 := Hsb3.out.below q6
    clear hq hq2 hown6 q6 q5 q4 hb4 hb5 hb6 hsb4 hsb5 c2 c3 q3 HT2 Hsb3
    obtain ⟨N1, K1, g1, g2⟩ := be_same l at_ size HS.out.1
    obtain ⟨N2, K2, g3, g4⟩ := le_same l at_ size HS.out.1
    have G1 := Lib.hid g1
    have G2 := Lib.hid g2
    have G3 := Lib.hid g3
    have G4 := Lib.hid g4
    clear g1 g2 g3 g4
    have b6 := h.below p6
    go_wp2_with fail
    refine (G1.out _ _ b6).mono ?_
    rintro e w7 ⟨rfl, rfl⟩
    go_wp2_with fail
    refine (G2.out _ _ b6).mono ?_
    rintro e w7 ⟨rfl, rfl⟩
    go_wp2_with fail
    refine (G3.out _ _ b6).mono ?_
    rintro e w7 ⟨rfl, rfl⟩
    go_wp2_with fail
    refine (G4.out _ _ b6).mono ?_
    rintro e w7 ⟨rfl, hb7⟩
    have p7 := below_trans p6 hb7
    have b7 := b6.below hb7
    have s2' := s2.below hb7
    have s3' := s3.below hb7
    clear hb7 p6 s2 s3 b6
    rcases HL.out with ⟨hL0, hbad⟩ | ⟨z, rfl, hz1, hz8, hLe⟩
    · subst hL0
      by_cases hb1 : size < 1
      · have hd1 : decide (size < 1) = true := by simpa using hb1
        go_wp2_with fail
        go_ret
        exact ⟨rfl, p7⟩
      · have hd1 : decide (size < 1) = false := by simpa using hb1
        have hd2 : decide (8 < size) = true := by simp; omega
        go_wp2_with fail
        go_ret
        exact ⟨rfl, p7⟩
    · have HLz : Hid (L.length = z) := Lib.hid (by rw [hLe, beL_length])
      have HLe := Lib.hid hLe
      clear hLe
      have hd1 : ((L.length : Int) == 0) = false := by rw [HLz.out]; simp; omega
      have e7 : Hid (beN ((((l ++ L)).drop l.length).take z) = beN L) := Lib.hid (by rw [List.drop_left, List.take_of_length_le (by rw [HLz.out]; omega)])
      have e8 : Hid (leN ((((l ++ L.reverse)).drop l.length).take z) = beN L) := Lib.hid (by rw [List.drop_left, List.take_of_length_le (by rw [List.length_reverse, HLz.out]; omega), ← leN_rev, List.reverse_reverse])
      go_wp2_with (first
        | (at_builtin; refine wpList_append8 rfl (.tmp 105) (.tmp 106) _ _ rfl Tryd.underlying22 u8info w7.heap.size (.slice (some ⟨w7.heap.size, 0, none⟩) 0 0) 0 [] rfl (World.ownsRow_made w7 #[] 0 (Nat.le_refl _) (by unfold maxLen; omega) rfl) A l.length cap l rfl (b7.alloc _) (by omega) (by simp) ?_; intro v8 w8 hown8 hb8 hg8)
        | (at_builtin; refine wpList_append8 rfl (.tmp 107) (.tmp 108) _ _ rfl Tryd.underlying22 u8info w7.heap.size v8 (0 + l.length) ([] ++ l) rfl hown8 A2 L.length cap2 L rfl (s2'.below (((Below.refl _ _).alloc (Nat.le_refl _) _).trans hb8)) (by omega) (by have := hb8.size; simp at this; omega) ?_; intro v9 w9 hown9 hb9 hg9))
      have q9 : Below w7.heap.size w7 w9 := ((Below.refl _ _).alloc (Nat.le_refl _) _).trans (hb8.trans hb9)
      have o9 : SB w9 v9 (l ++ L) := SB.of_own (by simpa using hown9)
      have p9 := below_trans p7 q9
      have b9 := b7.below q9
      have s2'' := s2'.below q9
      have s3'' := s3'.below q9
      clear hown8 hb8 hg8 hown9 hb9 hg9 q9 p7 b7 s2' s3'
      refine (getbe_any v9 (l ++ L) l.length z _ o9 hz1 hz8 (by rw [List.length_append, HLz.out]; omega)).mono ?_
      rintro e w10 ⟨rfl, rfl⟩
      rw [e7.out]
      obtain ⟨M, HM⟩ : ∃ M, Hid (M = beN L) := ⟨_, Lib.hid rfl⟩
      rw [← HM.out]
      go_wp2_with (first
        | (at_builtin; refine wpList_append8 rfl (.tmp 119) (.tmp 120) _ _ rfl Tryd.underlying22 u8info w9.heap.size (.slice (some ⟨w9.heap.size, 0, none⟩) 0 0) 0 [] rfl (World.ownsRow_made w9 #[] 0 (Nat.le_refl _) (by unfold maxLen; omega) rfl) A l.length cap l rfl (b9.alloc _) (by omega) (by simp) ?_; intro v10 w10 hown10 hb10 hg10)
        | (at_builtin; refine wpList_append8 rfl (.tmp 121) (.tmp 122) _ _ rfl Tryd.underlying22 u8info w9.heap.size v10 (0 + l.length) ([] ++ l) rfl hown10 A3 L.length cap3 L.reverse rfl (s3''.below (((Below.refl _ _).alloc (Nat.le_refl _) _).trans hb10)) (by omega) (by have := hb10.size; simp at this; omega) ?_; intro v11 w11 hown11 hb11 hg11))
      have q11 : Below w9.heap.size w9 w11 := ((Below.refl _ _).alloc (Nat.le_refl _) _).trans (hb10.trans hb11)
      have o11 : SB w11 v11 (l ++ L.reverse) := SB.of_own (by simpa using hown11)
      have p11 := below_trans p9 q11
      have s11 := s2''.below q11
      clear hown10 hb10 hg10 hown11 hb11 hg11 q11 p9 b9 s2'' s3''
      refine (getle_any v11 (l ++ L.reverse) l.length z _ o11 hz1 hz8 (by rw [List.length_append, List.length_reverse, HLz.out]; omega)).mono ?_
      rintro e w12 ⟨rfl, rfl⟩
      rw [e8.out, ← HM.out]
      have HMn : Hid (M = n % 256 ^ z) := Lib.hid (by rw [HM.out, HLe.out, beN_be])
      have cM : Hid (∀ w, Calls Tryd.prog 18 #[.int .u64 (M : Int), .int .i64 (z : Int)] w (GivesS w L)) := Lib.hid (fun w => by
        have h1 := be_any M z w (by rw [HMn.out]; exact Nat.lt_of_le_of_lt (Nat.mod_le _ _) hn2) hz1 hz8
        rw [show beL M z = L by rw [HMn.out, beL_mod n z z (Nat.le_refl _), ← HLe.out]] at h1
        exact h1.mono fun _ _ => gives_sb)
      have c2 : Hid (∀ w', Below w11.heap.size w11 w' → (convert 22 9 (.slice A2 L.length cap2)).run Tryd.prog w' = .ok (.string sL) w') := Lib.hid (fun w' hb => by rw [HsL.out]; exact str8 (s11.below hb))
      have hlast : decide ((z : Int) < 8) = true ∨ (decide ((z : Int) < 8) = false ∧ M = n) := by
        by_cases h8 : z < 8
        · exact .inl (by simp; omega)
        · refine .inr ⟨by simp; omega, ?_⟩
          obtain rfl : z = 8 := by omega
          rw [HMn.out]
          exact Nat.mod_eq_of_lt (by simpa using hn2)
      have HS11 := Lib.hid s11
      have HO := Lib.hid (And.intro o9 o11)
      clear s11 o9 o11
      go_wp2_with fail
      rcases hlast with hlast | ⟨hlast, hMn⟩
      · refine wp_region_plan (fun w' => (convert 22 9 (.slice A2 L.length cap2)).run Tryd.prog w' = .ok (.string sL) w') [(false, 0), (false, 1), (false, 2), (false, 3), (false, 4), (false, 5), (false, 6), (false, 7), (false, 8), (false, 9), (false, 10), (false, 11), (false, 14), (false, 15), (true, 12), (true, 13), (false, 16), (false, 17), (false, 18), (false, 19), (false, 20), (false, 21), (false, 22), (false, 23), (false, 24), (false, 25), (false, 26), (false, 27)] (by kernel_rfl) (by kernel_rfl) (c2.out _ (Below.refl _ _).drew) ?_
        simp only [planOps, List.map, List.getD_cons_zero, List.getD_cons_succ]
        iterate 14 (refine plan_quiet_guarded (v := ?_) (fun w' hw' => ?_) ?_; rotate_left; (focus (go_simp <;> with_reducible rfl)); simp only [Act.put, List.setIfInBounds_toArray, List.set_cons_zero, List.set_cons_succ])
        refine plan_loud_guarded (fun K hK => ?_)
        go_simp
        refine (cM.out _).mono ?_
        rintro e w13 ⟨A13, cap13, rfl, hsb13, hb13⟩
        have q13 : Below w11.heap.size w11 w13 := (Below.refl _ _).drew.trans hb13
        refine hK _ _ (c2.out _ q13) ?_
        clear hK K
        (try simp only [Act.put, List.setIfInBounds_toArray, List.set_cons_zero, List.set_cons_succ])
        refine plan_loud_guarded (fun K hK => ?_)
        have hq := str8 hsb13
        rw [← HsL.out] at hq
        go_simp
        refine hK _ _ (c2.out _ q13) ?_
        clear hK K
        (try simp only [Act.put, List.setIfInBounds_toArray, List.set_cons_zero, List.set_cons_succ])
        iterate 12 (refine plan_quiet_guarded (v := ?_) (fun w' hw' => ?_) ?_; rotate_left; (focus (go_simp <;> with_reducible rfl)); simp only [Act.put, List.setIfInBounds_toArray, List.set_cons_zero, List.set_cons_succ])
        refine plan_end ?_
        go_wp2_with fail
        go_ret
        exact ⟨rfl, below_trans p11 q13⟩
      · subst hMn
        refine wp_region_plan (fun w' => (convert 22 9 (.slice A2 L.length cap2)).run Tryd.prog w' = .ok (.string sL) w') [(false, 0), (false, 1), (false, 2), (false, 3), (false, 4), (false, 5), (false, 6), (false, 7), (false, 8), (false, 9), (false, 10), (false, 11), (false, 14), (false, 15), (true, 12), (true, 13), (false, 16), (false, 17), (false, 18), (false, 19), (false, 20), (false, 21), (false, 22), (false, 23), (false, 24), (false, 25), (false, 26), (false, 27)] (by kernel_rfl) (by kernel_rfl) (c2.out _ (Below.refl _ _).drew) ?_
        simp only [planOps, List.map, List.getD_cons_zero, List.getD_cons_succ]
        iterate 14 (refine plan_quiet_guarded (v := ?_) (fun w' hw' => ?_) ?_; rotate_left; (focus (go_simp <;> with_reducible rfl)); simp only [Act.put, List.setIfInBounds_toArray, List.set_cons_zero, List.set_cons_succ])
        refine plan_loud_guarded (fun K hK => ?_)
        go_simp
        refine (cM.out _).mono ?_
        rintro e w13 ⟨A13, cap13, rfl, hsb13, hb13⟩
        have q13 : Below w11.heap.size w11 w13 := (Below.refl _ _).drew.trans hb13
        refine hK _ _ (c2.out _ q13) ?_
        clear hK K
        (try simp only [Act.put, List.setIfInBounds_toArray, List.set_cons_zero, List.set_cons_succ])
        refine plan_loud_guarded (fun K hK => ?_)
        have hq := str8 hsb13
        rw [← HsL.out] at hq
        go_simp
        refine hK _ _ (c2.out _ q13) ?_
        clear hK K
        (try simp only [Act.put, List.setIfInBounds_toArray, List.set_cons_zero, List.set_cons_succ])
        iterate 12 (refine plan_quiet_guarded (v := ?_) (fun w' hw' => ?_) ?_; rotate_left; (focus (go_simp <;> with_reducible rfl)); simp only [Act.put, List.setIfInBounds_toArray, List.set_cons_zero, List.set_cons_succ])
        refine plan_end ?_
        go_wp2_with fail
        go_ret
        exact ⟨rfl, below_trans p11 q13⟩
end Go.Proofs.YtkhkminhlpjkgaaDoor

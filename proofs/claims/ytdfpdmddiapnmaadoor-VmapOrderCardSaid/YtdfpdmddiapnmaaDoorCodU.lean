/- Walks of what reads decimal digits. -/
import Derived.Test.YtdfpdmddiapnmaaDoorCodT
namespace Go.Proofs.YtdfpdmddiapnmaaDoor
open Go.RowKit
theorem dig_cases (c : UInt8) (h : isDig c = false) : decide ((c.toNat : Int) < 48) = true ∨ (decide ((c.toNat : Int) < 48) = false ∧ decide (57 < (c.toNat : Int)) = true) := by
  simp only [isDig, Bool.and_eq_false_iff, decide_eq_false_iff_not] at h
  by_cases h1 : c.toNat < 48
  · exact .inl (by simp; omega)
  · exact .inr ⟨by simp; omega, by simp; omega⟩
theorem dig_yes (c : UInt8) (h : isDig c = true) : decide ((c.toNat : Int) < 48) = false ∧ decide (57 < (c.toNat : Int)) = false ∧ ∃ d : Nat, d ≤ 9 ∧ Hid (d = c.toNat - 48) ∧ (c.toNat : Int) - 48 = (d : Int) := by
  simp only [isDig, Bool.and_eq_true, decide_eq_true_eq] at h
  exact ⟨by simp; omega, by simp; omega, c.toNat - 48, by omega, Lib.hid rfl, by omega⟩
theorem headBad_long (s : ByteArray) (h : 1 < s.size) (h0 : s[0].toNat = 48) : headBad s.data.toList = true := by
  obtain ⟨⟨l⟩⟩ := s
  match l, h with
  | c :: d :: r, _ =>
    have : c.toNat = 48 := h0
    simp [headBad, this]
theorem headBad_no (s : ByteArray) (h : 0 < s.size) (h0 : 1 < s.size → ¬ s[0].toNat = 48) : headBad s.data.toList = false := by
  obtain ⟨⟨l⟩⟩ := s
  match l, h, h0 with
  | [c], _, _ => simp [headBad]
  | c :: d :: r, _, h0 =>
    have : ¬ c.toNat = 48 := h0 (by show 1 < (c :: d :: r).length; simp)
    simp [headBad, this]
set_option maxHeartbeats 2000000 in
theorem dnumber_any (s : ByteArray) (w : World) (hs : s.size ≤ 1000000000000) (h0 : headBad s.data.toList = false) (ha : allDig s.data.toList = true) :
    Calls Tryd.prog 95 #[.string s, .int .i64 10] w fun e w' => e = .returned (.agg #[.slice none 0 0, .int .i64 (udN s.data.toList), .int .i64 (udCode s.data.toList)]) ∧ Below w.heap.size w w' := by
  have H0 := Lib.hid (And.intro h0 ha)
  clear h0 ha
  go_enter Tryd.func95, Tryd.ntmps95
  go_wp2
  go_loop [5, 6] (fun m i => ∃ (k N : Nat), k ≤ s.size ∧ i = .int .i64 k ∧ m = .int .i64 (N : Int) ∧ N ≤ 4611686018427387903 ∧ Hid (N = decNum (s.data.toList.take k))) (fun _ i => s.size - (intOf i).toNat)
  case atStart => exact ⟨0, 0, Nat.zero_le _, rfl, rfl, by omega, Lib.hid rfl⟩
  case round =>
    obtain ⟨k, N, hk, rfl, rfl, hN, HN⟩ := hrel
    by_cases hlt : k < s.size
    · have hlt' : k < s.data.toList.length := by simpa using hlt
      have hdig : isDig s[k] = true := List.all_eq_true.1 H0.out.2 s.data.toList[k] (List.getElem_mem hlt')
      obtain ⟨_, _, d, hd9, Hd, hdv⟩ := dig_yes s[k] hdig
      have HS : Hid (10 * N + d = decNum (s.data.toList.take (k + 1))) := Lib.hid (by rw [take_snoc _ _ hlt', decNum_snoc, ← HN.out, Hd.out]; rfl)
      have hq1 : IntKind.i64.wrap (d : Int) = (d : Int) := i64_in _ (by omega) (by omega)
      have hq2 : IntKind.i64.wrap (4611686018427387903 - (d : Int)) = 4611686018427387903 - (d : Int) := i64_in _ (by omega) (by omega)
      by_cases hG : 4611686018427387903 < 10 * N + d
      · have hf := ud_large s.data.toList H0.out.1 H0.out.2 (Nat.lt_of_lt_of_le (by rw [HS.out] at hG; exact hG) (decNum_take _ _))
        have Hf := Lib.hid hf
        clear hf
        by_cases hG1 : 461168601842738790 < N
        · have hg1 : decide ((461168601842738790 : Int) < (N : Int)) = true := by simp; omega
          go_wp2
          have hf := Hf.out
          exact bodyPost_ret (v := .agg #[.slice none 0 0, .int .i64 0, .int .i64 4]) (by simp [results, Tryd.results95, go_sem]) rfl ⟨by rw [hf.1, hf.2], (((Below.refl _ _).alloc (Nat.le_refl _) _))⟩
        · have hg1 : decide ((461168601842738790 : Int) < (N : Int)) = false := by simp; omega
          have hg2 : decide (4611686018427387903 - (d : Int) < (N : Int) * 10) = true := by simp; omega
          have hq3 : IntKind.i64.wrap ((N : Int) * 10) = (N : Int) * 10 := i64_in _ (by omega) (by omega)
          go_wp2
          have hf := Hf.out
          exact bodyPost_ret (v := .agg #[.slice none 0 0, .int .i64 0, .int .i64 4]) (by simp [results, Tryd.results95, go_sem]) rfl ⟨by rw [hf.1, hf.2], (((Below.refl _ _).alloc (Nat.le_refl _) _))⟩
      · have hg1 : decide ((461168601842738790 : Int) < (N : Int)) = false := by simp; omega
        have hg2 : decide (4611686018427387903 - (d : Int) < (N : Int) * 10) = false := by simp; omega
        have hq3 : IntKind.i64.wrap ((N : Int) * 10) = (N : Int) * 10 := i64_in _ (by omega) (by omega)
        have hq4 : IntKind.i64.wrap ((N : Int) * 10 + (d : Int)) = ((10 * N + d : Nat) : Int) := by rw [i64_in _ (by omega) (by omega)]; omega
        go_wp2
        go_round
        case rel => exact ⟨k + 1, 10 * N + d, by omega, by go_num, by go_num, by omega, HS⟩
        case measure => simp [intOf]; omega
    · have hE := HN.out
      rw [List.take_of_length_le (by simp; omega)] at hE
      have Hf := Lib.hid (ud_ok s.data.toList H0.out.1 H0.out.2 (by rw [← hE]; exact hN))
      have HE := Lib.hid hE
      clear hE
      go_wp2
      have hf := Hf.out
      exact bodyPost_ret (v := .agg #[.slice none 0 0, .int .i64 (N : Int), .int .i64 0]) (by simp [results, Tryd.results95, go_sem]) rfl ⟨by rw [hf.1, hf.2, ← HE.out], (((Below.refl _ _).alloc (Nat.le_refl _) _))⟩
set_option maxHeartbeats 2000000 in
theorem undec_any (s : ByteArray) (w : World) (hs : s.size ≤ 1000000000000) :
    Calls Tryd.prog 29 #[.string s] w fun e w' => e = .returned (.tuple #[.int .i64 (udN s.data.toList), .int .i64 (udCode s.data.toList)]) ∧ w = w' := by
  rcases Nat.eq_zero_or_pos s.size with h0 | h0
  · obtain rfl : s = ⟨#[]⟩ := by obtain ⟨a⟩ := s; congr 1; exact Array.eq_empty_of_size_eq_zero h0
    go_enter Tryd.func29, Tryd.ntmps29
    go_wp2
    go_ret2
    exact ⟨rfl, rfl⟩
  · have hne2 : ¬ s.toList = [] := toList_ne s h0
    have hne : s.toList.isEmpty = false := by simpa using hne2
    by_cases h1 : 1 < s.size
    · have hd1 : decide ((1 : Int) < (s.size : Int)) = true := by simp; omega
      by_cases h2 : s[0].toNat = 48
      · have hb : ((s[0].toNat : Int) == 48) = true := by rw [h2]; rfl
        have Hf := Lib.hid (ud_head _ (headBad_long s h1 h2))
        clear h2
        go_enter Tryd.func29, Tryd.ntmps29
        go_wp2
        go_ret2
        exact ⟨by rw [Hf.out.1, Hf.out.2]; rfl, rfl⟩
      · have hb : ((s[0].toNat : Int) == 48) = false := by simp; omega
        have Hhb := Lib.hid (headBad_no s h0 (fun _ => h2))
        clear h2
        go_enter Tryd.func29, Tryd.ntmps29
        go_wp2
        go_loop [4, 5, 22] (fun m lg i => ∃ (k N : Nat) (L : Bool), k ≤ s.size ∧ i = .int .i64 k ∧ m = .int .i64 (N : Int) ∧ lg = .bool L ∧ N ≤ 4611686018427387903 ∧ Hid (allDig (s.data.toList.take k) = true) ∧ Hid ((L = true ∧ 4611686018427387903 < decNum (s.data.toList.take k)) ∨ (L = false ∧ N = decNum (s.data.toList.take k)))) (fun _ _ i => s.size - (intOf i).toNat)
        case atStart => exact ⟨0, 0, false, Nat.zero_le _, rfl, rfl, rfl, by omega, Lib.hid rfl, Lib.hid (.inr ⟨rfl, rfl⟩)⟩
        case round =>
          obtain ⟨k, N, L, hk, rfl, rfl, rfl, hN, HA, HL⟩ := hrel
          by_cases hlt : k < s.size
          · have hlt' : k < s.data.toList.length := by simpa using hlt
            cases hdig : isDig s[k] with
            | false =>
              have Hf := Lib.hid (ud_form s.data.toList (allDig_not s.data.toList k hlt' hdig))
              rcases dig_cases s[k] hdig with q1 | ⟨q1, q2⟩
              all_goals
                go_wp2
                go_ret2
                exact ⟨by rw [Hf.out.1, Hf.out.2]; rfl, rfl⟩
            | true =>
              obtain ⟨q1, q2, d, hd9, Hd, hdv⟩ := dig_yes s[k] hdig
              have HA2 : Hid (allDig (s.data.toList.take (k + 1)) = true) := Lib.hid (allDig_snoc _ k hlt' HA.out hdig)
              have HS : Hid (decNum (s.data.toList.take (k + 1)) = 10 * decNum (s.data.toList.take k) + d) := Lib.hid (by rw [take_snoc _ _ hlt', decNum_snoc, Hd.out]; rfl)
              have hq0 : IntKind.u8.wrap (d : Int) = (d : Int) := u8_in _ (by omega) (by omega)
              have hq1 : IntKind.i64.wrap (d : Int) = (d : Int) := i64_in _ (by omega) (by omega)
              have hq2 : IntKind.i64.wrap (4611686018427387903 - (d : Int)) = 4611686018427387903 - (d : Int) := i64_in _ (by omega) (by omega)
              have hq3 : (4611686018427387903 - (d : Int)).tdiv 10 = (4611686018427387903 - (d : Int)) / 10 := Int.tdiv_eq_ediv_of_nonneg (by omega)
              cases L with
              | true =>
                go_wp2
                go_round
                case rel =>
                  refine ⟨k + 1, N, true, by omega, by go_num, rfl, rfl, hN, HA2, Lib.hid (.inl ⟨rfl, ?_⟩)⟩
                  rcases HL.out with ⟨_, h⟩ | ⟨h, _⟩
                  · rw [HS.out]; omega
                  · cases h
                case measure => simp [intOf]; omega
              | false =>
                have HN : Hid (N = decNum (s.data.toList.take k)) := Lib.hid (by
                  rcases HL.out with ⟨h, _⟩ | ⟨_, h⟩
                  · cases h
                  · exact h)
                by_cases hG : 4611686018427387903 < 10 * N + d
                · have hg : decide ((4611686018427387903 - (d : Int)) / 10 < (N : Int)) = true := by simp; omega
                  go_wp2
                  go_round
                  case rel =>
                    refine ⟨k + 1, N, true, by omega, by go_num, rfl, rfl, hN, HA2, Lib.hid (.inl ⟨rfl, ?_⟩)⟩
                    rw [HS.out, ← HN.out]; omega
                  case measure => simp [intOf]; omega
                · have hg : decide ((4611686018427387903 - (d : Int)) / 10 < (N : Int)) = false := by simp; omega
                  go_wp2
                  go_round
                  case rel =>
                    refine ⟨k + 1, 10 * N + d, false, by omega, by go_num, by go_num, rfl, by omega, HA2, Lib.hid (.inr ⟨rfl, ?_⟩)⟩
                    rw [HS.out, ← HN.out]
                  case measure => simp [intOf]; omega
          · have hA := HA.out
            have hL := HL.out
            rw [List.take_of_length_le (by simp; omega)] at hA hL
            cases L with
            | true =>
              have Hf := Lib.hid (ud_large s.data.toList Hhb.out hA (by rcases hL with ⟨_, h⟩ | ⟨h, _⟩; exact h; cases h))
              clear hA hL
              go_wp2
              go_ret2
              exact ⟨by rw [Hf.out.1, Hf.out.2]; rfl, rfl⟩
            | false =>
              have hN2 : N = decNum s.data.toList := by rcases hL with ⟨h, _⟩ | ⟨_, h⟩; cases h; exact h
              have Hf := Lib.hid (ud_ok s.data.toList Hhb.out hA (by rw [← hN2]; exact hN))
              have HN2 := Lib.hid hN2
              clear hA hL hN2
              go_wp2
              go_ret2
              exact ⟨by rw [Hf.out.1, Hf.out.2, ← HN2.out]; rfl, rfl⟩
    · have hd1 : decide ((1 : Int) < (s.size : Int)) = false := by simp; omega
      have Hhb := Lib.hid (headBad_no s h0 (fun h => absurd h h1))
      go_enter Tryd.func29, Tryd.ntmps29
      go_wp2
      go_loop [4, 5, 22] (fun m lg i => ∃ (k N : Nat) (L : Bool), k ≤ s.size ∧ i = .int .i64 k ∧ m = .int .i64 (N : Int) ∧ lg = .bool L ∧ N ≤ 4611686018427387903 ∧ Hid (allDig (s.data.toList.take k) = true) ∧ Hid ((L = true ∧ 4611686018427387903 < decNum (s.data.toList.take k)) ∨ (L = false ∧ N = decNum (s.data.toList.take k)))) (fun _ _ i => s.size - (intOf i).toNat)
      case atStart => exact ⟨0, 0, false, Nat.zero_le _, rfl, rfl, rfl, by omega, Lib.hid rfl, Lib.hid (.inr ⟨rfl, rfl⟩)⟩
      case round =>
        obtain ⟨k, N, L, hk, rfl, rfl, rfl, hN, HA, HL⟩ := hrel
        by_cases hlt : k < s.size
        · have hlt' : k < s.data.toList.length := by simpa using hlt
          cases hdig : isDig s[k] with
          | false =>
            have Hf := Lib.hid (ud_form s.data.toList (allDig_not s.data.toList k hlt' hdig))
            rcases dig_cases s[k] hdig with q1 | ⟨q1, q2⟩
            all_goals
              go_wp2
              go_ret2
              exact ⟨by rw [Hf.out.1, Hf.out.2]; rfl, rfl⟩
          | true =>
            obtain ⟨q1, q2, d, hd9, Hd, hdv⟩ := dig_yes s[k] hdig
            have HA2 : Hid (allDig (s.data.toList.take (k + 1)) = true) := Lib.hid (allDig_snoc _ k hlt' HA.out hdig)
            have HS : Hid (decNum (s.data.toList.take (k + 1)) = 10 * decNum (s.data.toList.take k) + d) := Lib.hid (by rw [take_snoc _ _ hlt', decNum_snoc, Hd.out]; rfl)
            have hq0 : IntKind.u8.wrap (d : Int) = (d : Int) := u8_in _ (by omega) (by omega)
            have hq1 : IntKind.i64.wrap (d : Int) = (d : Int) := i64_in _ (by omega) (by omega)
            have hq2 : IntKind.i64.wrap (4611686018427387903 - (d : Int)) = 4611686018427387903 - (d : Int) := i64_in _ (by omega) (by omega)
            have hq3 : (4611686018427387903 - (d : Int)).tdiv 10 = (4611686018427387903 - (d : Int)) / 10 := Int.tdiv_eq_ediv_of_nonneg (by omega)
            cases L with
            | true =>
              go_wp2
              go_round
              case rel =>
                refine ⟨k + 1, N, true, by omega, by go_num, rfl, rfl, hN, HA2, Lib.hid (.inl ⟨rfl, ?_⟩)⟩
                rcases HL.out with ⟨_, h⟩ | ⟨h, _⟩
                · rw [HS.out]; omega
                · cases h
              case measure => simp [intOf]; omega
            | false =>
              have HN : Hid (N = decNum (s.data.toList.take k)) := Lib.hid (by
                rcases HL.out with ⟨h, _⟩ | ⟨_, h⟩
                · cases h
                · exact h)
              by_cases hG : 4611686018427387903 < 10 * N + d
              · have hg : decide ((4611686018427387903 - (d : Int)) / 10 < (N : Int)) = true := by simp; omega
                go_wp2
                go_round
                case rel =>
                  refine ⟨k + 1, N, true, by omega, by go_num, rfl, rfl, hN, HA2, Lib.hid (.inl ⟨rfl, ?_⟩)⟩
                  rw [HS.out, ← HN.out]; omega
                case measure => simp [intOf]; omega
              · have hg : decide ((4611686018427387903 - (d : Int)) / 10 < (N : Int)) = false := by simp; omega
                go_wp2
                go_round
                case rel =>
                  refine ⟨k + 1, 10 * N + d, false, by omega, by go_num, by go_num, rfl, by omega, HA2, Lib.hid (.inr ⟨rfl, ?_⟩)⟩
                  rw [HS.out, ← HN.out]
                case measure => simp [intOf]; omega
        · have hA := HA.out
          have hL := HL.out
          rw [List.take_of_length_le (by simp; omega)] at hA hL
          cases L with
          | true =>
            have Hf := Lib.hid (ud_large s.data.toList Hhb.out hA (by rcases hL with ⟨_, h⟩ | ⟨h, _⟩; exact h; cases h))
            clear hA hL
            go_wp2
            go_ret2
            exact ⟨by rw [Hf.out.1, Hf.out.2]; rfl, rfl⟩
          | false =>
            have hN2 : N = decNum s.data.toList := by rcases hL with ⟨h, _⟩ | ⟨_, h⟩; cases h; exact h
            have Hf := Lib.hid (ud_ok s.data.toList Hhb.out hA (by rw [← hN2]; exact hN))
            have HN2 := Lib.hid hN2
            clear hA hL hN2
            go_wp2
            go_ret2
            exact ⟨by rw [Hf.out.1, Hf.out.2, ← HN2.out]; rfl, rfl⟩
set_option maxHeartbeats 2000000 in
theorem rundec_any (s : ByteArray) (w : World) (hs : s.size ≤ 1000000000000) :
    Calls Tryd.prog 73 #[.string s] w fun e w' => e = .returned (.agg #[.slice none 0 0, .int .i64 (udN s.data.toList), .int .i64 (udCode s.data.toList)]) ∧ Below w.heap.size w w' := by
  rcases Nat.eq_zero_or_pos s.size with h0 | h0
  · obtain rfl : s = ⟨#[]⟩ := by obtain ⟨a⟩ := s; congr 1; exact Array.eq_empty_of_size_eq_zero h0
    go_enter Tryd.func73, Tryd.ntmps73
    go_wp2
    exact bodyPost_ret (v := .agg #[.slice none 0 0, .int .i64 0, .int .i64 3]) (by simp [results, Tryd.results73, go_sem]) rfl ⟨rfl, (((Below.refl _ _).alloc (Nat.le_refl _) _))⟩
  · have hne2 : ¬ s.toList = [] := toList_ne s h0
    have hne : s.toList.isEmpty = false := by simpa using hne2
    by_cases hbad : 1 < s.size ∧ s[0].toNat = 48
    · have hd1 : decide ((1 : Int) < (s.size : Int)) = true := by simp; omega
      have hb : ((s[0].toNat : Int) == 48) = true := by rw [hbad.2]; rfl
      have Hf := Lib.hid (ud_head _ (headBad_long s hbad.1 hbad.2))
      clear hbad
      go_enter Tryd.func73, Tryd.ntmps73
      go_wp2
      have hf := Hf.out
      exact bodyPost_ret (v := .agg #[.slice none 0 0, .int .i64 0, .int .i64 3]) (by simp [results, Tryd.results73, go_sem]) rfl ⟨by rw [hf.1, hf.2], (((Below.refl _ _).alloc (Nat.le_refl _) _))⟩
    · have Hhb := Lib.hid (headBad_no s h0 (fun h1 h2 => hbad ⟨h1, h2⟩))
      have hor : (decide ((1 : Int) < (s.size : Int)) = false) ∨ (decide ((1 : Int) < (s.size : Int)) = true ∧ ((s[0].toNat : Int) == 48) = false) := by
        by_cases h1 : 1 < s.size
        · exact .inr ⟨by simp; omega, by simp; intro h; exact hbad ⟨h1, by omega⟩⟩
        · exact .inl (by simp; omega)
      clear hbad
      rcases hor with hd1 | ⟨hd1, hb⟩
      all_goals
        go_enter Tryd.func73, Tryd.ntmps73
        go_wp2
        go_loop [3] (fun i => ∃ k : Nat, k ≤ s.size ∧ i = .int .i64 k ∧ Hid (allDig (s.data.toList.take k) = true)) (fun i => s.size - (intOf i).toNat)
        case atStart => exact ⟨0, Nat.zero_le _, rfl, Lib.hid rfl⟩
        case round =>
          obtain ⟨k, hk, rfl, HA⟩ := hrel
          by_cases hlt : k < s.size
          · have hlt' : k < s.data.toList.length := by simpa using hlt
            cases hdig : isDig s[k] with
            | false =>
              have Hf := Lib.hid (ud_form s.data.toList (allDig_not s.data.toList k hlt' hdig))
              rcases dig_cases s[k] hdig with q1 | ⟨q1, q2⟩
              all_goals
                go_wp2
                have hf := Hf.out
                exact bodyPost_ret (v := .agg #[.slice none 0 0, .int .i64 0, .int .i64 3]) (by simp [results, Tryd.results73, go_sem]) rfl ⟨by rw [hf.1, hf.2], (((Below.refl _ _).alloc (Nat.le_refl _) _))⟩
            | true =>
              obtain ⟨q1, q2, _⟩ := dig_yes s[k] hdig
              have HA2 : Hid (allDig (s.data.toList.take (k + 1)) = true) := Lib.hid (allDig_snoc _ k hlt' HA.out hdig)
              go_wp2
              go_round
              case rel => exact ⟨k + 1, by omega, by go_num, HA2⟩
              case measure => simp [intOf]; omega
          · have hA := HA.out
            rw [List.take_of_length_le (by simp; omega)] at hA
            have HA3 := Lib.hid hA
            clear hA
            go_wp2_with fail
            refine (dnumber_any s _ hs Hhb.out HA3.out).mono ?_
            rintro e w1 ⟨rfl, hb1⟩
            have hblk : Blk w1 w.heap.size 96 #[.slice none 0 0, .int .i64 0, .int .i64 0] := (Blk.new w _ _).below hb1 (by simp)
            have hc0 : w1.cell? ⟨w.heap.size, 0, none⟩ = some (.slice none 0 0) := hblk.cell 0
            have hc1 : w1.cell? ⟨w.heap.size, 1, none⟩ = some (.int .i64 0) := hblk.cell 1
            have hc2 : w1.cell? ⟨w.heap.size, 2, none⟩ = some (.int .i64 0) := hblk.cell 2
            have hf0 := hblk.frozen 0
            have hf1 := hblk.frozen 1
            have hf2 := hblk.frozen 2
            go_wp2_with fail
            have hB := ((hblk.set (u := .slice none 0 0) 0).set (u := .int .i64 (udN s.data.toList)) 1).set (u := .int .i64 (udCode s.data.toList)) 2
            have d0 := hB.cell 0
            have d1 := hB.cell 1
            have d2 := hB.cell 2
            refine bodyPost_ret (v := .agg #[.slice none 0 0, .int .i64 (udN s.data.toList), .int .i64 (udCode s.data.toList)]) (by simp [results, Tryd.results73, go_sem, d0, d1, d2]) rfl ⟨rfl, ?_⟩
            exact ((((((Below.refl _ _).alloc (Nat.le_refl _) _).trans (hb1.mono (by simp))).setCell (by simp) _).setCell (by simp) _).setCell (by simp) _)
end Go.Proofs.YtdfpdmddiapnmaaDoor

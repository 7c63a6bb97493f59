/- The document's number, Undec, Unoctal, upto (tar). Printed by gen_tcd.py. -/
import Derived.Test.YtpheifdpjcppdaaGreatDoorTbAD
namespace Go.Proofs.YtpheifdpjcppdaaGreatDoor
open Go.RowKit
set_option maxHeartbeats 2000000 in
theorem dnumber_any (s : ByteArray) (w : World) (hs : s.size ≤ 1000000000000) (h0 : headBad s.data.toList = false) (ha : allDig s.data.toList = true) :
    Calls Tryz.prog 76 #[.string s, .int .i64 10] w fun e w' => e = .returned (.agg #[.slice none 0 0, .int .i64 (udN s.data.toList), .int .i64 (udCode s.data.toList)]) ∧ Below w.heap.size w w' := by
  have H0 := Lib.hid (And.intro h0 ha)
  clear h0 ha
  go_enter Tryz.func76, Tryz.ntmps76
  go_wp2
  go_loop [5, 6] (fun m i => ∃ (k N : Nat), k ≤ s.size ∧ i = .int .i64 k ∧ m = .int .i64 (N : Int) ∧ N ≤ 4611686018427387903 ∧ Hid (N = decNum (s.data.toList.take k))) (fun _ i => s.size - (intOf i).toNat)
  case atStart => exact ⟨0, 0, Nat.zero_le _, rfl, rfl, by omega, Lib.hid rfl⟩
  case round =>
    obtain ⟨k, N, hk, rfl, rfl, hN, HN⟩ := hrel
    by_cases hlt : k < s.size
    · have hlt' : k < s.data.toList.length := by simpa using hlt
      have hdig : isDig s[k] = true := List.all_eq_true.1 H0.out.2 s.data.toList[k] (List.getElem_mem hlt')
      obtain ⟨_, _, d, hd9, Hd, hdv⟩ := dig_yes s[k] hdig
      have HS : Hid (10 * N + d = decNum (s.data.toList.take (k + 1))) := Lib.hid (by rw [take_snoc _ _ hlt', decNum_snoc, ← HN.out, Hd.out]; rfl)
      have hq1 : IntKind.i64.wrap (d : Int) = (d : Int) := i64_in _ (by omega) (by omega)
      have hq2 : IntKind.i64.wrap (4611686018427387903 - (d : Int)) = 4611686018427387903 - (d : Int) := i64_in _ (by omega) (by omega)
      by_cases hG : 4611686018427387903 < 10 * N + d
      · have hf := ud_large s.data.toList H0.out.1 H0.out.2 (Nat.lt_of_lt_of_le (by rw [HS.out] at hG; exact hG) (decNum_take _ _))
        have Hf := Lib.hid hf
        clear hf
        by_cases hG1 : 461168601842738790 < N
        · have hg1 : decide ((461168601842738790 : Int) < (N : Int)) = true := by simp; omega
          go_wp2
          have hf := Hf.out
          exact bodyPost_ret (v := .agg #[.slice none 0 0, .int .i64 0, .int .i64 4]) (by simp [results, Tryz.results76, go_sem]) rfl ⟨by rw [hf.1, hf.2], (((Below.refl _ _).alloc (Nat.le_refl _) _))⟩
        · have hg1 : decide ((461168601842738790 : Int) < (N : Int)) = false := by simp; omega
          have hg2 : decide (4611686018427387903 - (d : Int) < (N : Int) * 10) = true := by simp; omega
          have hq3 : IntKind.i64.wrap ((N : Int) * 10) = (N : Int) * 10 := i64_in _ (by omega) (by omega)
          go_wp2
          have hf := Hf.out
          exact bodyPost_ret (v := .agg #[.slice none 0 0, .int .i64 0, .int .i64 4]) (by simp [results, Tryz.results76, go_sem]) rfl ⟨by rw [hf.1, hf.2], (((Below.refl _ _).alloc (Nat.le_refl _) _))⟩
      · have hg1 : decide ((461168601842738790 : Int) < (N : Int)) = false := by simp; omega
        have hg2 : decide (4611686018427387903 - (d : Int) < (N : Int) * 10) = false := by simp; omega
        have hq3 : IntKind.i64.wrap ((N : Int) * 10) = (N : Int) * 10 := i64_in _ (by omega) (by omega)
        have hq4 : IntKind.i64.wrap ((N : Int) * 10 + (d : Int)) = ((10 * N + d : Nat) : Int) := by rw [i64_in _ (by omega) (by omega)]; omega
        go_wp2
        go_round
        case rel => exact ⟨k + 1, 10 * N + d, by omega, by go_num, by go_num, by omega, HS⟩
        case measure => simp [intOf]; omega
    · have hE := HN.out
      rw [List.take_of_length_le (by simp; omega)] at hE
      have Hf := Lib.hid (ud_ok s.data.toList H0.out.1 H0.out.2 (by rw [← hE]; exact hN))
      have HE := Lib.hid hE
      clear hE
      go_wp2
      have hf := Hf.out
      exact bodyPost_ret (v := .agg #[.slice none 0 0, .int .i64 (N : Int), .int .i64 0]) (by simp [results, Tryz.results76, go_sem]) rfl ⟨by rw [hf.1, hf.2, ← HE.out], (((Below.refl _ _).alloc (Nat.le_refl _) _))⟩
set_option maxHeartbeats 2000000 in
theorem rundec_any (s : ByteArray) (w : World) (hs : s.size ≤ 1000000000000) :
    Calls Tryz.prog 77 #[.string s] w fun e w' => e = .returned (.agg #[.slice none 0 0, .int .i64 (udN s.data.toList), .int .i64 (udCode s.data.toList)]) ∧ Below w.heap.size w w' := by
  rcases Nat.eq_zero_or_pos s.size with h0 | h0
  · obtain rfl : s = ⟨#[]⟩ := by obtain ⟨a⟩ := s; congr 1; exact Array.eq_empty_of_size_eq_zero h0
    go_enter Tryz.func77, Tryz.ntmps77
    go_wp2
    exact bodyPost_ret (v := .agg #[.slice none 0 0, .int .i64 0, .int .i64 3]) (by simp [results, Tryz.results77, go_sem]) rfl ⟨rfl, (((Below.refl _ _).alloc (Nat.le_refl _) _))⟩
  · have hne2 : ¬ s.toList = [] := toList_ne s h0
    have hne : s.toList.isEmpty = false := by simpa using hne2
    by_cases hbad : 1 < s.size ∧ s[0].toNat = 48
    · have hd1 : decide ((1 : Int) < (s.size : Int)) = true := by simp; omega
      have hb : ((s[0].toNat : Int) == 48) = true := by rw [hbad.2]; rfl
      have Hf := Lib.hid (ud_head _ (headBad_long s hbad.1 hbad.2))
      clear hbad
      go_enter Tryz.func77, Tryz.ntmps77
      go_wp2
      have hf := Hf.out
      exact bodyPost_ret (v := .agg #[.slice none 0 0, .int .i64 0, .int .i64 3]) (by simp [results, Tryz.results77, go_sem]) rfl ⟨by rw [hf.1, hf.2], (((Below.refl _ _).alloc (Nat.le_refl _) _))⟩
    · have Hhb := Lib.hid (headBad_no s h0 (fun h1 h2 => hbad ⟨h1, h2⟩))
      have hor : (decide ((1 : Int) < (s.size : Int)) = false) ∨ (decide ((1 : Int) < (s.size : Int)) = true ∧ ((s[0].toNat : Int) == 48) = false) := by
        by_cases h1 : 1 < s.size
        · exact .inr ⟨by simp; omega, by simp; intro h; exact hbad ⟨h1, by omega⟩⟩
        · exact .inl (by simp; omega)
      clear hbad
      rcases hor with hd1 | ⟨hd1, hb⟩
      all_goals
        go_enter Tryz.func77, Tryz.ntmps77
        go_wp2
        go_loop [3] (fun i => ∃ k : Nat, k ≤ s.size ∧ i = .int .i64 k ∧ Hid (allDig (s.data.toList.take k) = true)) (fun i => s.size - (intOf i).toNat)
        case atStart => exact ⟨0, Nat.zero_le _, rfl, Lib.hid rfl⟩
        case round =>
          obtain ⟨k, hk, rfl, HA⟩ := hrel
          by_cases hlt : k < s.size
          · have hlt' : k < s.data.toList.length := by simpa using hlt
            cases hdig : isDig s[k] with
            | false =>
              have Hf := Lib.hid (ud_form s.data.toList (allDig_not s.data.toList k hlt' hdig))
              rcases dig_cases s[k] hdig with q1 | ⟨q1, q2⟩
              all_goals
                go_wp2
                have hf := Hf.out
                exact bodyPost_ret (v := .agg #[.slice none 0 0, .int .i64 0, .int .i64 3]) (by simp [results, Tryz.results77, go_sem]) rfl ⟨by rw [hf.1, hf.2], (((Below.refl _ _).alloc (Nat.le_refl _) _))⟩
            | true =>
              obtain ⟨q1, q2, _⟩ := dig_yes s[k] hdig
              have HA2 : Hid (allDig (s.data.toList.take (k + 1)) = true) := Lib.hid (allDig_snoc _ k hlt' HA.out hdig)
              go_wp2
              go_round
              case rel => exact ⟨k + 1, by omega, by go_num, HA2⟩
              case measure => simp [intOf]; omega
          · have hA := HA.out
            rw [List.take_of_length_le (by simp; omega)] at hA
            have HA3 := Lib.hid hA
            clear hA
            go_wp2_with fail
            refine (dnumber_any s _ hs Hhb.out HA3.out).mono ?_
            rintro e w1 ⟨rfl, hb1⟩
            have hblk : Blk w1 w.heap.size 95 #[.slice none 0 0, .int .i64 0, .int .i64 0] := (Blk.new w _ _).below hb1 (by simp)
            have hc0 : w1.cell? ⟨w.heap.size, 0, none⟩ = some (.slice none 0 0) := hblk.cell 0
            have hc1 : w1.cell? ⟨w.heap.size, 1, none⟩ = some (.int .i64 0) := hblk.cell 1
            have hc2 : w1.cell? ⟨w.heap.size, 2, none⟩ = some (.int .i64 0) := hblk.cell 2
            have hf0 := hblk.frozen 0
            have hf1 := hblk.frozen 1
            have hf2 := hblk.frozen 2
            go_wp2_with fail
            have hB := ((hblk.set (u := .slice none 0 0) 0).set (u := .int .i64 (udN s.data.toList)) 1).set (u := .int .i64 (udCode s.data.toList)) 2
            have d0 := hB.cell 0
            have d1 := hB.cell 1
            have d2 := hB.cell 2
            refine bodyPost_ret (v := .agg #[.slice none 0 0, .int .i64 (udN s.data.toList), .int .i64 (udCode s.data.toList)]) (by simp [results, Tryz.results77, go_sem, d0, d1, d2]) rfl ⟨rfl, ?_⟩
            exact ((((((Below.refl _ _).alloc (Nat.le_refl _) _).trans (hb1.mono (by simp))).setCell (by simp) _).setCell (by simp) _).setCell (by simp) _)
theorem dw_nil (p : UInt8 → Bool) : ∀ l : List UInt8, l.dropWhile p = [] ↔ ∀ c ∈ l, p c = true
  | [] => by simp
  | c :: t => by
    have ih := dw_nil p t
    cases h : p c with
    | true => simp [h, ih]
    | false => simp [h]
theorem trimS_nil (l cs : List UInt8) : Lib.trimS l cs = [] ↔ ∀ c ∈ l, cs.contains c = true := by
  unfold Lib.trimS Lib.trimLeftS Lib.trimRightS
  rw [dw_nil]
  constructor
  · intro h c hc
    have h0 : c ∈ l.reverse := by simpa using hc
    rw [← List.takeWhile_append_dropWhile (p := (cs.contains ·)) (l := l.reverse), List.mem_append] at h0
    rcases h0 with h1 | h1
    · exact List.all_eq_true.1 (List.all_takeWhile) c h1
    · exact h c (by simpa using h1)
  · intro h c hc
    have h1 := List.mem_reverse.1 hc
    have h2 := (List.dropWhile_sublist _).mem h1
    exact h c (by simpa using h2)
theorem uo_big : ∀ (l : List UInt8) (x : Nat × Bool), 576460752303423487 < x.1 → x.2 = true → (l.foldl octStep x).2 = true
  | [], _, _, h => h
  | c :: l, x, h1, h2 => by
    rw [List.foldl_cons]
    exact uo_big l _ (by rw [octStep, if_pos h1]; exact h1) (by rw [octStep, if_pos h1])
theorem uo_past (l : List UInt8) (k : Nat) (h1 : k < l.length) (h2 : 576460752303423487 < (uoF (l.take k)).1) : (uoF l).2 = true := by
  have e : uoF l = (l.drop k).foldl octStep (uoF (l.take k)) := by
    rw [uoF, uoF, ← List.foldl_append, List.take_append_drop]
  rw [e, List.drop_eq_getElem_cons h1, List.foldl_cons]
  exact uo_big _ _ (by rw [octStep, if_pos h2]; exact h2) (by rw [octStep, if_pos h2])
set_option maxHeartbeats 2000000 in
theorem onumber_any (s : ByteArray) (w : World) (hs : s.size ≤ 1000000000000) (ha : ∀ c ∈ s.data.toList, isOct c = true) :
    Calls Tryz.prog 76 #[.string s, .int .i64 8] w fun e w' => e = .returned (.agg #[.slice none 0 0, .int .i64 (if (uoF s.data.toList).2 = true then 0 else ((uoF s.data.toList).1 : Int)), .int .i64 (if (uoF s.data.toList).2 = true then 4 else 0)]) ∧ Below w.heap.size w w' := by
  have H0 := Lib.hid ha
  obtain ⟨rn, HRN⟩ : ∃ r : Int, Hid (r = if (uoF s.data.toList).2 = true then 0 else ((uoF s.data.toList).1 : Int)) := ⟨_, Lib.hid rfl⟩
  obtain ⟨rc, HRC⟩ : ∃ r : Int, Hid (r = if (uoF s.data.toList).2 = true then 4 else 0) := ⟨_, Lib.hid rfl⟩
  rw [← HRN.out, ← HRC.out]
  clear ha
  go_enter Tryz.func76, Tryz.ntmps76
  go_wp2
  go_loop [5, 6] (fun m i => ∃ (k N : Nat), k ≤ s.size ∧ i = .int .i64 k ∧ m = .int .i64 (N : Int) ∧ N ≤ 4611686018427387903 ∧ Hid (uoF (s.data.toList.take k) = (N, false))) (fun _ i => s.size - (intOf i).toNat)
  case atStart => exact ⟨0, 0, Nat.zero_le _, rfl, rfl, by omega, Lib.hid rfl⟩
  case round =>
    obtain ⟨k, N, hk, rfl, rfl, hN, HN⟩ := hrel
    by_cases hlt : k < s.size
    · have hlt' : k < s.data.toList.length := by simpa using hlt
      have hoct : isOct s[k] = true := H0.out s.data.toList[k] (List.getElem_mem hlt')
      simp only [isOct, Bool.and_eq_true, decide_eq_true_eq] at hoct
      obtain ⟨d, Hd⟩ : ∃ d : Nat, Hid (d = s[k].toNat - 48) := ⟨_, Lib.hid rfl⟩
      have hdv : (s[k].toNat : Int) - 48 = (d : Int) := by rw [Hd.out]; omega
      have hd7 : d ≤ 7 := by rw [Hd.out]; omega
      have hq1 : IntKind.i64.wrap (d : Int) = (d : Int) := i64_in _ (by omega) (by omega)
      have hq2 : IntKind.i64.wrap (4611686018427387903 - (d : Int)) = 4611686018427387903 - (d : Int) := i64_in _ (by omega) (by omega)
      clear hoct
      by_cases hG : 576460752303423487 < N
      · have Hf := Lib.hid (uo_past s.data.toList k hlt' (by rw [HN.out]; exact hG))
        have hg1 : decide ((576460752303423487 : Int) < (N : Int)) = true := by simp; omega
        go_wp2
        exact bodyPost_ret (v := .agg #[.slice none 0 0, .int .i64 0, .int .i64 4]) (by simp [results, Tryz.results76, go_sem]) rfl ⟨by rw [HRN.out, HRC.out, Hf.out, if_pos rfl, if_pos rfl], (((Below.refl _ _).alloc (Nat.le_refl _) _))⟩
      · have HS : Hid (uoF (s.data.toList.take (k + 1)) = (8 * N + d, false)) := Lib.hid (by
          rw [take_snoc _ _ hlt', uoF_snoc, HN.out, octStep, if_neg hG, Hd.out, Nat.mul_comm]; rfl)
        have hg1 : decide ((576460752303423487 : Int) < (N : Int)) = false := by simp; omega
        have hg2 : decide (4611686018427387903 - (d : Int) < (N : Int) * 8) = false := by simp; omega
        have hq3 : IntKind.i64.wrap ((N : Int) * 8) = (N : Int) * 8 := i64_in _ (by omega) (by omega)
        have hq4 : IntKind.i64.wrap ((N : Int) * 8 + (d : Int)) = ((8 * N + d : Nat) : Int) := by rw [i64_in _ (by omega) (by omega)]; omega
        go_wp2
        go_round
        case rel => exact ⟨k + 1, 8 * N + d, by omega, by go_num, by go_num, by omega, HS⟩
        case measure => simp [intOf]; omega
    · have hE := HN.out
      rw [List.take_of_length_le (by simp; omega)] at hE
      have HE := Lib.hid hE
      clear hE
      go_wp2
      exact bodyPost_ret (v := .agg #[.slice none 0 0, .int .i64 (N : Int), .int .i64 0]) (by simp [results, Tryz.results76, go_sem]) rfl ⟨by rw [HRN.out, HRC.out, HE.out, if_neg (show ¬ false = true by decide), if_neg (show ¬ false = true by decide)], (((Below.refl _ _).alloc (Nat.le_refl _) _))⟩
set_option maxHeartbeats 4000000 in
theorem runoctal_any (s : ByteArray) (w : World) (hs : s.size ≤ 1000000000000) :
    Calls Tryz.prog 49 #[.string s] w fun e w' => e = .returned (.agg #[.slice none 0 0, .int .i64 (octNum s.data.toList), .int .i64 (octCode s.data.toList)]) ∧ Below w.heap.size w w' := by
  obtain ⟨rn, HRN⟩ : ∃ r : Int, Hid (r = octNum s.data.toList) := ⟨_, Lib.hid rfl⟩
  obtain ⟨rc, HRC⟩ : ∃ r : Int, Hid (r = octCode s.data.toList) := ⟨_, Lib.hid rfl⟩
  rw [← HRN.out, ← HRC.out]
  have hsz : s.data.toList.length = s.size := by simp
  go_enter Tryz.func49, Tryz.ntmps49
  go_wp2
  go_loop [3] (fun i => ∃ k : Nat, k ≤ s.size ∧ i = .int .i64 k ∧ Hid (∀ c ∈ s.data.toList.take k, (c == 32) = true)) (fun i => s.size - (intOf i).toNat)
  case atStart => exact ⟨0, Nat.zero_le _, rfl, Lib.hid (by intro c hc; simp at hc)⟩
  case round =>
    obtain ⟨k, hk, rfl, HA⟩ := hrel
    have h3 : (k < s.size ∧ ∃ h : k < s.size, s[k] = 32) ∨ (s.size ≤ k) ∨ (∃ h : k < s.size, s[k] ≠ 32) := by
      rcases Nat.lt_or_ge k s.size with h | h
      · by_cases h2 : s[k] = 32
        · exact .inl ⟨h, h, h2⟩
        · exact .inr (.inr ⟨h, h2⟩)
      · exact .inr (.inl h)
    have HTL : (s.size ≤ k) ∨ (∃ h : k < s.size, s[k] ≠ 32) → Hid (Lib.trimLeftB s.data.toList 32 = s.data.toList.drop k) := fun hh => Lib.hid (tw_oct (· == 32) _ k HA.out (by
      rcases hh with h | ⟨h, h2⟩
      · exact .inl (by omega)
      · exact .inr ⟨by omega, beq_false_of_ne h2⟩)).2
    rcases h3 with ⟨hlt, _, he⟩ | hx
    · have hb : ((s[k].toNat : Int) == 32) = true := by rw [he]; rfl
      have HA2 : Hid (∀ c ∈ s.data.toList.take (k + 1), (c == 32) = true) := Lib.hid (by
        rw [take_snoc _ _ (by omega)]
        intro c hc
        rcases List.mem_append.1 hc with h | h
        · exact HA.out c h
        · rw [List.mem_singleton.1 h]; exact beq_iff_eq.2 he)
      clear HTL he
      go_wp2
      go_round
      case rel => exact ⟨k + 1, by omega, by go_num, HA2⟩
      case measure => simp [intOf]; omega
    · have HT := HTL hx
      clear HTL HA
      have hx2 : (s.size ≤ k) ∨ (∃ h : k < s.size, ((s[k].toNat : Int) == 32) = false) := by
        rcases hx with h | ⟨h, h2⟩
        · exact .inl h
        · exact .inr ⟨h, by rw [show (32 : Int) = (((32 : UInt8).toNat : Nat) : Int) from rfl, beq_byteT]; exact decide_eq_false h2⟩
      clear hx
      rcases hx2 with hx | ⟨hx, hb⟩
      all_goals
        go_wp2_with fail
        go_loop [4] (fun i => ∃ m : Nat, k ≤ m ∧ m ≤ s.size ∧ i = .int .i64 m ∧ Hid (∀ c ∈ (s.data.toList.drop k).take (m - k), isOct c = true)) (fun i => s.size - (intOf i).toNat)
        case atStart => exact ⟨k, Nat.le_refl _, hk, rfl, Lib.hid (by intro c hc; simp at hc)⟩
        case round =>
          obtain ⟨m, hkm, hm, rfl, HB⟩ := hrel
          have h3 : (∃ h : m < s.size, isOct s[m] = true) ∨ (s.size ≤ m) ∨ (∃ h : m < s.size, s[m].toNat < 48) ∨ (∃ h : m < s.size, 48 ≤ s[m].toNat ∧ 55 < s[m].toNat) := by
            rcases Nat.lt_or_ge m s.size with h | h
            · by_cases h48 : s[m].toNat < 48
              · exact .inr (.inr (.inl ⟨h, h48⟩))
              · by_cases h55 : 55 < s[m].toNat
                · exact .inr (.inr (.inr ⟨h, by omega, h55⟩))
                · exact .inl ⟨h, by simp [isOct]; omega⟩
            · exact .inr (.inl h)
          have HTW : (s.size ≤ m) ∨ (∃ h : m < s.size, isOct s[m] = false) → Hid (octDigits s.data.toList = (s.data.toList.drop k).take (m - k) ∧ octRest s.data.toList = s.data.toList.drop m) := fun hh => Lib.hid (by
            unfold octDigits octRest
            rw [HT.out]
            obtain ⟨e1, e2⟩ := tw_oct isOct (s.data.toList.drop k) (m - k) HB.out (by
              rcases hh with h | ⟨h, h2⟩
              · left; rw [List.length_drop]; omega
              · right
                refine ⟨by rw [List.length_drop]; omega, ?_⟩
                rw [List.getElem_drop]
                have e : k + (m - k) = m := by omega
                simp only [e]
                exact h2)
            refine ⟨e1, ?_⟩
            rw [e2, List.drop_drop, show k + (m - k) = m by omega])
          rcases h3 with ⟨hlt, hoct⟩ | hx
          · have HB2 : Hid (∀ c ∈ (s.data.toList.drop k).take (m + 1 - k), isOct c = true) := Lib.hid (by
              rw [show m + 1 - k = (m - k) + 1 by omega, take_snoc _ _ (by rw [List.length_drop]; omega)]
              intro c hc
              rcases List.mem_append.1 hc with h | h
              · exact HB.out c h
              · rw [List.mem_singleton.1 h, List.getElem_drop]
                have e : k + (m - k) = m := by omega
                simp only [e]
                exact hoct)
            simp only [isOct, Bool.and_eq_true, decide_eq_true_eq] at hoct
            have hlo : decide ((48 : Int) ≤ (s[m].toNat : Int)) = true := by simp; omega
            have hhi : decide ((s[m].toNat : Int) ≤ 55) = true := by simp; omega
            clear HTW hoct
            go_wp2
            go_round
            case rel => exact ⟨m + 1, by omega, by omega, by go_num, HB2⟩
            case measure => simp [intOf]; omega
          · have HD := HTW (by
              rcases hx with h | ⟨h, h2⟩ | ⟨h, h2, h3⟩
              · exact .inl h
              · exact .inr ⟨h, by simp [isOct]; omega⟩
              · exact .inr ⟨h, by simp [isOct]; omega⟩)
            have HOC := HB
            clear HTW HB
            have hx2 : (s.size ≤ m) ∨ (∃ h : m < s.size, decide ((48 : Int) ≤ (s[m].toNat : Int)) = false) ∨ (∃ h : m < s.size, decide ((48 : Int) ≤ (s[m].toNat : Int)) = true ∧ decide ((s[m].toNat : Int) ≤ 55) = false) := by
              rcases hx with h | ⟨h, h2⟩ | ⟨h, h2, h3⟩
              · exact .inl h
              · exact .inr (.inl ⟨h, by simp; omega⟩)
              · exact .inr (.inr ⟨h, by simp; omega, by simp; omega⟩)
            clear hx
            rcases hx2 with hy | ⟨hy, hlo⟩ | ⟨hy, hlo, hhi⟩
            all_goals try (exfalso; omega)
            all_goals
              go_wp2_with fail
              go_loop [5] (fun i => ∃ r : Nat, m ≤ r ∧ r ≤ s.size ∧ i = .int .i64 r ∧ Hid (∀ c ∈ (s.data.toList.drop m).take (r - m), c = 32 ∨ c = 0)) (fun i => s.size - (intOf i).toNat)
              case atStart => exact ⟨m, Nat.le_refl _, hm, rfl, Lib.hid (by intro c hc; simp at hc)⟩
              case round =>
                obtain ⟨r, hmr, hr, rfl, HC⟩ := hrel
                have HSN : r < s.size → Hid ((s.data.toList.drop m).take (r + 1 - m) = (s.data.toList.drop m).take (r - m) ++ [s.data.toList.getD r 0]) := fun h => Lib.hid (by
                  have e : m + (r - m) = r := by omega
                  rw [show r + 1 - m = (r - m) + 1 by omega, take_snoc _ _ (by rw [List.length_drop]; omega), List.getElem_drop]
                  simp only [e]
                  rw [List.getD_eq_getElem?_getD, List.getElem?_eq_getElem (by omega)]
                  rfl)
                by_cases hlt : r < s.size
                · first | (exfalso; omega) | skip
                  all_goals
                    have HX : Hid (s.data.toList.getD r 0 = s[r]) := Lib.hid (by
                      rw [List.getD_eq_getElem?_getD, List.getElem?_eq_getElem (by omega)]; rfl)
                    have HS := HSN hlt
                    clear HSN
                    by_cases h32 : s[r] = 32
                    · have q1 : ((s[r].toNat : Int) != 32) = false := by rw [h32]; rfl
                      have HC2 : Hid (∀ c ∈ (s.data.toList.drop m).take (r + 1 - m), c = 32 ∨ c = 0) := Lib.hid (by
                        rw [HS.out]
                        intro c hc
                        rcases List.mem_append.1 hc with h | h
                        · exact HC.out c h
                        · rw [List.mem_singleton.1 h, HX.out]; exact .inl h32)
                      clear h32
                      go_wp2
                      go_round
                      case rel => exact ⟨r + 1, by omega, by omega, by go_num, HC2⟩
                      case measure => simp [intOf]; omega
                    · have q1 : ((s[r].toNat : Int) != 32) = true := by
                        have : ((s[r].toNat : Int) == 32) = false := by rw [show (32 : Int) = (((32 : UInt8).toNat : Nat) : Int) from rfl, beq_byteT]; exact decide_eq_false h32
                        simp only [bne, this, Bool.not_false]
                      by_cases h0 : s[r] = 0
                      · have q2 : ((s[r].toNat : Int) != 0) = false := by rw [h0]; rfl
                        have HC2 : Hid (∀ c ∈ (s.data.toList.drop m).take (r + 1 - m), c = 32 ∨ c = 0) := Lib.hid (by
                          rw [HS.out]
                          intro c hc
                          rcases List.mem_append.1 hc with h | h
                          · exact HC.out c h
                          · rw [List.mem_singleton.1 h, HX.out]; exact .inr h0)
                        clear h0 h32
                        go_wp2
                        go_round
                        case rel => exact ⟨r + 1, by omega, by omega, by go_num, HC2⟩
                        case measure => simp [intOf]; omega
                      · have q2 : ((s[r].toNat : Int) != 0) = true := by
                          have : ((s[r].toNat : Int) == 0) = false := by rw [show (0 : Int) = (((0 : UInt8).toNat : Nat) : Int) from rfl, beq_byteT]; exact decide_eq_false h0
                          simp only [bne, this, Bool.not_false]
                        have HZ : Hid (octCode s.data.toList = 3 ∧ octNum s.data.toList = 0) := Lib.hid (by
                          have hc : octCode s.data.toList = 3 := by
                            rw [octCode, if_neg]
                            rw [HD.out.2, trimS_nil]
                            intro hall
                            have hm2 : s[r] ∈ s.data.toList.drop m := by
                              rw [← HX.out]
                              have : s.data.toList.getD r 0 ∈ (s.data.toList.drop m).take (r + 1 - m) := by rw [HS.out]; simp
                              exact List.mem_of_mem_take this
                            have := hall _ hm2
                            simp [h32, h0] at this
                          exact ⟨hc, by rw [octNum, hc, if_neg (by decide)]⟩)
                        clear h0 h32
                        go_wp2
                        exact bodyPost_ret (v := .agg #[.slice none 0 0, .int .i64 0, .int .i64 3]) (by simp [results, Tryz.results49, go_sem]) rfl ⟨by rw [HRN.out, HRC.out, HZ.out.1, HZ.out.2], (((Below.refl _ _).alloc (Nat.le_refl _) _))⟩
                · have HZ : Hid (Lib.trimS (octRest s.data.toList) [32, 0] = []) := Lib.hid (by
                    have hc := HC.out
                    rw [List.take_of_length_le (by rw [List.length_drop]; omega)] at hc
                    rw [HD.out.2, trimS_nil]
                    intro c h
                    rcases hc c h with h2 | h2 <;> rw [h2] <;> rfl)
                  have HEX : Hid ((s.extract k m).data.toList = octDigits s.data.toList) := Lib.hid (by
                    rw [HD.out.1]
                    simp [ByteArray.data_extract])
                  have HOX : Hid (∀ c ∈ (s.extract k m).data.toList, isOct c = true) := Lib.hid (by
                    rw [HEX.out, HD.out.1]
                    exact HOC.out)
                  clear HSN HC
                  go_wp2_with fail
                  refine (onumber_any (s.extract k m) _ (by rw [ByteArray.size_extract]; omega) HOX.out).mono ?_
                  rintro e w1 ⟨rfl, hb1⟩
                  have hblk : Blk w1 w.heap.size 95 #[.slice none 0 0, .int .i64 0, .int .i64 0] := (Blk.new w _ _).below hb1 (by simp)
                  have hc0 : w1.cell? ⟨w.heap.size, 0, none⟩ = some (.slice none 0 0) := hblk.cell 0
                  have hc1 : w1.cell? ⟨w.heap.size, 1, none⟩ = some (.int .i64 0) := hblk.cell 1
                  have hc2 : w1.cell? ⟨w.heap.size, 2, none⟩ = some (.int .i64 0) := hblk.cell 2
                  have hf0 := hblk.frozen 0
                  have hf1 := hblk.frozen 1
                  have hf2 := hblk.frozen 2
                  have HV : Hid ((if (uoF (s.extract k m).data.toList).2 = true then 0 else ((uoF (s.extract k m).data.toList).1 : Int)) = rn ∧ (if (uoF (s.extract k m).data.toList).2 = true then (4 : Int) else 0) = rc) := Lib.hid (by
                    rw [HRN.out, HRC.out, HEX.out]
                    have hc : octCode s.data.toList = if (uoF (octDigits s.data.toList)).2 = true then 4 else 0 := by rw [octCode, if_pos HZ.out]
                    refine ⟨?_, hc.symm⟩
                    rw [octNum, hc]
                    cases (uoF (octDigits s.data.toList)).2 <;> rfl)
                  rw [HV.out.1, HV.out.2]
                  clear HRN HRC HEX HOX HZ HT HD HOC HV hsz
                  go_wp2_with fail
                  have hB := ((hblk.set (u := .slice none 0 0) 0).set (u := .int .i64 rn) 1).set (u := .int .i64 rc) 2
                  have d0 := hB.cell 0
                  have d1 := hB.cell 1
                  have d2 := hB.cell 2
                  refine bodyPost_ret (v := .agg #[.slice none 0 0, .int .i64 rn, .int .i64 rc]) (by simp [results, Tryz.results49, go_sem, d0, d1, d2]) rfl ⟨rfl, ?_⟩
                  exact ((((((Below.refl _ _).alloc (Nat.le_refl _) _).trans (hb1.mono (by simp))).setCell (by simp) _).setCell (by simp) _).setCell (by simp) _)
end Go.Proofs.YtpheifdpjcppdaaGreatDoor

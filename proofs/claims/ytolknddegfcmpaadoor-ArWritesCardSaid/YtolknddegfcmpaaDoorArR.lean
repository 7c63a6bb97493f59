/- Walks of codec's Undec and Unoctal, at this seat (out of XCodU and XCodF). -/
import Derived.Test.YtolknddegfcmpaaDoorArB
import Derived.Test.YtolknddegfcmpaaDoorCodT
import Derived.Shelf.Strings.SlTrimAscii
namespace Go.Proofs.YtolknddegfcmpaaDoor
open Go.RowKit
theorem dig_cases (c : UInt8) (h : isDig c = false) : decide ((c.toNat : Int) < 48) = true ∨ (decide ((c.toNat : Int) < 48) = false ∧ decide (57 < (c.toNat : Int)) = true) := by
  simp only [isDig, Bool.and_eq_false_iff, decide_eq_false_iff_not] at h
  by_cases h1 : c.toNat < 48
  · exact .inl (by simp; omega)
  · exact .inr ⟨by simp; omega, by simp; omega⟩
theorem dig_yes (c : UInt8) (h : isDig c = true) : decide ((c.toNat : Int) < 48) = false ∧ decide (57 < (c.toNat : Int)) = false ∧ ∃ d : Nat, d ≤ 9 ∧ Hid (d = c.toNat - 48) ∧ (c.toNat : Int) - 48 = (d : Int) := by
  simp only [isDig, Bool.and_eq_true, decide_eq_true_eq] at h
  exact ⟨by simp; omega, by simp; omega, c.toNat - 48, by omega, Lib.hid rfl, by omega⟩
theorem headBad_long (s : ByteArray) (h : 1 < s.size) (h0 : s[0].toNat = 48) : headBad s.data.toList = true := by
  obtain ⟨⟨l⟩⟩ := s
  match l, h with
  | c :: d :: r, _ =>
    have : c.toNat = 48 := h0
    simp [headBad, this]
theorem headBad_no (s : ByteArray) (h : 0 < s.size) (h0 : 1 < s.size → ¬ s[0].toNat = 48) : headBad s.data.toList = false := by
  obtain ⟨⟨l⟩⟩ := s
  match l, h, h0 with
  | [c], _, _ => simp [headBad]
  | c :: d :: r, _, h0 =>
    have : ¬ c.toNat = 48 := h0 (by show 1 < (c :: d :: r).length; simp)
    simp [headBad, this]
set_option maxHeartbeats 2000000 in
theorem undec_any (s : ByteArray) (w : World) (hs : s.size ≤ 1000000000000) :
    Calls Tryd.prog 116 #[.string s] w fun e w' => e = .returned (.tuple #[.int .i64 (udN s.data.toList), .int .i64 (udCode s.data.toList)]) ∧ w = w' := by
  rcases Nat.eq_zero_or_pos s.size with h0 | h0
  · obtain rfl : s = ⟨#[]⟩ := by obtain ⟨a⟩ := s; congr 1; exact Array.eq_empty_of_size_eq_zero h0
    go_enter Tryd.func116, Tryd.ntmps116
    go_wp2
    go_ret2
    exact ⟨rfl, rfl⟩
  · have hne2 : ¬ s.toList = [] := toList_ne s h0
    have hne : s.toList.isEmpty = false := by simpa using hne2
    by_cases h1 : 1 < s.size
    · have hd1 : decide ((1 : Int) < (s.size : Int)) = true := by simp; omega
      by_cases h2 : s[0].toNat = 48
      · have hb : ((s[0].toNat : Int) == 48) = true := by rw [h2]; rfl
        have Hf := Lib.hid (ud_head _ (headBad_long s h1 h2))
        clear h2
        go_enter Tryd.func116, Tryd.ntmps116
        go_wp2
        go_ret2
        exact ⟨by rw [Hf.out.1, Hf.out.2]; rfl, rfl⟩
      · have hb : ((s[0].toNat : Int) == 48) = false := by simp; omega
        have Hhb := Lib.hid (headBad_no s h0 (fun _ => h2))
        clear h2
        go_enter Tryd.func116, Tryd.ntmps116
        go_wp2
        go_loop [4, 5, 22] (fun m lg i => ∃ (k N : Nat) (L : Bool), k ≤ s.size ∧ i = .int .i64 k ∧ m = .int .i64 (N : Int) ∧ lg = .bool L ∧ N ≤ 4611686018427387903 ∧ Hid (allDig (s.data.toList.take k) = true) ∧ Hid ((L = true ∧ 4611686018427387903 < decNum (s.data.toList.take k)) ∨ (L = false ∧ N = decNum (s.data.toList.take k)))) (fun _ _ i => s.size - (intOf i).toNat)
        case atStart => exact ⟨0, 0, false, Nat.zero_le _, rfl, rfl, rfl, by omega, Lib.hid rfl, Lib.hid (.inr ⟨rfl, rfl⟩)⟩
        case round =>
          obtain ⟨k, N, L, hk, rfl, rfl, rfl, hN, HA, HL⟩ := hrel
          by_cases hlt : k < s.size
          · have hlt' : k < s.data.toList.length := by simpa using hlt
            cases hdig : isDig s[k] with
            | false =>
              have Hf := Lib.hid (ud_form s.data.toList (allDig_not s.data.toList k hlt' hdig))
              rcases dig_cases s[k] hdig with q1 | ⟨q1, q2⟩
              all_goals
                go_wp2
                go_ret2
                exact ⟨by rw [Hf.out.1, Hf.out.2]; rfl, rfl⟩
            | true =>
              obtain ⟨q1, q2, d, hd9, Hd, hdv⟩ := dig_yes s[k] hdig
              have HA2 : Hid (allDig (s.data.toList.take (k + 1)) = true) := Lib.hid (allDig_snoc _ k hlt' HA.out hdig)
              have HS : Hid (decNum (s.data.toList.take (k + 1)) = 10 * decNum (s.data.toList.take k) + d) := Lib.hid (by rw [take_snoc _ _ hlt', decNum_snoc, Hd.out]; rfl)
              have hq0 : IntKind.u8.wrap (d : Int) = (d : Int) := u8_in _ (by omega) (by omega)
              have hq1 : IntKind.i64.wrap (d : Int) = (d : Int) := i64_in _ (by omega) (by omega)
              have hq2 : IntKind.i64.wrap (4611686018427387903 - (d : Int)) = 4611686018427387903 - (d : Int) := i64_in _ (by omega) (by omega)
              have hq3 : (4611686018427387903 - (d : Int)).tdiv 10 = (4611686018427387903 - (d : Int)) / 10 := Int.tdiv_eq_ediv_of_nonneg (by omega)
              cases L with
              | true =>
                go_wp2
                go_round
                case rel =>
                  refine ⟨k + 1, N, true, by omega, by go_num, rfl, rfl, hN, HA2, Lib.hid (.inl ⟨rfl, ?_⟩)⟩
                  rcases HL.out with ⟨_, h⟩ | ⟨h, _⟩
                  · rw [HS.out]; omega
                  · cases h
                case measure => simp [intOf]; omega
              | false =>
                have HN : Hid (N = decNum (s.data.toList.take k)) := Lib.hid (by
                  rcases HL.out with ⟨h, _⟩ | ⟨_, h⟩
                  · cases h
                  · exact h)
                by_cases hG : 4611686018427387903 < 10 * N + d
                · have hg : decide ((4611686018427387903 - (d : Int)) / 10 < (N : Int)) = true := by simp; omega
                  go_wp2
                  go_round
                  case rel =>
                    refine ⟨k + 1, N, true, by omega, by go_num, rfl, rfl, hN, HA2, Lib.hid (.inl ⟨rfl, ?_⟩)⟩
                    rw [HS.out, ← HN.out]; omega
                  case measure => simp [intOf]; omega
                · have hg : decide ((4611686018427387903 - (d : Int)) / 10 < (N : Int)) = false := by simp; omega
                  go_wp2
                  go_round
                  case rel =>
                    refine ⟨k + 1, 10 * N + d, false, by omega, by go_num, by go_num, rfl, by omega, HA2, Lib.hid (.inr ⟨rfl, ?_⟩)⟩
                    rw [HS.out, ← HN.out]
                  case measure => simp [intOf]; omega
          · have hA := HA.out
            have hL := HL.out
            rw [List.take_of_length_le (by simp; omega)] at hA hL
            cases L with
            | true =>
              have Hf := Lib.hid (ud_large s.data.toList Hhb.out hA (by rcases hL with ⟨_, h⟩ | ⟨h, _⟩; exact h; cases h))
              clear hA hL
              go_wp2
              go_ret2
              exact ⟨by rw [Hf.out.1, Hf.out.2]; rfl, rfl⟩
            | false =>
              have hN2 : N = decNum s.data.toList := by rcases hL with ⟨h, _⟩ | ⟨_, h⟩; cases h; exact h
              have Hf := Lib.hid (ud_ok s.data.toList Hhb.out hA (by rw [← hN2]; exact hN))
              have HN2 := Lib.hid hN2
              clear hA hL hN2
              go_wp2
              go_ret2
              exact ⟨by rw [Hf.out.1, Hf.out.2, ← HN2.out]; rfl, rfl⟩
    · have hd1 : decide ((1 : Int) < (s.size : Int)) = false := by simp; omega
      have Hhb := Lib.hid (headBad_no s h0 (fun h => absurd h h1))
      go_enter Tryd.func116, Tryd.ntmps116
      go_wp2
      go_loop [4, 5, 22] (fun m lg i => ∃ (k N : Nat) (L : Bool), k ≤ s.size ∧ i = .int .i64 k ∧ m = .int .i64 (N : Int) ∧ lg = .bool L ∧ N ≤ 4611686018427387903 ∧ Hid (allDig (s.data.toList.take k) = true) ∧ Hid ((L = true ∧ 4611686018427387903 < decNum (s.data.toList.take k)) ∨ (L = false ∧ N = decNum (s.data.toList.take k)))) (fun _ _ i => s.size - (intOf i).toNat)
      case atStart => exact ⟨0, 0, false, Nat.zero_le _, rfl, rfl, rfl, by omega, Lib.hid rfl, Lib.hid (.inr ⟨rfl, rfl⟩)⟩
      case round =>
        obtain ⟨k, N, L, hk, rfl, rfl, rfl, hN, HA, HL⟩ := hrel
        by_cases hlt : k < s.size
        · have hlt' : k < s.data.toList.length := by simpa using hlt
          cases hdig : isDig s[k] with
          | false =>
            have Hf := Lib.hid (ud_form s.data.toList (allDig_not s.data.toList k hlt' hdig))
            rcases dig_cases s[k] hdig with q1 | ⟨q1, q2⟩
            all_goals
              go_wp2
              go_ret2
              exact ⟨by rw [Hf.out.1, Hf.out.2]; rfl, rfl⟩
          | true =>
            obtain ⟨q1, q2, d, hd9, Hd, hdv⟩ := dig_yes s[k] hdig
            have HA2 : Hid (allDig (s.data.toList.take (k + 1)) = true) := Lib.hid (allDig_snoc _ k hlt' HA.out hdig)
            have HS : Hid (decNum (s.data.toList.take (k + 1)) = 10 * decNum (s.data.toList.take k) + d) := Lib.hid (by rw [take_snoc _ _ hlt', decNum_snoc, Hd.out]; rfl)
            have hq0 : IntKind.u8.wrap (d : Int) = (d : Int) := u8_in _ (by omega) (by omega)
            have hq1 : IntKind.i64.wrap (d : Int) = (d : Int) := i64_in _ (by omega) (by omega)
            have hq2 : IntKind.i64.wrap (4611686018427387903 - (d : Int)) = 4611686018427387903 - (d : Int) := i64_in _ (by omega) (by omega)
            have hq3 : (4611686018427387903 - (d : Int)).tdiv 10 = (4611686018427387903 - (d : Int)) / 10 := Int.tdiv_eq_ediv_of_nonneg (by omega)
            cases L with
            | true =>
              go_wp2
              go_round
              case rel =>
                refine ⟨k + 1, N, true, by omega, by go_num, rfl, rfl, hN, HA2, Lib.hid (.inl ⟨rfl, ?_⟩)⟩
                rcases HL.out with ⟨_, h⟩ | ⟨h, _⟩
                · rw [HS.out]; omega
                · cases h
              case measure => simp [intOf]; omega
            | false =>
              have HN : Hid (N = decNum (s.data.toList.take k)) := Lib.hid (by
                rcases HL.out with ⟨h, _⟩ | ⟨_, h⟩
                · cases h
                · exact h)
              by_cases hG : 4611686018427387903 < 10 * N + d
              · have hg : decide ((4611686018427387903 - (d : Int)) / 10 < (N : Int)) = true := by simp; omega
                go_wp2
                go_round
                case rel =>
                  refine ⟨k + 1, N, true, by omega, by go_num, rfl, rfl, hN, HA2, Lib.hid (.inl ⟨rfl, ?_⟩)⟩
                  rw [HS.out, ← HN.out]; omega
                case measure => simp [intOf]; omega
              · have hg : decide ((4611686018427387903 - (d : Int)) / 10 < (N : Int)) = false := by simp; omega
                go_wp2
                go_round
                case rel =>
                  refine ⟨k + 1, 10 * N + d, false, by omega, by go_num, by go_num, rfl, by omega, HA2, Lib.hid (.inr ⟨rfl, ?_⟩)⟩
                  rw [HS.out, ← HN.out]
                case measure => simp [intOf]; omega
        · have hA := HA.out
          have hL := HL.out
          rw [List.take_of_length_le (by simp; omega)] at hA hL
          cases L with
          | true =>
            have Hf := Lib.hid (ud_large s.data.toList Hhb.out hA (by rcases hL with ⟨_, h⟩ | ⟨h, _⟩; exact h; cases h))
            clear hA hL
            go_wp2
            go_ret2
            exact ⟨by rw [Hf.out.1, Hf.out.2]; rfl, rfl⟩
          | false =>
            have hN2 : N = decNum s.data.toList := by rcases hL with ⟨h, _⟩ | ⟨_, h⟩; cases h; exact h
            have Hf := Lib.hid (ud_ok s.data.toList Hhb.out hA (by rw [← hN2]; exact hN))
            have HN2 := Lib.hid hN2
            clear hA hL hN2
            go_wp2
            go_ret2
            exact ⟨by rw [Hf.out.1, Hf.out.2, ← HN2.out]; rfl, rfl⟩
def isOct (c : UInt8) : Bool := decide (48 ≤ c.toNat) && decide (c.toNat ≤ 55)
/-- One digit more; what is above 2^62 - 1 is marked. -/
def octStep (x : Nat × Bool) (c : UInt8) : Nat × Bool := if 576460752303423487 < x.1 then (x.1, true) else (x.1 * 8 + (c.toNat - 48), x.2)
def octF (l : List UInt8) : Nat × Bool := l.foldl octStep (0, false)
theorem octF_snoc (l : List UInt8) (c : UInt8) : octF (l ++ [c]) = octStep (octF l) c := by simp [octF]
theorem octF_lt (l : List UInt8) (h : ∀ c ∈ l, isOct c = true) : (octF l).1 < 4611686018427387904 := by
  suffices H : ∀ (l : List UInt8) (x : Nat × Bool), (∀ c ∈ l, isOct c = true) → x.1 < 4611686018427387904 → (l.foldl octStep x).1 < 4611686018427387904 from H l (0, false) h (by decide)
  intro l
  induction l with
  | nil => intro x _ hx; exact hx
  | cons c r ih =>
    intro x hc hx
    refine ih _ (fun d hd => hc d (List.mem_cons_of_mem _ hd)) ?_
    have h1 := hc c (List.mem_cons_self ..)
    simp only [isOct, Bool.and_eq_true, decide_eq_true_eq] at h1
    unfold octStep
    split
    · exact hx
    · show x.1 * 8 + (c.toNat - 48) < _
      omega
def octDigits (l : List UInt8) : List UInt8 := (Lib.trimLeftB l 32).takeWhile isOct
def octRest (l : List UInt8) : List UInt8 := (Lib.trimLeftB l 32).dropWhile isOct
def octCode (l : List UInt8) : Int := if Lib.trimS (octRest l) [32, 0] = [] then (if (octF (octDigits l)).2 = true then 4 else 0) else 3
def octNum (l : List UInt8) : Int := if octCode l = 0 then ((octF (octDigits l)).1 : Int) else 0
theorem trimL (s : ByteArray) (w : World) (hs : s.size ≤ 1000000000000) : Calls Tryd.prog 147 #[.string s, .string ⟨#[32]⟩] w fun e w' =>
    ∃ t : ByteArray, Hid (t.data.toList = Lib.trimLeftB s.data.toList 32) ∧ t.size ≤ s.size ∧ e = .returned (.string t) ∧ w = w' :=
  (Tryd.strings_TrimLeft_one s 32 (by decide) w).mono fun e w' ⟨h1, h2⟩ => ⟨_, by simp [Hid], by
    have : (Lib.trimLeftB s.data.toList 32).length ≤ s.data.toList.length := by unfold Lib.trimLeftB; exact (List.dropWhile_sublist _).length_le
    show (Lib.trimLeftB s.data.toList 32).toArray.size ≤ s.data.size
    rw [List.size_toArray]
    rw [Array.length_toList] at this
    exact this, h1, h2.symm⟩
theorem trimB (s : ByteArray) (w : World) (hs : s.size ≤ 1000000000000) : Calls Tryd.prog 46 #[.string s, .string ⟨#[32, 0]⟩] w fun e w' =>
    ∃ t : ByteArray, Hid (t.data.toList = Lib.trimS s.data.toList [32, 0]) ∧ e = .returned (.string t) ∧ Below w.heap.size w w' := by
  have hcon := Any.strings_Trim_laid Tryd.lays160 (by kernel_rfl) s ⟨#[32, 0]⟩ w (by omega) (by decide) (ascii_of_all (by decide))
  exact Calls.mono (f := 46) hcon fun e w' ⟨h1, h2⟩ => ⟨_, by simp [Hid], h1, h2⟩
theorem tw_oct (p : UInt8 → Bool) (l : List UInt8) (k : Nat) (h : ∀ c ∈ l.take k, p c = true) (he : l.length ≤ k ∨ ∃ hk : k < l.length, p l[k] = false) : l.takeWhile p = l.take k ∧ l.dropWhile p = l.drop k := by
  induction l generalizing k with
  | nil => simp
  | cons c r ih =>
    cases k with
    | zero =>
      rcases he with he | ⟨_, he⟩
      · simp at he
      · have he : p c = false := he
        simp [List.takeWhile_cons, List.dropWhile_cons, he]
    | succ k =>
      have hc : p c = true := h c (by simp)
      have := ih k (fun d hd => h d (by simp [hd])) (by
        rcases he with he | ⟨hk, he⟩
        · left; simpa using he
        · right; exact ⟨by simpa using hk, by simpa using he⟩)
      simp [List.takeWhile_cons, List.dropWhile_cons, hc, this]
set_option maxHeartbeats 1000000 in
theorem unoctal_any (s : ByteArray) (w : World) (hs : s.size ≤ 1000000000000) :
    Calls Tryd.prog 137 #[.string s] w fun e w' => e = .returned (.tuple #[.int .i64 (octNum s.data.toList), .int .i64 (octCode s.data.toList)]) ∧ Below w.heap.size w w' := by
  go_enter Tryd.func137, Tryd.ntmps137
  go_wp2_with (go_at_call 147; refine (trimL _ _ hs).mono ?_; rintro e w' ⟨t, Ht, hts, rfl, rfl⟩)
  go_loop [4, 5, 6] (fun n lg i => ∃ k : Nat, k ≤ t.size ∧ i = .int .i64 k ∧ n = .int .i64 ((octF (t.data.toList.take k)).1 : Int) ∧ lg = .bool (octF (t.data.toList.take k)).2 ∧ Hid (∀ c ∈ t.data.toList.take k, isOct c = true)) (fun _ _ i => t.size - (intOf i).toNat)
  case atStart => exact ⟨0, Nat.zero_le _, rfl, rfl, rfl, by intro c hc; simp at hc⟩
  case round =>
    obtain ⟨k, hk, rfl, rfl, rfl, Hall⟩ := hrel
    have hlt4 := octF_lt (t.data.toList.take k) Hall.out
    obtain ⟨n, Hn⟩ : ∃ n, Hid (n = (octF (t.data.toList.take k)).1) := ⟨_, rfl⟩
    obtain ⟨lg, Hlg⟩ : ∃ lg, Hid (lg = (octF (t.data.toList.take k)).2) := ⟨_, rfl⟩
    rw [← Hn.out] at hlt4 ⊢
    rw [← Hlg.out]
    by_cases hd : k < t.size ∧ ∃ h : k < t.size, isOct t[k] = true
    · obtain ⟨hlt, _, hoct⟩ := hd
      have Htk : Hid (octF (t.data.toList.take (k + 1)) = octStep (n, lg) t[k]) := by
        show octF (t.data.toList.take (k + 1)) = octStep (n, lg) t[k]
        rw [take_snoc _ _ (by simpa using hlt), octF_snoc, Hn.out, Hlg.out]; rfl
      have Hall2 : Hid (∀ c ∈ t.data.toList.take (k + 1), isOct c = true) := by
        show ∀ c ∈ t.data.toList.take (k + 1), isOct c = true
        rw [take_snoc _ _ (by simpa using hlt)]
        intro c hc
        rcases List.mem_append.1 hc with h | h
        · exact Hall.out c h
        · rw [List.mem_singleton.1 h]; exact hoct
      simp only [isOct, Bool.and_eq_true, decide_eq_true_eq] at hoct
      obtain ⟨h48, h55⟩ := hoct
      have hlo : decide ((48 : Int) ≤ (t[k].toNat : Int)) = true := by simp; omega
      have hhi : decide ((t[k].toNat : Int) ≤ 55) = true := by simp; omega
      by_cases hbig : 576460752303423487 < n
      · go_wp2
        go_round
        case rel => exact ⟨k + 1, by omega, by go_num, by rw [Htk.out]; unfold octStep; rw [if_pos hbig], by rw [Htk.out]; unfold octStep; rw [if_pos hbig], Hall2⟩
        case measure => simp [intOf]; omega
      · have hor := bits_or_low 3 (n : Int) ((t[k].toNat : Int) - 48) (by omega) (by omega) (by omega) (by omega) (by omega)
        simp only [show (2 : Int) ^ 3 = 8 from rfl] at hor
        go_wp2
        go_round
        case rel => exact ⟨k + 1, by omega, by go_num, by rw [Htk.out]; unfold octStep; rw [if_neg hbig]; go_num, by rw [Htk.out]; unfold octStep; rw [if_neg hbig], Hall2⟩
        case measure => simp [intOf]; omega
    · have Htw : Hid (octDigits s.data.toList = t.data.toList.take k ∧ octRest s.data.toList = t.data.toList.drop k) := by
        show octDigits s.data.toList = t.data.toList.take k ∧ octRest s.data.toList = t.data.toList.drop k
        unfold octDigits octRest
        rw [← Ht.out]
        refine tw_oct isOct _ k Hall.out ?_
        rcases Nat.lt_or_ge k t.size with h | h
        · right
          refine ⟨by simpa using h, ?_⟩
          rcases Bool.eq_false_or_eq_true (isOct t.data.toList[k]) with h2 | h2
          · exact absurd ⟨h, h, h2⟩ hd
          · exact h2
        · left; simpa using h
      have fin : ∀ (a : Int) (c : Int) (w2 : World), Below w.heap.size w w2 → octNum s.data.toList = a → octCode s.data.toList = c →
          (Ending.returned (.tuple #[.int .i64 a, .int .i64 c]) = .returned (.tuple #[.int .i64 (octNum s.data.toList), .int .i64 (octCode s.data.toList)]) ∧ Below w.heap.size w w2) := fun a c w2 h1 h2 h3 => ⟨by rw [h2, h3], h1⟩
      have Hfin := Lib.hid fin
      clear fin
      have HnD : Hid (octF (octDigits s.data.toList) = (n, lg)) := by
        show octF (octDigits s.data.toList) = (n, lg)
        rw [Htw.out.1, Hn.out, Hlg.out]
      have hcases : t.size ≤ k ∨ (∃ h : k < t.size, t[k].toNat < 48) ∨ (∃ h : k < t.size, 55 < t[k].toNat) := by
        rcases Nat.lt_or_ge k t.size with h | h
        · right
          by_cases h48 : t[k].toNat < 48
          · exact .inl ⟨h, h48⟩
          · refine .inr ⟨h, ?_⟩
            rcases Nat.lt_or_ge 55 t[k].toNat with h55 | h55
            · exact h55
            · exact absurd ⟨h, h, by simp [isOct]; omega⟩ hd
        · exact .inl h
      have Hex : Hid ((t.extract k t.size).data.toList = t.data.toList.drop k) := by
        show (t.extract k t.size).data.toList = t.data.toList.drop k
        simp [ByteArray.data_extract, List.take_of_length_le]
      rcases hcases with hc | ⟨hlt, hc⟩ | ⟨hlt, hc⟩
      all_goals
        clear hd
        go_wp2_with fail
        refine (trimB _ _ (by rw [ByteArray.size_extract]; omega)).mono ?_
        rintro e w2 ⟨t2, Ht2, rfl, hb2⟩
        by_cases he : t2.data.toList = []
        · have he1 : t2.toList = [] := by rw [ByteArray.toList_eq]; exact he
          have Hz : Hid (Lib.trimS (octRest s.data.toList) [32, 0] = []) := by
            show Lib.trimS (octRest s.data.toList) [32, 0] = []
            rw [Htw.out.2, ← Hex.out, ← Ht2.out]; exact he
          clear he
          cases lg with
          | true =>
            go_wp2
            go_ret2
            exact Hfin.out _ _ _ hb2 (by unfold octNum octCode; rw [if_pos Hz.out, HnD.out]; simp) (by unfold octCode; rw [if_pos Hz.out, HnD.out]; simp)
          | false =>
            go_wp2
            go_ret2
            exact Hfin.out _ _ _ hb2 (by unfold octNum octCode; rw [if_pos Hz.out, HnD.out]; simp) (by unfold octCode; rw [if_pos Hz.out, HnD.out]; simp)
        · have he1 : t2.toList.isEmpty = false := by rw [ByteArray.toList_eq]; simpa using he
          have Hz : Hid (¬ Lib.trimS (octRest s.data.toList) [32, 0] = []) := by
            show ¬ Lib.trimS (octRest s.data.toList) [32, 0] = []
            rw [Htw.out.2, ← Hex.out, ← Ht2.out]; exact he
          clear he
          go_wp2
          go_ret2
          exact Hfin.out _ _ _ hb2 (by unfold octNum octCode; rw [if_neg Hz.out]; simp) (by unfold octCode; rw [if_neg Hz.out])
end Go.Proofs.YtolknddegfcmpaaDoor

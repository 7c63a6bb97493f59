/- The walk of codec's Unoctal. -/
import Derived.Test.YtkhkminhlpjkgaaDoorCodE
import Derived.Shelf.Strings.SlTrimAscii
namespace Go.Proofs.YtkhkminhlpjkgaaDoor
open Go.RowKit
def isOct (c : UInt8) : Bool := decide (48 ≤ c.toNat) && decide (c.toNat ≤ 55)
/-- One digit more; what is above 2^62 - 1 is marked. -/
def octStep (x : Nat × Bool) (c : UInt8) : Nat × Bool := if 576460752303423487 < x.1 then (x.1, true) else (x.1 * 8 + (c.toNat - 48), x.2)
def octF (l : List UInt8) : Nat × Bool := l.foldl octStep (0, false)
theorem octF_snoc (l : List UInt8) (c : UInt8) : octF (l ++ [c]) = octStep (octF l) c := by simp [octF]
theorem octF_lt (l : List UInt8) (h : ∀ c ∈ l, isOct c = true) : (octF l).1 < 4611686018427387904 := by
  suffices H : ∀ (l : List UInt8) (x : Nat × Bool), (∀ c ∈ l, isOct c = true) → x.1 < 4611686018427387904 → (l.foldl octStep x).1 < 4611686018427387904 from H l (0, false) h (by decide)
  intro l
  induction l with
  | nil => intro x _ hx; exact hx
  | cons c r ih =>
    intro x hc hx
    refine ih _ (fun d hd => hc d (List.mem_cons_of_mem _ hd)) ?_
    have h1 := hc c (List.mem_cons_self ..)
    simp only [isOct, Bool.and_eq_true, decide_eq_true_eq] at h1
    unfold octStep
    split
    · exact hx
    · show x.1 * 8 + (c.toNat - 48) < _
      omega
def octDigits (l : List UInt8) : List UInt8 := (Lib.trimLeftB l 32).takeWhile isOct
def octRest (l : List UInt8) : List UInt8 := (Lib.trimLeftB l 32).dropWhile isOct
def octCode (l : List UInt8) : Int := if Lib.trimS (octRest l) [32, 0] = [] then (if (octF (octDigits l)).2 = true then 4 else 0) else 3
def octNum (l : List UInt8) : Int := if octCode l = 0 then ((octF (octDigits l)).1 : Int) else 0
theorem trimL (s : ByteArray) (w : World) (hs : s.size ≤ 1000000000000) : Calls Tryd.prog 41 #[.string s, .string ⟨#[32]⟩] w fun e w' =>
    ∃ t : ByteArray, Hid (t.data.toList = Lib.trimLeftB s.data.toList 32) ∧ t.size ≤ s.size ∧ e = .returned (.string t) ∧ w = w' :=
  (Tryd.strings_TrimLeft_one s 32 (by decide) w).mono fun e w' ⟨h1, h2⟩ => ⟨_, by simp [Hid], by
    have : (Lib.trimLeftB s.data.toList 32).length ≤ s.data.toList.length := by unfold Lib.trimLeftB; exact (List.dropWhile_sublist _).length_le
    show (Lib.trimLeftB s.data.toList 32).toArray.size ≤ s.data.size
    rw [List.size_toArray]
    rw [Array.length_toList] at this
    exact this, h1, h2.symm⟩
theorem trimB (s : ByteArray) (w : World) (hs : s.size ≤ 1000000000000) : Calls Tryd.prog 42 #[.string s, .string ⟨#[32, 0]⟩] w fun e w' =>
    ∃ t : ByteArray, Hid (t.data.toList = Lib.trimS s.data.toList [32, 0]) ∧ e = .returned (.string t) ∧ Below w.heap.size w w' := by
  have hcon := Any.strings_Trim_laid Tryd.lays160 (by kernel_rfl) s ⟨#[32, 0]⟩ w (by omega) (by decide) (ascii_of_all (by decide))
  exact Calls.mono (f := 42) hcon fun e w' ⟨h1, h2⟩ => ⟨_, by simp [Hid], h1, h2⟩
theorem tw_all (p : UInt8 → Bool) (l : List UInt8) (k : Nat) (h : ∀ c ∈ l.take k, p c = true) (he : l.length ≤ k ∨ ∃ hk : k < l.length, p l[k] = false) : l.takeWhile p = l.take k ∧ l.dropWhile p = l.drop k := by
  induction l generalizing k with
  | nil => simp
  | cons c r ih =>
    cases k with
    | zero =>
      rcases he with he | ⟨_, he⟩
      · simp at he
      · have he : p c = false := he
        simp [List.takeWhile_cons, List.dropWhile_cons, he]
    | succ k =>
      have hc : p c = true := h c (by simp)
      have := ih k (fun d hd => h d (by simp [hd])) (by
        rcases he with he | ⟨hk, he⟩
        · left; simpa using he
        · right; exact ⟨by simpa using hk, by simpa using he⟩)
      simp [List.takeWhile_cons, List.dropWhile_cons, hc, this]
set_option maxHeartbeats 1000000 in
theorem unoctal_any (s : ByteArray) (w : World) (hs : s.size ≤ 1000000000000) :
    Calls Tryd.prog 34 #[.string s] w fun e w' => e = .returned (.tuple #[.int .i64 (octNum s.data.toList), .int .i64 (octCode s.data.toList)]) ∧ Below w.heap.size w w' := by
  go_enter Tryd.func34, Tryd.ntmps34
  go_wp2_with (go_at_call 41; refine (trimL _ _ hs).mono ?_; rintro e w' ⟨t, Ht, hts, rfl, rfl⟩)
  go_loop [4, 5, 6] (fun n lg i => ∃ k : Nat, k ≤ t.size ∧ i = .int .i64 k ∧ n = .int .i64 ((octF (t.data.toList.take k)).1 : Int) ∧ lg = .bool (octF (t.data.toList.take k)).2 ∧ Hid (∀ c ∈ t.data.toList.take k, isOct c = true)) (fun _ _ i => t.size - (intOf i).toNat)
  case atStart => exact ⟨0, Nat.zero_le _, rfl, rfl, rfl, by intro c hc; simp at hc⟩
  case round =>
    obtain ⟨k, hk, rfl, rfl, rfl, Hall⟩ := hrel
    have hlt4 := octF_lt (t.data.toList.take k) Hall.out
    obtain ⟨n, Hn⟩ : ∃ n, Hid (n = (octF (t.data.toList.take k)).1) := ⟨_, rfl⟩
    obtain ⟨lg, Hlg⟩ : ∃ lg, Hid (lg = (octF (t.data.toList.take k)).2) := ⟨_, rfl⟩
    rw [← Hn.out] at hlt4 ⊢
    rw [← Hlg.out]
    by_cases hd : k < t.size ∧ ∃ h : k < t.size, isOct t[k] = true
    · obtain ⟨hlt, _, hoct⟩ := hd
      have Htk : Hid (octF (t.data.toList.take (k + 1)) = octStep (n, lg) t[k]) := by
        show octF (t.data.toList.take (k + 1)) = octStep (n, lg) t[k]
        rw [take_snoc _ _ (by simpa using hlt), octF_snoc, Hn.out, Hlg.out]; rfl
      have Hall2 : Hid (∀ c ∈ t.data.toList.take (k + 1), isOct c = true) := by
        show ∀ c ∈ t.data.toList.take (k + 1), isOct c = true
        rw [take_snoc _ _ (by simpa using hlt)]
        intro c hc
        rcases List.mem_append.1 hc with h | h
        · exact Hall.out c h
        · rw [List.mem_singleton.1 h]; exact hoct
      simp only [isOct, Bool.and_eq_true, decide_eq_true_eq] at hoct
      obtain ⟨h48, h55⟩ := hoct
      have hlo : decide ((48 : Int) ≤ (t[k].toNat : Int)) = true := by simp; omega
      have hhi : decide ((t[k].toNat : Int) ≤ 55) = true := by simp; omega
      by_cases hbig : 576460752303423487 < n
      · go_wp2
        go_round
        case rel => exact ⟨k + 1, by omega, by go_num, by rw [Htk.out]; unfold octStep; rw [if_pos hbig], by rw [Htk.out]; unfold octStep; rw [if_pos hbig], Hall2⟩
        case measure => simp [intOf]; omega
      · have hor := bits_or_low 3 (n : Int) ((t[k].toNat : Int) - 48) (by omega) (by omega) (by omega) (by omega) (by omega)
        simp only [show (2 : Int) ^ 3 = 8 from rfl] at hor
        go_wp2
        go_round
        case rel => exact ⟨k + 1, by omega, by go_num, by rw [Htk.out]; unfold octStep; rw [if_neg hbig]; go_num, by rw [Htk.out]; unfold octStep; rw [if_neg hbig], Hall2⟩
        case measure => simp [intOf]; omega
    · have Htw : Hid (octDigits s.data.toList = t.data.toList.take k ∧ octRest s.data.toList = t.data.toList.drop k) := by
        show octDigits s.data.toList = t.data.toList.take k ∧ octRest s.data.toList = t.data.toList.drop k
        unfold octDigits octRest
        rw [← Ht.out]
        refine tw_all isOct _ k Hall.out ?_
        rcases Nat.lt_or_ge k t.size with h | h
        · right
          refine ⟨by simpa using h, ?_⟩
          rcases Bool.eq_false_or_eq_true (isOct t.data.toList[k]) with h2 | h2
          · exact absurd ⟨h, h, h2⟩ hd
          · exact h2
        · left; simpa using h
      have fin : ∀ (a : Int) (c : Int) (w2 : World), Below w.heap.size w w2 → octNum s.data.toList = a → octCode s.data.toList = c →
          (Ending.returned (.tuple #[.int .i64 a, .int .i64 c]) = .returned (.tuple #[.int .i64 (octNum s.data.toList), .int .i64 (octCode s.data.toList)]) ∧ Below w.heap.size w w2) := fun a c w2 h1 h2 h3 => ⟨by rw [h2, h3], h1⟩
      have Hfin := Lib.hid fin
      clear fin
      have HnD : Hid (octF (octDigits s.data.toList) = (n, lg)) := by
        show octF (octDigits s.data.toList) = (n, lg)
        rw [Htw.out.1, Hn.out, Hlg.out]
      have hcases : t.size ≤ k ∨ (∃ h : k < t.size, t[k].toNat < 48) ∨ (∃ h : k < t.size, 55 < t[k].toNat) := by
        rcases Nat.lt_or_ge k t.size with h | h
        · right
          by_cases h48 : t[k].toNat < 48
          · exact .inl ⟨h, h48⟩
          · refine .inr ⟨h, ?_⟩
            rcases Nat.lt_or_ge 55 t[k].toNat with h55 | h55
            · exact h55
            · exact absurd ⟨h, h, by simp [isOct]; omega⟩ hd
        · exact .inl h
      have Hex : Hid ((t.extract k t.size).data.toList = t.data.toList.drop k) := by
        show (t.extract k t.size).data.toList = t.data.toList.drop k
        simp [ByteArray.data_extract, List.take_of_length_le]
      rcases hcases with hc | ⟨hlt, hc⟩ | ⟨hlt, hc⟩
      all_goals
        clear hd
        go_wp2_with fail
        refine (trimB _ _ (by rw [ByteArray.size_extract]; omega)).mono ?_
        rintro e w2 ⟨t2, Ht2, rfl, hb2⟩
        by_cases he : t2.data.toList = []
        · have he1 : t2.toList = [] := by rw [ByteArray.toList_eq]; exact he
          have Hz : Hid (Lib.trimS (octRest s.data.toList) [32, 0] = []) := by
            show Lib.trimS (octRest s.data.toList) [32, 0] = []
            rw [Htw.out.2, ← Hex.out, ← Ht2.out]; exact he
          clear he
          cases lg with
          | true =>
            go_wp2
            go_ret2
            exact Hfin.out _ _ _ hb2 (by unfold octNum octCode; rw [if_pos Hz.out, HnD.out]; simp) (by unfold octCode; rw [if_pos Hz.out, HnD.out]; simp)
          | false =>
            go_wp2
            go_ret2
            exact Hfin.out _ _ _ hb2 (by unfold octNum octCode; rw [if_pos Hz.out, HnD.out]; simp) (by unfold octCode; rw [if_pos Hz.out, HnD.out]; simp)
        · have he1 : t2.toList.isEmpty = false := by rw [ByteArray.toList_eq]; simpa using he
          have Hz : Hid (¬ Lib.trimS (octRest s.data.toList) [32, 0] = []) := by
            show ¬ Lib.trimS (octRest s.data.toList) [32, 0] = []
            rw [Htw.out.2, ← Hex.out, ← Ht2.out]; exact he
          clear he
          go_wp2
          go_ret2
          exact Hfin.out _ _ _ hb2 (by unfold octNum octCode; rw [if_neg Hz.out]; simp) (by unfold octCode; rw [if_neg Hz.out])
end Go.Proofs.YtkhkminhlpjkgaaDoor

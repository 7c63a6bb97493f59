/- Walks of version's small functions, and of its reference's. (printed by gen_ver.py) -/
import Derived.Test.YtdnncbhbajciaaaDoorVerA
import Derived.Test.YtdnncbhbajciaaaDoorCodS
namespace Go.Proofs.YtdnncbhbajciaaaDoor
open Go.RowKit
theorem beq_byte (a b : UInt8) : ((a.toNat : Int) == (b.toNat : Int)) = decide (a = b) := by
  by_cases h : a = b
  · subst h; simp
  · have : ¬ a.toNat = b.toNat := fun e => h (UInt8.toNat_inj.1 e)
    simp [h]; omega
theorem rdigit_any (c : UInt8) (w : World) : Calls Tryd.prog 40 #[.int .u8 (c.toNat : Int)] w fun e w' => e = .returned (.bool (isDig c)) ∧ w = w' := by
  cases h1 : decide (48 ≤ (c.toNat : Int)) <;> cases h2 : decide ((c.toNat : Int) ≤ 57)
  all_goals
    go_enter Tryd.func40, Tryd.ntmps40
    go_wp2
    go_ret
    refine ⟨?_, rfl⟩
    simp at h1 h2
    simp [isDig]
    omega
set_option maxHeartbeats 1000000 in
theorem rletter_any (c : UInt8) (w : World) : Calls Tryd.prog 76 #[.int .u8 (c.toNat : Int)] w fun e w' => e = .returned (.bool (isLet c)) ∧ w = w' := by
  cases h1 : decide (97 ≤ (c.toNat : Int)) <;> cases h2 : decide ((c.toNat : Int) ≤ 122) <;> cases h3 : decide (65 ≤ (c.toNat : Int)) <;> cases h4 : decide ((c.toNat : Int) ≤ 90)
  all_goals
    go_enter Tryd.func76, Tryd.ntmps76
    go_wp2
    go_ret
    refine ⟨?_, rfl⟩
    simp at h1 h2 h3 h4
    simp [isLet, isSmall, isBig]
    omega
/-- Is the byte among these? -/
def inB (o : List UInt8) (c : UInt8) : Bool := decide (0 ≤ Lib.indexByte o c)
set_option maxHeartbeats 400000 in
theorem rin_any (s : ByteArray) (c : UInt8) (w : World) (hs : s.size ≤ 1000000000000) :
    Calls Tryd.prog 77 #[.int .u8 (c.toNat : Int), .string s] w fun e w' => e = .returned (.bool (inB s.data.toList c)) ∧ w = w' := by
  go_enter Tryd.func77, Tryd.ntmps77
  go_wp2
  go_loop [5] (fun i => ∃ k : Nat, k ≤ s.size ∧ i = .int .i64 k ∧ Hid (Lib.indexByte s.data.toList c = findFrom c (s.data.toList.drop k) k)) (fun i => s.size - (intOf i).toNat)
  case atStart => exact ⟨0, Nat.zero_le _, rfl, (findFrom_zero c _).symm⟩
  case round =>
    obtain ⟨k, hk, rfl, HE⟩ := hrel
    by_cases hlt : k < s.size
    · have hlt' : k < s.data.toList.length := by simpa using hlt
      by_cases hc : s[k] = c
      · have hb : ((s[k].toNat : Int) == (c.toNat : Int)) = true := by rw [beq_byte]; simp [hc]
        have HF := Lib.hid (findFrom_hit c s.data.toList k hlt' hc)
        clear hc
        go_wp2
        go_ret
        exact ⟨by rw [inB, HE.out, HF.out]; simp, rfl⟩
      · have hb : ((s[k].toNat : Int) == (c.toNat : Int)) = false := by rw [beq_byte]; simp [hc]
        have HF := Lib.hid (findFrom_miss c s.data.toList k hlt' hc)
        clear hc
        go_wp2
        go_round
        case rel => exact ⟨k + 1, by omega, by go_num, HE.out.trans HF.out⟩
        case measure => simp [intOf]; omega
    · go_wp2
      go_ret
      exact ⟨by rw [inB, HE.out, findFrom_end c _ k (by simp; omega)]; rfl, rfl⟩
set_option maxHeartbeats 1000000 in
theorem rdigits_any (s : ByteArray) (w : World) (hs : s.size ≤ 1000000000000) :
    Calls Tryd.prog 37 #[.string s] w fun e w' => e = .returned (.int .i64 ((s.data.toList.takeWhile isDig).length : Int)) ∧ w = w' := by
  go_enter Tryd.func37, Tryd.ntmps37
  go_wp2
  go_loop [3] (fun i => ∃ k : Nat, k ≤ s.size ∧ i = .int .i64 k ∧ Hid (k ≤ (s.data.toList.takeWhile isDig).length)) (fun i => s.size - (intOf i).toNat)
  case atStart => exact ⟨0, Nat.zero_le _, rfl, Lib.hid (Nat.zero_le _)⟩
  case round =>
    obtain ⟨k, hk, rfl, HK⟩ := hrel
    by_cases hlt : k < s.size
    · have hn := tw_next isDig s.data.toList k (by simpa using hlt) HK.out
      cases hc : isDig s[k] with
      | true =>
        have HK2 := Lib.hid (hn.1 hc)
        clear hn
        go_wp2_with fail
        refine (rdigit_any s[k] _).mono ?_
        rintro e w1 ⟨rfl, rfl⟩
        rw [hc]
        go_wp2
        go_round
        case rel => exact ⟨k + 1, by omega, by go_num, HK2⟩
        case measure => simp [intOf]; omega
      | false =>
        have HK2 := Lib.hid (hn.2 hc)
        clear hn
        go_wp2_with fail
        refine (rdigit_any s[k] _).mono ?_
        rintro e w1 ⟨rfl, rfl⟩
        rw [hc]
        go_wp2
        go_ret
        exact ⟨by rw [HK2.out]; rfl, rfl⟩
    · have HK2 : Hid ((s.data.toList.takeWhile isDig).length = k) := Lib.hid (by
        have h1 := (List.takeWhile_sublist isDig (l := s.data.toList)).length_le
        have h2 := HK.out
        simp at h1
        omega)
      go_wp2
      go_ret
      exact ⟨by rw [HK2.out]; rfl, rfl⟩
set_option maxHeartbeats 1000000 in
theorem rletters_any (s : ByteArray) (w : World) (hs : s.size ≤ 1000000000000) :
    Calls Tryd.prog 74 #[.string s] w fun e w' => e = .returned (.int .i64 ((s.data.toList.takeWhile isLet).length : Int)) ∧ w = w' := by
  go_enter Tryd.func74, Tryd.ntmps74
  go_wp2
  go_loop [3] (fun i => ∃ k : Nat, k ≤ s.size ∧ i = .int .i64 k ∧ Hid (k ≤ (s.data.toList.takeWhile isLet).length)) (fun i => s.size - (intOf i).toNat)
  case atStart => exact ⟨0, Nat.zero_le _, rfl, Lib.hid (Nat.zero_le _)⟩
  case round =>
    obtain ⟨k, hk, rfl, HK⟩ := hrel
    by_cases hlt : k < s.size
    · have hn := tw_next isLet s.data.toList k (by simpa using hlt) HK.out
      cases hc : isLet s[k] with
      | true =>
        have HK2 := Lib.hid (hn.1 hc)
        clear hn
        go_wp2_with fail
        refine (rletter_any s[k] _).mono ?_
        rintro e w1 ⟨rfl, rfl⟩
        rw [hc]
        go_wp2
        go_round
        case rel => exact ⟨k + 1, by omega, by go_num, HK2⟩
        case measure => simp [intOf]; omega
      | false =>
        have HK2 := Lib.hid (hn.2 hc)
        clear hn
        go_wp2_with fail
        refine (rletter_any s[k] _).mono ?_
        rintro e w1 ⟨rfl, rfl⟩
        rw [hc]
        go_wp2
        go_ret
        exact ⟨by rw [HK2.out]; rfl, rfl⟩
    · have HK2 : Hid ((s.data.toList.takeWhile isLet).length = k) := Lib.hid (by
        have h1 := (List.takeWhile_sublist isLet (l := s.data.toList)).length_le
        have h2 := HK.out
        simp at h1
        omega)
      go_wp2
      go_ret
      exact ⟨by rw [HK2.out]; rfl, rfl⟩
/-- May the byte stand in a part with these others? -/
def madeP (o : List UInt8) (c : UInt8) : Bool := isDig c || isLet c || inB o c
def madeB (l o : List UInt8) : Bool := !l.isEmpty && l.all (madeP o)
theorem madeB_not (l o : List UInt8) (k : Nat) (hk : k < l.length) (h : madeP o l[k] = false) : madeB l o = false := by
  have : l.all (madeP o) = false := by
    rw [List.all_eq_false]
    exact ⟨l[k], List.getElem_mem hk, by simp [h]⟩
  simp [madeB, this]
theorem madeB_yes (l o : List UInt8) (h : ∀ k (hk : k < l.length), madeP o l[k] = true) : madeB l o = decide (0 < l.length) := by
  have : l.all (madeP o) = true := by
    rw [List.all_eq_true]
    intro c hc
    obtain ⟨k, hk, rfl⟩ := List.getElem_of_mem hc
    exact h k hk
  cases l <;> simp [madeB, this]
set_option maxRecDepth 20000 in
set_option maxHeartbeats 2000000 in
theorem rmade_any (s o : ByteArray) (w : World) (hs : s.size ≤ 1000000000000) (ho : o.size ≤ 1000000000000) :
    Calls Tryd.prog 39 #[.string s, .string o] w fun e w' => e = .returned (.bool (madeB s.data.toList o.data.toList)) ∧ w = w' := by
  go_enter Tryd.func39, Tryd.ntmps39
  go_wp2
  go_loop [5] (fun i => ∃ k : Nat, k ≤ s.size ∧ i = .int .i64 k ∧ Hid (∀ j (hj : j < s.data.toList.length), j < k → madeP o.data.toList s.data.toList[j] = true)) (fun i => s.size - (intOf i).toNat)
  case atStart => exact ⟨0, Nat.zero_le _, rfl, Lib.hid (fun j _ h => absurd h (by omega))⟩
  case round =>
    obtain ⟨k, hk, rfl, HK⟩ := hrel
    by_cases hlt : k < s.size
    · have hlt' : k < s.data.toList.length := by simpa using hlt
      have HN : madeP o.data.toList s[k] = true → Hid (∀ j (hj : j < s.data.toList.length), j < k + 1 → madeP o.data.toList s.data.toList[j] = true) := fun h => Lib.hid (fun j hj hjk => by
        rcases Nat.lt_or_ge j k with h1 | h1
        · exact HK.out j hj h1
        · obtain rfl : j = k := by omega
          exact h)
      have HF : madeP o.data.toList s[k] = false → Hid (madeB s.data.toList o.data.toList = false) := fun h => Lib.hid (madeB_not _ _ k hlt' h)
      have HNF := Lib.hid (And.intro HN HF)
      clear HN HF
      cases hd : isDig s[k] with
      | true =>
        have H2 := HNF.out.1 (by simp [madeP, hd])
        go_wp2_with fail
        refine (rdigit_any s[k] _).mono ?_
        rintro e w1 ⟨rfl, rfl⟩
        rw [hd]
        go_wp2
        go_round
        case rel => exact ⟨k + 1, by omega, by go_num, H2⟩
        case measure => simp [intOf]; omega
      | false =>
        go_wp2_with fail
        refine (rdigit_any s[k] _).mono ?_
        rintro e w1 ⟨rfl, rfl⟩
        rw [hd]
        cases hl : isLet s[k] with
        | true =>
          have H2 := HNF.out.1 (by simp [madeP, hl])
          go_wp2_with fail
          refine (rletter_any s[k] _).mono ?_
          rintro e w1 ⟨rfl, rfl⟩
          rw [hl]
          go_wp2
          go_round
          case rel => exact ⟨k + 1, by omega, by go_num, H2⟩
          case measure => simp [intOf]; omega
        | false =>
          go_wp2_with fail
          refine (rletter_any s[k] _).mono ?_
          rintro e w1 ⟨rfl, rfl⟩
          rw [hl]
          go_wp2_with fail
          refine (rin_any o s[k] _ ho).mono ?_
          rintro e w1 ⟨rfl, rfl⟩
          cases hi : inB o.data.toList s[k] with
          | true =>
            have H2 := HNF.out.1 (by simp [madeP, hi])
            go_wp2
            go_round
            case rel => exact ⟨k + 1, by omega, by go_num, H2⟩
            case measure => simp [intOf]; omega
          | false =>
            have H2 := HNF.out.2 (by simp [madeP, hd, hl, hi])
            go_wp2
            go_ret
            exact ⟨by rw [H2.out]; rfl, rfl⟩
    · have H2 : Hid (madeB s.data.toList o.data.toList = decide (0 < s.size)) := Lib.hid (by
        rw [madeB_yes _ _ (fun j hj => HK.out j hj (by simp at hj; omega))]
        simp)
      go_wp2
      go_ret
      exact ⟨by rw [H2.out]; rfl, rfl⟩
end Go.Proofs.YtdnncbhbajciaaaDoor

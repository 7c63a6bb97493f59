/- Walks of version's small functions. Walks of version's small functions, and of its reference's. (printed by gen_ver.py) Walks of version's made, number, nought, and of the reference's place and has. -/
import Derived.Test.YtjdcegogkafmoaaDoorTxt
import Derived.Test.YtjdcegogkafmoaaDoorShelfV
import Derived.Test.YtjdcegogkafmoaaDoorCodS
namespace Go.Proofs.YtjdcegogkafmoaaDoor
open Go.RowKit
theorem digit_any (c : UInt8) (w : World) : Calls Tryd.prog 59 #[.int .u8 (c.toNat : Int)] w fun e w' => e = .returned (.bool (isDig c)) ∧ w = w' := by
  cases h1 : decide (48 ≤ (c.toNat : Int)) <;> cases h2 : decide ((c.toNat : Int) ≤ 57)
  all_goals
    go_enter Tryd.func59, Tryd.ntmps59
    go_wp2
    go_ret
    refine ⟨?_, rfl⟩
    simp at h1 h2
    simp [isDig]
    omega
theorem small_any (c : UInt8) (w : World) : Calls Tryd.prog 64 #[.int .u8 (c.toNat : Int)] w fun e w' => e = .returned (.bool (isSmall c)) ∧ w = w' := by
  cases h1 : decide (97 ≤ (c.toNat : Int)) <;> cases h2 : decide ((c.toNat : Int) ≤ 122)
  all_goals
    go_enter Tryd.func64, Tryd.ntmps64
    go_wp2
    go_ret
    refine ⟨?_, rfl⟩
    simp at h1 h2
    simp [isSmall]
    omega
theorem letter_any (c : UInt8) (w : World) : Calls Tryd.prog 75 #[.int .u8 (c.toNat : Int)] w fun e w' => e = .returned (.bool (isLet c)) ∧ w = w' := by
  cases hs : isSmall c
  · cases h1 : decide (65 ≤ (c.toNat : Int)) <;> cases h2 : decide ((c.toNat : Int) ≤ 90)
    all_goals
      go_enter Tryd.func75, Tryd.ntmps75
      go_wp2_with fail
      refine (small_any c _).mono ?_
      rintro e w1 ⟨rfl, rfl⟩
      rw [hs]
      go_wp2
      go_ret
      refine ⟨?_, rfl⟩
      simp at h1 h2
      simp [isLet, hs, isBig]
      omega
  · go_enter Tryd.func75, Tryd.ntmps75
    go_wp2_with fail
    refine (small_any c _).mono ?_
    rintro e w1 ⟨rfl, rfl⟩
    rw [hs]
    go_wp2
    go_ret
    exact ⟨by simp [isLet, hs], rfl⟩
set_option maxRecDepth 20000 in
set_option maxHeartbeats 1000000 in
theorem run_any (s : ByteArray) (F : Nat) (cap : Array Value) (p : UInt8 → Bool) (w : World) (hs : s.size ≤ 1000000000000)
    (hcf : ∀ (args : Array Value) (w : World), (callFunc F args).run Tryd.prog w = .ok (.enter F args) w)
    (hp : ∀ c : UInt8, Calls Tryd.prog F (#[.int .u8 (c.toNat : Int)] ++ cap) w fun e w' => e = .returned (.bool (p c)) ∧ w = w') :
    Calls Tryd.prog 62 #[.string s, .func (.func F) #[] cap] w fun e w' => e = .returned (.int .i64 ((s.data.toList.takeWhile p).length : Int)) ∧ w = w' := by
  have HP := Lib.hid hp
  clear hp
  go_enter Tryd.func62, Tryd.ntmps62
  go_wp2
  go_loop [5] (fun i => ∃ k : Nat, k ≤ s.size ∧ i = .int .i64 k ∧ Hid (k ≤ (s.data.toList.takeWhile p).length)) (fun i => s.size - (intOf i).toNat)
  case atStart => exact ⟨0, Nat.zero_le _, rfl, Lib.hid (Nat.zero_le _)⟩
  case round =>
    obtain ⟨k, hk, rfl, HK⟩ := hrel
    by_cases hlt : k < s.size
    · have hn := tw_next p s.data.toList k (by simpa using hlt) HK.out
      cases hc : p s[k] with
      | true =>
        have HK2 := Lib.hid (hn.1 hc)
        clear hn
        go_wp2_with fail
        refine (HP.out s[k]).mono ?_
        rintro e w1 ⟨rfl, rfl⟩
        rw [hc]
        go_wp2
        go_round
        case rel => exact ⟨k + 1, by omega, by go_num, HK2⟩
        case measure => simp [intOf]; omega
      | false =>
        have HK2 := Lib.hid (hn.2 hc)
        clear hn
        go_wp2_with fail
        refine (HP.out s[k]).mono ?_
        rintro e w1 ⟨rfl, rfl⟩
        rw [hc]
        go_wp2
        go_ret
        exact ⟨by rw [HK2.out]; rfl, rfl⟩
    · have HK2 : Hid ((s.data.toList.takeWhile p).length = k) := Lib.hid (by
        have h1 := (List.takeWhile_sublist p (l := s.data.toList)).length_le
        have h2 := HK.out
        simp at h1
        omega)
      go_wp2
      go_ret
      exact ⟨by rw [HK2.out]; rfl, rfl⟩
end Go.Proofs.YtjdcegogkafmoaaDoor
namespace Go.Proofs.YtjdcegogkafmoaaDoor
open Go.RowKit
theorem beq_byte (a b : UInt8) : ((a.toNat : Int) == (b.toNat : Int)) = decide (a = b) := by
  by_cases h : a = b
  · subst h; simp
  · have : ¬ a.toNat = b.toNat := fun e => h (UInt8.toNat_inj.1 e)
    simp [h]; omega
theorem rdigit_any (c : UInt8) (w : World) : Calls Tryd.prog 54 #[.int .u8 (c.toNat : Int)] w fun e w' => e = .returned (.bool (isDig c)) ∧ w = w' := by
  cases h1 : decide (48 ≤ (c.toNat : Int)) <;> cases h2 : decide ((c.toNat : Int) ≤ 57)
  all_goals
    go_enter Tryd.func54, Tryd.ntmps54
    go_wp2
    go_ret
    refine ⟨?_, rfl⟩
    simp at h1 h2
    simp [isDig]
    omega
set_option maxHeartbeats 1000000 in
theorem rletter_any (c : UInt8) (w : World) : Calls Tryd.prog 70 #[.int .u8 (c.toNat : Int)] w fun e w' => e = .returned (.bool (isLet c)) ∧ w = w' := by
  cases h1 : decide (97 ≤ (c.toNat : Int)) <;> cases h2 : decide ((c.toNat : Int) ≤ 122) <;> cases h3 : decide (65 ≤ (c.toNat : Int)) <;> cases h4 : decide ((c.toNat : Int) ≤ 90)
  all_goals
    go_enter Tryd.func70, Tryd.ntmps70
    go_wp2
    go_ret
    refine ⟨?_, rfl⟩
    simp at h1 h2 h3 h4
    simp [isLet, isSmall, isBig]
    omega
/-- Is the byte among these? -/
def inB (o : List UInt8) (c : UInt8) : Bool := decide (0 ≤ Lib.indexByte o c)
set_option maxHeartbeats 400000 in
theorem rin_any (s : ByteArray) (c : UInt8) (w : World) (hs : s.size ≤ 1000000000000) :
    Calls Tryd.prog 71 #[.int .u8 (c.toNat : Int), .string s] w fun e w' => e = .returned (.bool (inB s.data.toList c)) ∧ w = w' := by
  go_enter Tryd.func71, Tryd.ntmps71
  go_wp2
  go_loop [5] (fun i => ∃ k : Nat, k ≤ s.size ∧ i = .int .i64 k ∧ Hid (Lib.indexByte s.data.toList c = findFrom c (s.data.toList.drop k) k)) (fun i => s.size - (intOf i).toNat)
  case atStart => exact ⟨0, Nat.zero_le _, rfl, (findFrom_zero c _).symm⟩
  case round =>
    obtain ⟨k, hk, rfl, HE⟩ := hrel
    by_cases hlt : k < s.size
    · have hlt' : k < s.data.toList.length := by simpa using hlt
      by_cases hc : s[k] = c
      · have hb : ((s[k].toNat : Int) == (c.toNat : Int)) = true := by rw [beq_byte]; simp [hc]
        have HF := Lib.hid (findFrom_hit c s.data.toList k hlt' hc)
        clear hc
        go_wp2
        go_ret
        exact ⟨by rw [inB, HE.out, HF.out]; simp, rfl⟩
      · have hb : ((s[k].toNat : Int) == (c.toNat : Int)) = false := by rw [beq_byte]; simp [hc]
        have HF := Lib.hid (findFrom_miss c s.data.toList k hlt' hc)
        clear hc
        go_wp2
        go_round
        case rel => exact ⟨k + 1, by omega, by go_num, HE.out.trans HF.out⟩
        case measure => simp [intOf]; omega
    · go_wp2
      go_ret
      exact ⟨by rw [inB, HE.out, findFrom_end c _ k (by simp; omega)]; rfl, rfl⟩
set_option maxHeartbeats 1000000 in
theorem rdigits_any (s : ByteArray) (w : World) (hs : s.size ≤ 1000000000000) :
    Calls Tryd.prog 51 #[.string s] w fun e w' => e = .returned (.int .i64 ((s.data.toList.takeWhile isDig).length : Int)) ∧ w = w' := by
  go_enter Tryd.func51, Tryd.ntmps51
  go_wp2
  go_loop [3] (fun i => ∃ k : Nat, k ≤ s.size ∧ i = .int .i64 k ∧ Hid (k ≤ (s.data.toList.takeWhile isDig).length)) (fun i => s.size - (intOf i).toNat)
  case atStart => exact ⟨0, Nat.zero_le _, rfl, Lib.hid (Nat.zero_le _)⟩
  case round =>
    obtain ⟨k, hk, rfl, HK⟩ := hrel
    by_cases hlt : k < s.size
    · have hn := tw_next isDig s.data.toList k (by simpa using hlt) HK.out
      cases hc : isDig s[k] with
      | true =>
        have HK2 := Lib.hid (hn.1 hc)
        clear hn
        go_wp2_with fail
        refine (rdigit_any s[k] _).mono ?_
        rintro e w1 ⟨rfl, rfl⟩
        rw [hc]
        go_wp2
        go_round
        case rel => exact ⟨k + 1, by omega, by go_num, HK2⟩
        case measure => simp [intOf]; omega
      | false =>
        have HK2 := Lib.hid (hn.2 hc)
        clear hn
        go_wp2_with fail
        refine (rdigit_any s[k] _).mono ?_
        rintro e w1 ⟨rfl, rfl⟩
        rw [hc]
        go_wp2
        go_ret
        exact ⟨by rw [HK2.out]; rfl, rfl⟩
    · have HK2 : Hid ((s.data.toList.takeWhile isDig).length = k) := Lib.hid (by
        have h1 := (List.takeWhile_sublist isDig (l := s.data.toList)).length_le
        have h2 := HK.out
        simp at h1
        omega)
      go_wp2
      go_ret
      exact ⟨by rw [HK2.out]; rfl, rfl⟩
set_option maxHeartbeats 1000000 in
theorem rletters_any (s : ByteArray) (w : World) (hs : s.size ≤ 1000000000000) :
    Calls Tryd.prog 68 #[.string s] w fun e w' => e = .returned (.int .i64 ((s.data.toList.takeWhile isLet).length : Int)) ∧ w = w' := by
  go_enter Tryd.func68, Tryd.ntmps68
  go_wp2
  go_loop [3] (fun i => ∃ k : Nat, k ≤ s.size ∧ i = .int .i64 k ∧ Hid (k ≤ (s.data.toList.takeWhile isLet).length)) (fun i => s.size - (intOf i).toNat)
  case atStart => exact ⟨0, Nat.zero_le _, rfl, Lib.hid (Nat.zero_le _)⟩
  case round =>
    obtain ⟨k, hk, rfl, HK⟩ := hrel
    by_cases hlt : k < s.size
    · have hn := tw_next isLet s.data.toList k (by simpa using hlt) HK.out
      cases hc : isLet s[k] with
      | true =>
        have HK2 := Lib.hid (hn.1 hc)
        clear hn
        go_wp2_with fail
        refine (rletter_any s[k] _).mono ?_
        rintro e w1 ⟨rfl, rfl⟩
        rw [hc]
        go_wp2
        go_round
        case rel => exact ⟨k + 1, by omega, by go_num, HK2⟩
        case measure => simp [intOf]; omega
      | false =>
        have HK2 := Lib.hid (hn.2 hc)
        clear hn
        go_wp2_with fail
        refine (rletter_any s[k] _).mono ?_
        rintro e w1 ⟨rfl, rfl⟩
        rw [hc]
        go_wp2
        go_ret
        exact ⟨by rw [HK2.out]; rfl, rfl⟩
    · have HK2 : Hid ((s.data.toList.takeWhile isLet).length = k) := Lib.hid (by
        have h1 := (List.takeWhile_sublist isLet (l := s.data.toList)).length_le
        have h2 := HK.out
        simp at h1
        omega)
      go_wp2
      go_ret
      exact ⟨by rw [HK2.out]; rfl, rfl⟩
/-- May the byte stand in a part with these others? -/
def madeP (o : List UInt8) (c : UInt8) : Bool := isDig c || isLet c || inB o c
def madeB (l o : List UInt8) : Bool := !l.isEmpty && l.all (madeP o)
theorem madeB_not (l o : List UInt8) (k : Nat) (hk : k < l.length) (h : madeP o l[k] = false) : madeB l o = false := by
  have : l.all (madeP o) = false := by
    rw [List.all_eq_false]
    exact ⟨l[k], List.getElem_mem hk, by simp [h]⟩
  simp [madeB, this]
theorem madeB_yes (l o : List UInt8) (h : ∀ k (hk : k < l.length), madeP o l[k] = true) : madeB l o = decide (0 < l.length) := by
  have : l.all (madeP o) = true := by
    rw [List.all_eq_true]
    intro c hc
    obtain ⟨k, hk, rfl⟩ := List.getElem_of_mem hc
    exact h k hk
  cases l <;> simp [madeB, this]
set_option maxRecDepth 20000 in
set_option maxHeartbeats 2000000 in
theorem rmade_any (s o : ByteArray) (w : World) (hs : s.size ≤ 1000000000000) (ho : o.size ≤ 1000000000000) :
    Calls Tryd.prog 53 #[.string s, .string o] w fun e w' => e = .returned (.bool (madeB s.data.toList o.data.toList)) ∧ w = w' := by
  go_enter Tryd.func53, Tryd.ntmps53
  go_wp2
  go_loop [5] (fun i => ∃ k : Nat, k ≤ s.size ∧ i = .int .i64 k ∧ Hid (∀ j (hj : j < s.data.toList.length), j < k → madeP o.data.toList s.data.toList[j] = true)) (fun i => s.size - (intOf i).toNat)
  case atStart => exact ⟨0, Nat.zero_le _, rfl, Lib.hid (fun j _ h => absurd h (by omega))⟩
  case round =>
    obtain ⟨k, hk, rfl, HK⟩ := hrel
    by_cases hlt : k < s.size
    · have hlt' : k < s.data.toList.length := by simpa using hlt
      have HN : madeP o.data.toList s[k] = true → Hid (∀ j (hj : j < s.data.toList.length), j < k + 1 → madeP o.data.toList s.data.toList[j] = true) := fun h => Lib.hid (fun j hj hjk => by
        rcases Nat.lt_or_ge j k with h1 | h1
        · exact HK.out j hj h1
        · obtain rfl : j = k := by omega
          exact h)
      have HF : madeP o.data.toList s[k] = false → Hid (madeB s.data.toList o.data.toList = false) := fun h => Lib.hid (madeB_not _ _ k hlt' h)
      have HNF := Lib.hid (And.intro HN HF)
      clear HN HF
      cases hd : isDig s[k] with
      | true =>
        have H2 := HNF.out.1 (by simp [madeP, hd])
        go_wp2_with fail
        refine (rdigit_any s[k] _).mono ?_
        rintro e w1 ⟨rfl, rfl⟩
        rw [hd]
        go_wp2
        go_round
        case rel => exact ⟨k + 1, by omega, by go_num, H2⟩
        case measure => simp [intOf]; omega
      | false =>
        go_wp2_with fail
        refine (rdigit_any s[k] _).mono ?_
        rintro e w1 ⟨rfl, rfl⟩
        rw [hd]
        cases hl : isLet s[k] with
        | true =>
          have H2 := HNF.out.1 (by simp [madeP, hl])
          go_wp2_with fail
          refine (rletter_any s[k] _).mono ?_
          rintro e w1 ⟨rfl, rfl⟩
          rw [hl]
          go_wp2
          go_round
          case rel => exact ⟨k + 1, by omega, by go_num, H2⟩
          case measure => simp [intOf]; omega
        | false =>
          go_wp2_with fail
          refine (rletter_any s[k] _).mono ?_
          rintro e w1 ⟨rfl, rfl⟩
          rw [hl]
          go_wp2_with fail
          refine (rin_any o s[k] _ ho).mono ?_
          rintro e w1 ⟨rfl, rfl⟩
          cases hi : inB o.data.toList s[k] with
          | true =>
            have H2 := HNF.out.1 (by simp [madeP, hi])
            go_wp2
            go_round
            case rel => exact ⟨k + 1, by omega, by go_num, H2⟩
            case measure => simp [intOf]; omega
          | false =>
            have H2 := HNF.out.2 (by simp [madeP, hd, hl, hi])
            go_wp2
            go_ret
            exact ⟨by rw [H2.out]; rfl, rfl⟩
    · have H2 : Hid (madeB s.data.toList o.data.toList = decide (0 < s.size)) := Lib.hid (by
        rw [madeB_yes _ _ (fun j hj => HK.out j hj (by simp at hj; omega))]
        simp)
      go_wp2
      go_ret
      exact ⟨by rw [H2.out]; rfl, rfl⟩
end Go.Proofs.YtjdcegogkafmoaaDoor
namespace Go.Proofs.YtjdcegogkafmoaaDoor
open Go.RowKit
theorem ib (s : ByteArray) (b : UInt8) (w : World) : Calls Tryd.prog 25 #[.string s, .int .u8 (b.toNat : Int)] w fun e w' => e = .returned (.int .i64 (Lib.indexByte s.data.toList b)) ∧ w = w' :=
  (Tryd.strings_IndexByte s _ w).mono fun e w' ⟨h1, h2⟩ => ⟨by simpa using h1, h2.symm⟩
set_option maxHeartbeats 1000000 in
theorem made1_any (o : ByteArray) (g : Nat) (c : UInt8) (w : World) (hg : w.cell? ⟨g, 0, none⟩ = some (.string o)) :
    Calls Tryd.prog 74 #[.int .u8 (c.toNat : Int), .pointer (some ⟨g, 0, none⟩)] w fun e w' => e = .returned (.bool (madeP o.data.toList c)) ∧ w = w' := by
  cases hl : isLet c with
  | true =>
    go_enter Tryd.func74, Tryd.ntmps74
    go_wp2_with fail
    refine (letter_any c _).mono ?_
    rintro e w1 ⟨rfl, rfl⟩
    rw [hl]
    go_wp2
    go_ret
    exact ⟨by simp [madeP, hl], rfl⟩
  | false =>
    cases hd : isDig c with
    | true =>
      go_enter Tryd.func74, Tryd.ntmps74
      go_wp2_with fail
      refine (letter_any c _).mono ?_
      rintro e w1 ⟨rfl, rfl⟩
      rw [hl]
      go_wp2_with fail
      refine (digit_any c _).mono ?_
      rintro e w1 ⟨rfl, rfl⟩
      rw [hd]
      go_wp2
      go_ret
      exact ⟨by simp [madeP, hd], rfl⟩
    | false =>
      go_enter Tryd.func74, Tryd.ntmps74
      go_wp2_with fail
      refine (letter_any c _).mono ?_
      rintro e w1 ⟨rfl, rfl⟩
      rw [hl]
      go_wp2_with fail
      refine (digit_any c _).mono ?_
      rintro e w1 ⟨rfl, rfl⟩
      rw [hd]
      go_wp2_with fail
      refine (ib o c _).mono ?_
      rintro e w1 ⟨rfl, rfl⟩
      go_wp2
      go_ret
      exact ⟨by simp [madeP, hd, hl, inB], rfl⟩
theorem tw_beq (p : UInt8 → Bool) (s : ByteArray) : (((s.data.toList.takeWhile p).length : Int) == (s.size : Int)) = s.data.toList.all p := by
  have h := tw_all p s.data.toList
  have hl : s.data.toList.length = s.size := by simp
  rw [hl] at h
  cases ha : s.data.toList.all p with
  | true => rw [h.2 ha]; simp
  | false =>
    have : ¬ (s.data.toList.takeWhile p).length = s.size := fun e => by rw [h.1 e] at ha; cases ha
    simp; omega
theorem hmf : ∀ (fn : Fn) (first cap : Array Value) (w : World), (Instr.makeFunc fn first cap).run Tryd.prog w = .ok (.func fn first cap) w := fun _ _ _ _ => rfl
set_option maxRecDepth 20000 in
set_option maxHeartbeats 1000000 in
theorem made_any (s o : ByteArray) (w : World) (hs : s.size ≤ 1000000000000) :
    Calls Tryd.prog 58 #[.string s, .string o] w fun e w' => e = .returned (.bool (madeB s.data.toList o.data.toList)) ∧ Below w.heap.size w w' := by
  rcases empty_or s with rfl | h0
  · go_enter Tryd.func58, Tryd.ntmps58
    go_wp2
    go_ret
    exact ⟨rfl, (Below.refl _ _).alloc (Nat.le_refl _) _⟩
  · have hne2 : ¬ s.toList = [] := toList_ne s h0
    have hne : s.toList.isEmpty = false := by simpa using hne2
    have hm := hmf
    go_enter Tryd.func58, Tryd.ntmps58
    go_wp2_with fail
    refine (run_any s 74 #[.pointer (some ⟨w.heap.size, 0, none⟩)] (madeP o.data.toList) _ hs (enters Tryd.func74 (by kernel_rfl) (by kernel_rfl)) (fun c => made1_any o w.heap.size c _ (by simp))).mono ?_
    rintro e w1 ⟨rfl, rfl⟩
    go_wp2
    go_ret
    refine ⟨?_, (Below.refl _ _).alloc (Nat.le_refl _) _⟩
    show Ending.returned (.bool (((s.data.toList.takeWhile (madeP o.data.toList)).length : Int) == (s.size : Int))) = _
    rw [tw_beq, madeB, data_ne s h0]
    simp
set_option maxRecDepth 20000 in
set_option maxHeartbeats 1000000 in
theorem number_any (s : ByteArray) (w : World) (hs : s.size ≤ 1000000000000) :
    Calls Tryd.prog 56 #[.string s] w fun e w' => e = .returned (.bool (!s.data.toList.isEmpty && s.data.toList.all isDig)) ∧ w = w' := by
  rcases empty_or s with rfl | h0
  · go_enter Tryd.func56, Tryd.ntmps56
    go_wp2
    go_ret
    exact ⟨rfl, rfl⟩
  · have hne2 : ¬ s.toList = [] := toList_ne s h0
    have hne : s.toList.isEmpty = false := by simpa using hne2
    go_enter Tryd.func56, Tryd.ntmps56
    go_wp2_with fail
    refine (run_any s 59 #[] isDig _ hs (enters Tryd.func59 (by kernel_rfl) (by kernel_rfl)) (fun c => digit_any c _)).mono ?_
    rintro e w1 ⟨rfl, rfl⟩
    go_wp2
    go_ret
    refine ⟨?_, rfl⟩
    show Ending.returned (.bool (((s.data.toList.takeWhile isDig).length : Int) == (s.size : Int))) = _
    rw [tw_beq, data_ne s h0]
    simp
theorem noughtB_short (s : ByteArray) (h : ¬ 1 < s.size) : noughtB s.data.toList = false := by
  obtain ⟨⟨l⟩⟩ := s
  match l, h with
  | [], _ => rfl
  | [_], _ => rfl
  | c :: d :: r, h => exact absurd (by show 1 < (c :: d :: r).length; simp) h
theorem noughtB_long (s : ByteArray) (h : 1 < s.size) : noughtB s.data.toList = ((s[0].toNat : Int) == 48) := by
  obtain ⟨⟨l⟩⟩ := s
  match l, h with
  | [], h => exact absurd h (by decide)
  | [_], h => exact absurd h (by show ¬ 1 < 1; decide)
  | c :: d :: r, _ =>
    show decide (c.toNat = 48) = ((c.toNat : Int) == 48)
    by_cases hc : c.toNat = 48
    · rw [hc]; rfl
    · simp [hc]; omega
set_option maxHeartbeats 1000000 in
theorem nought_any (s : ByteArray) (w : World) :
    Calls Tryd.prog 60 #[.string s] w fun e w' => e = .returned (.bool (noughtB s.data.toList)) ∧ w = w' := by
  by_cases h1 : 1 < s.size
  · have hd1 : decide ((1 : Int) < (s.size : Int)) = true := by simp; omega
    have Hn := Lib.hid (noughtB_long s h1)
    go_enter Tryd.func60, Tryd.ntmps60
    go_wp2
    go_ret
    exact ⟨by rw [Hn.out]; rfl, rfl⟩
  · have hd1 : decide ((1 : Int) < (s.size : Int)) = false := by simp; omega
    have Hn := Lib.hid (noughtB_short s h1)
    go_enter Tryd.func60, Tryd.ntmps60
    go_wp2
    go_ret
    exact ⟨by rw [Hn.out]; rfl, rfl⟩
/-- Does a text begin with a byte? -/
def hasB (l : List UInt8) (c : UInt8) : Bool := match l with
  | [] => false
  | d :: _ => decide (d = c)
theorem hasB_some (s : ByteArray) (c : UInt8) (h : 0 < s.size) : hasB s.data.toList c = ((s[0].toNat : Int) == (c.toNat : Int)) := by
  obtain ⟨⟨l⟩⟩ := s
  match l, h with
  | [], h => exact absurd h (by decide)
  | d :: r, _ => exact (beq_byte d c).symm
set_option maxHeartbeats 1000000 in
theorem rhas_any (s : ByteArray) (c : UInt8) (w : World) :
    Calls Tryd.prog 67 #[.string s, .int .u8 (c.toNat : Int)] w fun e w' => e = .returned (.bool (hasB s.data.toList c)) ∧ w = w' := by
  rcases empty_or s with rfl | h0
  · go_enter Tryd.func67, Tryd.ntmps67
    go_wp2
    go_ret
    exact ⟨rfl, rfl⟩
  · have hd1 : decide ((0 : Int) < (s.size : Int)) = true := by simp; omega
    have Hn := Lib.hid (hasB_some s c h0)
    go_enter Tryd.func67, Tryd.ntmps67
    go_wp2
    go_ret
    exact ⟨by rw [Hn.out]; rfl, rfl⟩
end Go.Proofs.YtjdcegogkafmoaaDoor

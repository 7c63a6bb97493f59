/- Walks of eight hexadecimal digits. -/
import Derived.Test.YtkhkminhlpjkgaaDoorCodS4
import Derived.Test.YtkhkminhlpjkgaaDoorCodL
namespace Go.Proofs.YtkhkminhlpjkgaaDoor
open Go.RowKit
/-- A literal row of bytes, as a row of one's own. -/
theorem own_lit (w : World) (l : List UInt8) (cs : Array Value) (e : TypeId) {base : Nat} (hb : base ≤ w.heap.size) (hcs : cs.toList = bvs l) (hl : l.length ≤ maxLen) :
    (w.alloc (.cells cs e)).ownsRow base e 1 (.slice (some ⟨w.heap.size, 0, none⟩) l.length l.length) l.length (bvs l) := by
  have hs : cs.size = l.length := by rw [← Array.length_toList, hcs, bvs_length]
  exact ⟨by simp [bvs_length], .inr ⟨w.heap.size, l.length, cs, rfl, hb, heap_alloc_new w _, Nat.le_refl _, hl, by omega, by rw [hcs, Nat.mul_one]; exact List.take_of_length_le (by rw [bvs_length]; omega)⟩⟩
theorem find_hex2 (b : UInt8) (w : World) : Calls Tryd.prog 36 #[.string ⟨#[48, 49, 50, 51, 52, 53, 54, 55, 56, 57, 65, 66, 67, 68, 69, 70]⟩, .int .u8 (b.toNat : Int)] w fun e w' => e = .returned (.int .i64 (hv2 b)) ∧ w = w' :=
  find_any _ b w (by decide)
set_option maxHeartbeats 400000 in
theorem hex8_bad (n : Int) (w : World) (h : n < 0 ∨ 4294967295 < n) :
    Calls Tryd.prog 19 #[.int .i64 n] w fun e w' => e = .returned (.tuple #[.string ⟨#[]⟩, .int .i64 1]) ∧ Below w.heap.size w w' := by
  by_cases h0 : n < 0
  · have hd : decide (n < 0) = true := by simpa using h0
    go_enter Tryd.func19, Tryd.ntmps19
    go_wp2_with fail
    go_ret2
    exact ⟨rfl, Below.refl _ _⟩
  · have hd : decide (n < 0) = false := by simpa using h0
    have hd2 : decide (4294967295 < n) = true := by simp; omega
    go_enter Tryd.func19, Tryd.ntmps19
    go_wp2_with fail
    go_ret2
    exact ⟨rfl, Below.refl _ _⟩
set_option maxHeartbeats 400000 in
theorem hex8_any (n : Nat) (w : World) (h : n ≤ 4294967295) :
    Calls Tryd.prog 19 #[.int .i64 (n : Int)] w fun e w' => e = .returned (.tuple #[.string ⟨(hxd n 8).toArray⟩, .int .i64 0]) ∧ Below w.heap.size w w' := by
  have hd : decide ((n : Int) < 0) = false := by simp
  have hd2 : decide (4294967295 < (n : Int)) = false := by simp; omega
  have hw := u64_in (n : Int) (by omega) (by omega)
  go_enter Tryd.func19, Tryd.ntmps19
  go_wp2_with (first
    | (go_at_call 18; refine (be_any n 4 _ (by omega) (by omega) (by omega)).mono ?_; rintro e w1 ⟨v1, rfl, hown1, hb1⟩)
    | (go_at_call 12; refine (hex_any _ _ _ (SB.of_own hown1) (by rw [beL_length]; omega)).mono ?_; rintro e w2 ⟨rfl, hb2⟩))
  go_ret2
  exact ⟨by rw [hxd_be]; rfl, below_trans hb1 hb2⟩
set_option maxHeartbeats 400000 in
theorem rhex8_bad (n : Int) (w : World) (h : n < 0 ∨ 4294967295 < n) :
    Calls Tryd.prog 20 #[.int .i64 n] w fun e w' => e = .returned (.tuple #[.string ⟨#[]⟩, .int .i64 1]) ∧ Below w.heap.size w w' := by
  by_cases h0 : n < 0
  · have hd : decide (n < 0) = true := by simpa using h0
    go_enter Tryd.func20, Tryd.ntmps20
    go_wp2_with fail
    go_ret2
    exact ⟨rfl, Below.refl _ _⟩
  · have hd : decide (n < 0) = false := by simpa using h0
    have hd2 : decide (4294967295 < n) = true := by simp; omega
    go_enter Tryd.func20, Tryd.ntmps20
    go_wp2_with fail
    go_ret2
    exact ⟨rfl, Below.refl _ _⟩
set_option maxHeartbeats 400000 in
theorem rhex8_any (n : Nat) (w : World) (h : n ≤ 4294967295) :
    Calls Tryd.prog 20 #[.int .i64 (n : Int)] w fun e w' => e = .returned (.tuple #[.string ⟨(hxd n 8).toArray⟩, .int .i64 0]) ∧ Below w.heap.size w w' := by
  have hd : decide ((n : Int) < 0) = false := by simp
  have hd2 : decide (4294967295 < (n : Int)) = false := by simp; omega
  go_enter Tryd.func20, Tryd.ntmps20
  go_wp2
  go_loopw [0, 4, 5] (fun m v i wr => ∃ (k m' : Nat), k ≤ 8 ∧ i = .int .i64 k ∧ m = .int .i64 (m' : Int) ∧ m' ≤ 4294967295 ∧ Hid (m' = n / 16 ^ k) ∧ wr.ownsRow w.heap.size 5 1 v k (bvs (hxd n k)) ∧ Below w.heap.size w wr) (fun _ _ i _ => 8 - (intOf i).toNat)
  case atStart => exact ⟨0, n, Nat.zero_le _, rfl, rfl, h, Lib.hid (by simp), World.ownsRow_nil _ _ _ _, Below.refl _ _⟩
  case round =>
    obtain ⟨k, m, hk, rfl, rfl, hm, Hm, hown, hbw⟩ := hrel
    by_cases hlt : k < 8
    · have hx1 : (m : Int).tmod 16 = (m : Int) % 16 := Int.tmod_eq_emod_of_nonneg (by omega)
      have hx3 : (0 : Int) ≤ (m : Int) % 16 := by omega
      have hx4 : (m : Int) % 16 < 16 := by omega
      have hx7 : ((m : Int) % 16).toNat = m % 16 := by omega
      have hx8 := hexD_get
      obtain ⟨A4, cap4, rfl⟩ := own_form hown
      go_wp2_with (at_builtin; refine wpList_append8 rfl (.tmp 19) (.tmp 20) _ _ rfl Tryd.underlying22 u8info wr.heap.size (.slice (some ⟨wr.heap.size, 0, none⟩) 1 1) 1 [hexD (m % 16)] rfl (own_lit wr [hexD (m % 16)] _ _ (Nat.le_refl _) rfl (by unfold maxLen; simp)) A4 k cap4 (hxd n k) rfl ((SB.of_own hown).alloc _) (by omega) (by simp) ?_; intro v2 w2 hown2 hb2 hg2)
      have hb3 : Below w.heap.size w w2 := hbw.trans ((((Below.refl _ _).alloc (Nat.le_refl _) _).trans hb2).mono hbw.size)
      have ho3 : w2.ownsRow w.heap.size 5 1 v2 (k + 1) (bvs (hxd n (k + 1))) := by
        have := own_base hown2 hbw.size
        rw [Nat.add_comm] at this
        rw [Hm.out] at this
        exact this
      clear hown2 hb2 hg2 hown hbw
      go_wp2
      go_roundw
      case rel => exact ⟨k + 1, m / 16, by omega, by go_num, by go_num, by omega, Lib.hid (by rw [Hm.out, Nat.div_div_eq_div_mul, Nat.pow_succ]), ho3, hb3⟩
      case measure => simp [intOf]; omega
    · obtain rfl : k = 8 := by omega
      have hstr := str8 (SB.of_own hown)
      go_wp2
      go_ret2
      exact ⟨rfl, hbw⟩
theorem ib_low (c : UInt8) (w : World) (x : Int) (hx : x = ((lowc c).toNat : Int)) : Calls Tryd.prog 35 #[.string ⟨#[48, 49, 50, 51, 52, 53, 54, 55, 56, 57, 97, 98, 99, 100, 101, 102]⟩, .int .u8 x] w fun e w' => e = .returned (.int .i64 (dv c)) ∧ w = w' := by
  subst hx
  exact ib _ (lowc c) w
set_option maxHeartbeats 1000000 in
theorem unhex8_any (s : ByteArray) (w : World) :
    Calls Tryd.prog 21 #[.string s] w fun e w' => e = .returned (.tuple #[.int .i64 (un8N s.data.toList), .int .i64 (un8Code s.data.toList)]) ∧ w = w' := by
  by_cases h8 : s.size = 8
  · have hd : ((s.size : Int) != 8) = false := by simp; omega
    have h8' : s.data.toList.length = 8 := by simpa using h8
    go_enter Tryd.func21, Tryd.ntmps21
    go_wp2
    go_loop [4, 13] (fun m i => ∃ (k : Nat) (N : Int), k ≤ 8 ∧ i = .int .i64 k ∧ m = .int .i64 N ∧ 0 ≤ N ∧ Hid (N < 16 ^ k) ∧ Hid (N = hexNum (s.data.toList.take k)) ∧ Hid (allDv (s.data.toList.take k) = true)) (fun _ i => 8 - (intOf i).toNat)
    case atStart => exact ⟨0, 0, Nat.zero_le _, rfl, rfl, by omega, Lib.hid (by simp), rfl, rfl⟩
    case round =>
      obtain ⟨k, N, hk, rfl, rfl, hN0, HN1, HN, HA⟩ := hrel
      by_cases hlt : k < 8
      · have hlt' : k < s.size := by omega
        have hr := dv_range s[k]
        have hN1 : N < 268435456 := by
          have h1 := HN1.out
          have h2 : (16 : Int) ^ k ≤ 16 ^ 7 := by exact_mod_cast Nat.pow_le_pow_right (by omega) (show k ≤ 7 by omega)
          omega
        have hb := s[k].toNat_lt
        have h3 : (decide ((65 : Int) ≤ (s[k].toNat : Int)) = false ∧ Hid ((s[k].toNat : Int) = ((lowc s[k]).toNat : Int))) ∨
            ((decide ((65 : Int) ≤ (s[k].toNat : Int)) = true ∧ decide ((s[k].toNat : Int) ≤ 70) = false) ∧ Hid ((s[k].toNat : Int) = ((lowc s[k]).toNat : Int))) ∨
            ((decide ((65 : Int) ≤ (s[k].toNat : Int)) = true ∧ decide ((s[k].toNat : Int) ≤ 70) = true) ∧ Hid (((s[k].toNat : Int) + 32) % 256 = ((lowc s[k]).toNat : Int))) := by
          unfold lowc
          by_cases h1 : (65 : UInt8) ≤ s[k]
          · have h1' := UInt8.le_iff_toNat_le.1 h1
            simp at h1'
            by_cases h2 : s[k] ≤ (70 : UInt8)
            · have h2' := UInt8.le_iff_toNat_le.1 h2
              simp at h2'
              refine .inr (.inr ⟨⟨by simp; omega, by simp; omega⟩, Lib.hid ?_⟩)
              rw [if_pos ⟨h1, h2⟩, UInt8.toNat_add]
              simp
            · have h2' := fun h => h2 (UInt8.le_iff_toNat_le.2 h)
              simp at h2'
              exact .inr (.inl ⟨⟨by simp; omega, by simp; omega⟩, Lib.hid (by rw [if_neg (fun h => h2 h.2)])⟩)
          · have h1' := fun h => h1 (UInt8.le_iff_toNat_le.2 h)
            simp at h1'
            exact .inl ⟨by simp; omega, Lib.hid (by rw [if_neg (fun h => h1 h.1)])⟩
        by_cases hc : dv s[k] < 0
        · have hd2 : decide (dv s[k] < 0) = true := by simpa using hc
          rcases h3 with ⟨q1, HQ⟩ | ⟨⟨q1, q2⟩, HQ⟩ | ⟨⟨q1, q2⟩, HQ⟩
          all_goals
            go_wp2_with (go_at_call 35; refine (ib_low s[k] _ _ HQ.out).mono ?_; rintro e w' ⟨rfl, rfl⟩)
            go_ret2
            have hf := un8_form s.data.toList h8' (allDv_not s.data.toList k (by simpa using hlt') hc)
            exact ⟨by rw [hf.1, hf.2]; rfl, rfl⟩
        · have hd2 : decide (dv s[k] < 0) = false := by simpa using hc
          have hor : bits .or .i64 (N * 16) (dv s[k]) = 16 * N + dv s[k] := by
            have := bits_or_low 4 N (dv s[k]) hN0 (by omega) (by omega) (by omega) (by omega)
            simp only [show (2 : Int) ^ 4 = 16 from rfl] at this
            rw [this]
            omega
          rcases h3 with ⟨q1, HQ⟩ | ⟨⟨q1, q2⟩, HQ⟩ | ⟨⟨q1, q2⟩, HQ⟩
          all_goals
            go_wp2_with (go_at_call 35; refine (ib_low s[k] _ _ HQ.out).mono ?_; rintro e w' ⟨rfl, rfl⟩)
            go_round
            case rel =>
              refine ⟨k + 1, 16 * N + dv s[k], by omega, by go_num, rfl, by omega, Lib.hid ?_, Lib.hid ?_, Lib.hid (allDv_snoc s.data.toList k (by simpa using hlt') HA.out (by show 0 ≤ dv s[k]; omega))⟩
              · have := HN1.out
                rw [Int.pow_succ]
                omega
              · rw [take_snoc _ _ (by simpa using hlt'), hexNum_snoc, ← HN.out]
                rfl
            case measure => simp [intOf]; omega
      · obtain rfl : k = 8 := by omega
        have hd3 : decide ((8 : Int) < (s.size : Int)) = false := by simp; omega
        have hE := HN.out
        have hA := HA.out
        rw [List.take_of_length_le (by omega)] at hE hA
        have hf := Lib.hid (un8_ok s.data.toList h8' hA)
        clear hA
        have HE := Lib.hid hE
        clear hE
        go_wp2
        go_ret2
        exact ⟨by rw [hf.out.1, hf.out.2, ← HE.out]; rfl, rfl⟩
  · have hd : ((s.size : Int) != 8) = true := by simp; omega
    have hf := un8_short s.data.toList (by simpa using h8)
    go_enter Tryd.func21, Tryd.ntmps21
    go_wp2
    go_ret2
    exact ⟨by rw [hf.1, hf.2]; rfl, rfl⟩
set_option maxHeartbeats 1000000 in
theorem runhex8_any (s : ByteArray) (w : World) :
    Calls Tryd.prog 22 #[.string s] w fun e w' => e = .returned (.agg #[.slice none 0 0, .int .i64 (un8N s.data.toList), .int .i64 (un8Code s.data.toList)]) ∧ Below w.heap.size w w' := by
  by_cases h8 : s.size = 8
  · have hd : ((s.size : Int) != 8) = false := by simp; omega
    have h8' : s.data.toList.length = 8 := by simpa using h8
    go_enter Tryd.func22, Tryd.ntmps22
    go_wp2
    go_loop [3, 4] (fun m i => ∃ (k : Nat) (N : Int), k ≤ 8 ∧ i = .int .i64 k ∧ m = .int .i64 N ∧ 0 ≤ N ∧ Hid (N < 16 ^ k) ∧ Hid (N = hexNum (s.data.toList.take k)) ∧ Hid (allDv (s.data.toList.take k) = true)) (fun _ i => 8 - (intOf i).toNat)
    case atStart => exact ⟨0, 0, Nat.zero_le _, rfl, rfl, by omega, Lib.hid (by simp), rfl, rfl⟩
    case round =>
      obtain ⟨k, N, hk, rfl, rfl, hN0, HN1, HN, HA⟩ := hrel
      by_cases hlt : k < 8
      · have hlt' : k < s.size := by omega
        have hr := dv_range s[k]
        have hr2 := hv_range s[k]
        have hr3 := hv2_range s[k]
        have hN1 : N < 268435456 := by
          have h1 := HN1.out
          have h2 : (16 : Int) ^ k ≤ 16 ^ 7 := by exact_mod_cast Nat.pow_le_pow_right (by omega) (show k ≤ 7 by omega)
          omega
        have h2 := dv_two s[k]
        by_cases hc : dv s[k] < 0
        · have hc1 : decide (hv s[k] < 0) = true := by
            simp only [decide_eq_true_eq]
            split at h2 <;> omega
          have hc2 : decide (hv2 s[k] < 0) = true := by
            simp only [decide_eq_true_eq] at hc1 ⊢
            rw [if_pos hc1] at h2; omega
          clear h2
          go_wp2_with fail
          refine (find_hex s[k] _).mono ?_
          rintro e w' ⟨rfl, rfl⟩
          go_wp2_with fail
          refine (find_hex2 s[k] _).mono ?_
          rintro e w' ⟨rfl, rfl⟩
          go_wp2_with fail
          have hf := un8_form s.data.toList h8' (allDv_not s.data.toList k (by simpa using hlt') hc)
          exact bodyPost_ret (v := .agg #[.slice none 0 0, .int .i64 0, .int .i64 3]) (by simp [results, Tryd.results22, go_sem]) rfl ⟨by rw [hf.1, hf.2], (((Below.refl _ _).alloc (Nat.le_refl _) _))⟩
        · have hall := Lib.hid (allDv_snoc s.data.toList k (by simpa using hlt') HA.out (by show 0 ≤ dv s[k]; omega))
          have hsn : Hid (16 * N + dv s[k] = hexNum (s.data.toList.take (k + 1))) := Lib.hid (by rw [take_snoc _ _ (by simpa using hlt'), hexNum_snoc, ← HN.out]; rfl)
          have hp : Hid (16 * N + dv s[k] < 16 ^ (k + 1)) := Lib.hid (by have := HN1.out; rw [Int.pow_succ]; omega)
          by_cases hc1 : hv s[k] < 0
          · have hd1 : decide (hv s[k] < 0) = true := by simpa using hc1
            rw [if_pos hc1] at h2
            rw [h2] at hc hsn hp
            have hd2 : decide (hv2 s[k] < 0) = false := by simpa using hc
            clear h2 hr hr2
            go_wp2_with fail
            refine (find_hex s[k] _).mono ?_
            rintro e w' ⟨rfl, rfl⟩
            go_wp2_with fail
            refine (find_hex2 s[k] _).mono ?_
            rintro e w' ⟨rfl, rfl⟩
            go_wp2_with fail
            go_round
            case rel => exact ⟨k + 1, 16 * N + hv2 s[k], by omega, by go_num, by go_num, by omega, hp, hsn, hall⟩
            case measure => simp [intOf]; omega
          · have hd1 : decide (hv s[k] < 0) = false := by simpa using hc1
            rw [if_neg hc1] at h2
            rw [h2] at hc hsn hp
            clear h2 hr hr3
            go_wp2_with fail
            refine (find_hex s[k] _).mono ?_
            rintro e w' ⟨rfl, rfl⟩
            go_wp2_with fail
            go_round
            case rel => exact ⟨k + 1, 16 * N + hv s[k], by omega, by go_num, by go_num, by omega, hp, hsn, hall⟩
            case measure => simp [intOf]; omega
      · obtain rfl : k = 8 := by omega
        have hE := HN.out
        have hA := HA.out
        rw [List.take_of_length_le (by omega)] at hE hA
        have hf := un8_ok s.data.toList h8' hA
        rw [← hE] at hf
        have Hf := Lib.hid hf
        clear hA hE hf
        go_wp2
        have hf := Hf.out
        exact bodyPost_ret (v := .agg #[.slice none 0 0, .int .i64 N, .int .i64 0]) (by simp [results, Tryd.results22, go_sem]) rfl ⟨by rw [hf.1, hf.2], (((Below.refl _ _).alloc (Nat.le_refl _) _))⟩
  · have hd : ((s.size : Int) != 8) = true := by simp; omega
    have Hf := Lib.hid (un8_short s.data.toList (by simpa using h8))
    go_enter Tryd.func22, Tryd.ntmps22
    go_wp2
    have hf := Hf.out
    exact bodyPost_ret (v := .agg #[.slice none 0 0, .int .i64 0, .int .i64 2]) (by simp [results, Tryd.results22, go_sem]) rfl ⟨by rw [hf.1, hf.2], (((Below.refl _ _).alloc (Nat.le_refl _) _))⟩
end Go.Proofs.YtkhkminhlpjkgaaDoor

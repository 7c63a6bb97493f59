/- The walk of codec's Unbase64. -/
import Derived.Test.YtkhkminhlpjkgaaDoorCodC
import Derived.Test.YtkhkminhlpjkgaaDoorCodS2
namespace Go.Proofs.YtkhkminhlpjkgaaDoor
open Go.RowKit
theorem ib_sign (b : UInt8) (w : World) : Calls Tryd.prog 35 #[.string ⟨#[65, 66, 67, 68, 69, 70, 71, 72, 73, 74, 75, 76, 77, 78, 79, 80, 81, 82, 83, 84, 85, 86, 87, 88, 89, 90, 97, 98, 99, 100, 101, 102, 103, 104, 105, 106, 107, 108, 109, 110, 111, 112, 113, 114, 115, 116, 117, 118, 119, 120, 121, 122, 48, 49, 50, 51, 52, 53, 54, 55, 56, 57, 43, 47]⟩, .int .u8 (b.toNat : Int)] w fun e w' => e = .returned (.int .i64 (Lib.indexByte signs b)) ∧ w = w' := ib _ b w
theorem suf (s p : ByteArray) (w : World) (hs : s.size ≤ 1000000000000) :
    Calls Tryd.prog 37 #[.string s, .string p] w fun e w' => e = .returned (.bool (Lib.hasSuffix s.data.toList p.data.toList)) ∧ w = w' :=
  (Tryd.strings_HasSuffix s p w (by omega)).mono fun e w' ⟨h1, h2⟩ => ⟨h1, h2.symm⟩
theorem acc_lt (l : List UInt8) (h : l.length ≤ 4) : acc l < 16777216 := by
  match l, h with
  | [], _ => simp [acc]
  | [a], _ => have := sv_lt a; simp [acc]; omega
  | [a, b], _ => have := sv_lt a; have := sv_lt b; simp [acc]; omega
  | [a, b, c], _ => have := sv_lt a; have := sv_lt b; have := sv_lt c; simp [acc]; omega
  | [a, b, c, d], _ => have := sv_lt a; have := sv_lt b; have := sv_lt c; have := sv_lt d; simp [acc]; omega
set_option maxHeartbeats 1000000 in
theorem unbase64_any (s : ByteArray) (w : World) (hs : s.size ≤ 1000000000000) :
    Calls Tryd.prog 14 #[.string s] w (GivesB 5 w (fun v => .tuple #[v, .int .i64 (un64Code s.data.toList)]) (un64R s.data.toList)) := by
  obtain ⟨i0, hi, hz0, hz1, hz2⟩ := info_parts u8info
  by_cases h4 : ¬ s.size % 4 = 0
  · have hb : ((s.size : Int) % 4 != 0) = true := by rw [bne_iff_ne]; omega
    go_enter Tryd.func14, Tryd.ntmps14
    go_wp2_with fail
    go_ret2
    have hf := un64_short s.data.toList (by simpa using h4)
    exact ⟨_, by rw [hf.1]; rfl, by rw [hf.2]; exact World.ownsRow_nil _ _ _ _, Below.refl _ _⟩
  · have h4 : s.size % 4 = 0 := by omega
    have hb : ((s.size : Int) % 4 != 0) = false := by simp; omega
    go_enter Tryd.func14, Tryd.ntmps14
    go_wp2_with (at_make; refine wpList_make_own _ rfl _ _ _ rfl w.heap.size _ i0 _ 1 Tryd.underlying22 hi hz0 hz1 _ _ _ (s.size / 4 * 3) rfl rfl (by omega) (by rw [hz2]; omega) (by unfold maxLen; omega) (Nat.le_refl _) ?_)
    intro w1 hown1 hg1
    have hb1 : Below w.heap.size w w1 := (Below.refl _ _).grown hg1 (Nat.le_refl _) (by simp)
    go_wp2
    go_loopw [4, 5] (fun v i wr => ∃ k : Nat, 4 * k ≤ s.size ∧ i = .int .i64 (4 * (k : Int)) ∧ wr.ownsRow w.heap.size 5 1 v (3 * k) (bvs (un64raw (s.data.toList.take (4 * k)))) ∧ Below w.heap.size w wr) (fun _ i _ => s.size - (intOf i).toNat)
    case atStart => exact ⟨0, Nat.zero_le _, rfl, by simpa [un64raw, bvs] using hown1, hb1⟩
    case round =>
      obtain ⟨k, hk, rfl, hown, hbw⟩ := hrel
      obtain ⟨wo, rfl⟩ : ∃ wo : World, wo = wr := ⟨_, rfl⟩
      have hsz := hbw.size
      by_cases hlt : 4 * k < s.size
      · have hdec : decide (4 * (k : Int) < (s.size : Int)) = true := by simp; omega
        go_wp2
        go_loop [6, 23] (fun b i => ∃ j : Nat, j ≤ 4 ∧ i = .int .i64 j ∧ b = .int .i64 ((acc ((s.data.toList.drop (4 * k)).take j) : Nat) : Int)) (fun _ i => 4 - (intOf i).toNat)
        case atStart => exact ⟨0, by omega, rfl, rfl⟩
        case round =>
          obtain ⟨j, hj, rfl, rfl⟩ := hrel
          by_cases hj4 : j < 4
          · have h44 : 4 * k + 4 ≤ s.size := by omega
            have hal := acc_lt ((s.data.toList.drop (4 * k)).take j) (by rw [List.length_take]; omega)
            have hsv := sv_lt s[4 * k + j]
            have Hac : Hid (acc ((s.data.toList.drop (4 * k)).take (j + 1)) = acc ((s.data.toList.drop (4 * k)).take j) * 64 + sv s[4 * k + j]) := by
              rw [take_snoc _ _ (by simp; omega), acc_snoc]
              simp
              rfl
            have hmx := sv_max s[4 * k + j]
            have hor := bits_or_low 6 ((acc ((s.data.toList.drop (4 * k)).take j) : Nat) : Int) (sv s[4 * k + j] : Int) (by omega) (by omega) (by omega) (by omega) (by omega)
            simp only [show (2 : Int) ^ 6 = 64 from rfl] at hor
            go_wp2_with (go_at_call 35; refine (ib_sign _ _).mono ?_; rintro e w' ⟨rfl, rfl⟩)
            go_round
            case rel => exact ⟨j + 1, by omega, by go_num, by rw [Hac.out]; go_num⟩
            case measure => simp [intOf]; omega
          · have h44 : 4 * k + 4 ≤ s.size := by omega
            obtain rfl : j = 4 := by omega
            obtain ⟨n, Hn⟩ : ∃ n, Hid (n = acc ((s.data.toList.drop (4 * k)).take 4)) := ⟨_, rfl⟩
            rw [← Hn.out]
            have hn : n < 16777216 := by rw [Hn.out]; exact acc_lt _ (by rw [List.length_take]; omega)
            go_wp2_with (at_builtin; refine wpList_append8 rfl _ _ _ _ rfl Tryd.underlying22 u8info w.heap.size u4 (3 * k) _ rfl (hown.alloc _) _ 3 3 (out3 n) rfl ?sb (by omega) (by simp; omega) ?_)
            case sb => exact SB.made wo (out3 n) _ _ (by simp [bvs, bv, out3]; omega) (by unfold maxLen; simp [out3])
            intro v4 w4 hown4 hb4 hg4
            have hb5 : Below w.heap.size w w4 := (hbw.alloc hsz _).trans hb4
            go_wp2
            go_roundw
            case rel => exact ⟨k + 1, by omega, by go_num, by rw [un64raw_take s.data.toList k (by simp; omega), ← Hn.out]; exact hown4, hb5⟩
            case measure => simp [intOf]; omega
      · obtain rfl : k = s.size / 4 := by omega
        have Hr : Hid ((un64raw s.data.toList).length = 3 * (s.size / 4)) := by
          show (un64raw s.data.toList).length = 3 * (s.size / 4)
          rw [un64raw_length]; simp; omega
        rw [List.take_of_length_le (by simp; omega)] at hown
        by_cases hp2 : Lib.hasSuffix s.data.toList [61, 61] = true
        · have hk1 : 1 ≤ s.size / 4 := by
            rcases Nat.eq_zero_or_pos s.size with h0 | h0
            · have : s.data.toList = [] := List.eq_nil_of_length_eq_zero (by simpa using h0)
              rw [this] at hp2; simp [Lib.hasSuffix] at hp2
            · omega
          obtain ⟨g, cap, rfl, hgb, hgs, hcap1, hcap2⟩ := own_at hown (by omega)
          have hownX := own_take hown (n' := 3 * (s.size / 4) - 2) (by omega)
          have hcut : Hid (un64cut s.data.toList = (un64raw s.data.toList).take (3 * (s.size / 4) - 2)) := by
            show un64cut s.data.toList = _
            unfold un64cut; rw [if_pos hp2, Hr.out]
          rw [← hcut.out] at hownX
          have hsbX := SB.of_own hownX
          have hcap : ¬ cap = 0 := by omega
          have Hlx : Hid ((un64cut s.data.toList).length = 3 * (s.size / 4) - 2) := by
            show (un64cut s.data.toList).length = _
            rw [hcut.out, List.length_take, Hr.out]; omega
          have hf4 : s.data.toList.length % 4 = 0 := by simpa using h4
          by_cases heq : base64L (un64cut s.data.toList) = s.data.toList
          · have hbe : (base64L (un64cut s.data.toList) == s.toList) = true := by rw [ByteArray.toList_eq]; simpa using heq
            have Hf := Lib.hid (un64_ok s.data.toList hf4 heq)
            clear heq
            go_wp2_with (first | (go_at_call 37; refine (suf _ _ _ hs).mono ?_; rintro e w' ⟨rfl, rfl⟩) | (go_at_call 16; refine (base64_any _ _ _ hsbX (by rw [Hlx.out]; omega)).mono ?_; rintro e w5 ⟨rfl, hb5⟩))
            go_ret2
            exact ⟨_, by rw [Hf.out.1]; rfl, by rw [Hf.out.2, Hlx.out]; exact own_below hownX hb5, hbw.trans (hb5.mono hsz)⟩
          · have hbe : (base64L (un64cut s.data.toList) == s.toList) = false := by rw [ByteArray.toList_eq]; simpa using heq
            have Hf := Lib.hid (un64_form s.data.toList hf4 heq)
            clear heq
            go_wp2_with (first | (go_at_call 37; refine (suf _ _ _ hs).mono ?_; rintro e w' ⟨rfl, rfl⟩) | (go_at_call 16; refine (base64_any _ _ _ hsbX (by rw [Hlx.out]; omega)).mono ?_; rintro e w5 ⟨rfl, hb5⟩))
            go_ret2
            exact ⟨_, by rw [Hf.out.1]; rfl, by rw [Hf.out.2]; exact World.ownsRow_nil _ _ _ _, hbw.trans (hb5.mono hsz)⟩
        · have hp2' : Lib.hasSuffix s.data.toList [61, 61] = false := by simpa using hp2
          by_cases hp1 : Lib.hasSuffix s.data.toList [61] = true
          · have hk1 : 1 ≤ s.size / 4 := by
              rcases Nat.eq_zero_or_pos s.size with h0 | h0
              · have : s.data.toList = [] := List.eq_nil_of_length_eq_zero (by simpa using h0)
                rw [this] at hp1; simp [Lib.hasSuffix] at hp1
              · omega
            obtain ⟨g, cap, rfl, hgb, hgs, hcap1, hcap2⟩ := own_at hown (by omega)
            have hownX := own_take hown (n' := 3 * (s.size / 4) - 1) (by omega)
            have hcut : Hid (un64cut s.data.toList = (un64raw s.data.toList).take (3 * (s.size / 4) - 1)) := by
              show un64cut s.data.toList = _
              unfold un64cut; rw [if_neg hp2, if_pos hp1, Hr.out]
            rw [← hcut.out] at hownX
            have hsbX := SB.of_own hownX
            have hcap : ¬ cap = 0 := by omega
            have Hlx : Hid ((un64cut s.data.toList).length = 3 * (s.size / 4) - 1) := by
              show (un64cut s.data.toList).length = _
              rw [hcut.out, List.length_take, Hr.out]; omega
            have hf4 : s.data.toList.length % 4 = 0 := by simpa using h4
            by_cases heq : base64L (un64cut s.data.toList) = s.data.toList
            · have hbe : (base64L (un64cut s.data.toList) == s.toList) = true := by rw [ByteArray.toList_eq]; simpa using heq
              have Hf := Lib.hid (un64_ok s.data.toList hf4 heq)
              clear heq
              go_wp2_with (first | (go_at_call 37; refine (suf _ _ _ hs).mono ?_; rintro e w' ⟨rfl, rfl⟩) | (go_at_call 16; refine (base64_any _ _ _ hsbX (by rw [Hlx.out]; omega)).mono ?_; rintro e w5 ⟨rfl, hb5⟩))
              go_ret2
              exact ⟨_, by rw [Hf.out.1]; rfl, by rw [Hf.out.2, Hlx.out]; exact own_below hownX hb5, hbw.trans (hb5.mono hsz)⟩
            · have hbe : (base64L (un64cut s.data.toList) == s.toList) = false := by rw [ByteArray.toList_eq]; simpa using heq
              have Hf := Lib.hid (un64_form s.data.toList hf4 heq)
              clear heq
              go_wp2_with (first | (go_at_call 37; refine (suf _ _ _ hs).mono ?_; rintro e w' ⟨rfl, rfl⟩) | (go_at_call 16; refine (base64_any _ _ _ hsbX (by rw [Hlx.out]; omega)).mono ?_; rintro e w5 ⟨rfl, hb5⟩))
              go_ret2
              exact ⟨_, by rw [Hf.out.1]; rfl, by rw [Hf.out.2]; exact World.ownsRow_nil _ _ _ _, hbw.trans (hb5.mono hsz)⟩
          · have hp1' : Lib.hasSuffix s.data.toList [61] = false := by simpa using hp1
            obtain ⟨A4, cap4, rfl⟩ := own_form hown
            have hcut : Hid (un64cut s.data.toList = un64raw s.data.toList) := by
              show un64cut s.data.toList = _
              unfold un64cut; rw [if_neg hp2, if_neg hp1]
            have hownX := hown
            rw [← hcut.out] at hownX
            have hsbX := SB.of_own hownX
            have Hlx : Hid ((un64cut s.data.toList).length = 3 * (s.size / 4)) := by
              show (un64cut s.data.toList).length = _
              rw [hcut.out, Hr.out]
            have hf4 : s.data.toList.length % 4 = 0 := by simpa using h4
            by_cases heq : base64L (un64cut s.data.toList) = s.data.toList
            · have hbe : (base64L (un64cut s.data.toList) == s.toList) = true := by rw [ByteArray.toList_eq]; simpa using heq
              have Hf := Lib.hid (un64_ok s.data.toList hf4 heq)
              clear heq
              go_wp2_with (first | (go_at_call 37; refine (suf _ _ _ hs).mono ?_; rintro e w' ⟨rfl, rfl⟩) | (go_at_call 16; refine (base64_any _ _ _ hsbX (by rw [Hlx.out]; omega)).mono ?_; rintro e w5 ⟨rfl, hb5⟩))
              go_ret2
              exact ⟨_, by rw [Hf.out.1]; rfl, by rw [Hf.out.2, Hlx.out]; exact own_below hownX hb5, hbw.trans (hb5.mono hsz)⟩
            · have hbe : (base64L (un64cut s.data.toList) == s.toList) = false := by rw [ByteArray.toList_eq]; simpa using heq
              have Hf := Lib.hid (un64_form s.data.toList hf4 heq)
              clear heq
              go_wp2_with (first | (go_at_call 37; refine (suf _ _ _ hs).mono ?_; rintro e w' ⟨rfl, rfl⟩) | (go_at_call 16; refine (base64_any _ _ _ hsbX (by rw [Hlx.out]; omega)).mono ?_; rintro e w5 ⟨rfl, hb5⟩))
              go_ret2
              exact ⟨_, by rw [Hf.out.1]; rfl, by rw [Hf.out.2]; exact World.ownsRow_nil _ _ _ _, hbw.trans (hb5.mono hsz)⟩
end Go.Proofs.YtkhkminhlpjkgaaDoor

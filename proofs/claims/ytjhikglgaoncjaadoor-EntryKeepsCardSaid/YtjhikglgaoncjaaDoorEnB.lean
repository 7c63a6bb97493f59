/- The walks of the document's Has and Parts. -/
import Derived.Test.YtjhikglgaoncjaaDoorMem
import Derived.Test.YtjhikglgaoncjaaDoorFre
import Derived.Test.YtjhikglgaoncjaaDoorEnT
import Derived.Deep.CutBlock
import Derived.Deep.DeepCutAuto
namespace Go.Proofs.YtjhikglgaoncjaaDoor
open Go.RowKit
theorem beq_byte (a b : UInt8) : ((a.toNat : Int) == (b.toNat : Int)) = decide (a = b) := by
  by_cases h : a = b
  · subst h; simp
  · have : ¬ a.toNat = b.toNat := fun e => h (UInt8.toNat_inj.1 e)
    simp [h]; omega
theorem has_step (c : UInt8) (s : List UInt8) (k : Nat) (h : k < s.length) : (s.drop k).contains c = (decide (s[k] = c) || (s.drop (k + 1)).contains c) := by
  rw [List.drop_eq_getElem_cons h, List.contains_cons]
  congr 1
  by_cases e : s[k] = c
  · simp [e]
  · have : ¬ c = s[k] := fun h => e h.symm
    simp [e, this]
set_option maxRecDepth 20000 in
set_option maxHeartbeats 8000000 in
theorem has_any (s : List UInt8) (c : UInt8) (w : World) (hs : s.length ≤ 1000000000) :
    Calls Tryd.prog 31 #[.string (bs s), .int .u8 (c.toNat : Int)] w fun e w' => e = .returned (.bool (s.contains c)) ∧ w = w' := by
  have HX : Hid (s.contains c = (s.drop 0).contains c) := Lib.hid rfl
  have hz : ((bs s).size : Int) = (s.length : Int) := by rw [bs_size]
  go_enter Tryd.func31, Tryd.ntmps31
  go_wp2_with fail
  go_loopg [5] s.length (fun G s5 wr => ∃ k : Nat, k ≤ s.length ∧ G = s.length - k ∧ s5 = .int .i64 k ∧ w = wr ∧ Hid (s.contains c = (s.drop k).contains c))
  case atStart => exact ⟨0, Nat.zero_le _, rfl, rfl, rfl, HX⟩
  case round =>
    clear HX
    obtain ⟨k, hk, rfl, rfl, rfl, HE⟩ := hrel
    by_cases hlt : k < s.length
    · have hks : (k : Int) < ((bs s).size : Int) := by omega
      have hks2 : k < (bs s).size := by rw [bs_size]; exact hlt
      obtain ⟨b, hb⟩ : ∃ b, b = s[k]'hlt := ⟨_, rfl⟩
      have HST : Hid (s.contains c = (decide (b = c) || (s.drop (k + 1)).contains c)) := Lib.hid (by rw [HE.out, has_step c s k hlt, hb])
      have hbb : (bs s)[k]'hks2 = b := hb.symm
      clear hb HE
      have hq := beq_byte b c
      by_cases he : b = c
      · have HV := Lib.hid (show s.contains c = true by rw [HST.out, decide_eq_true he]; rfl)
        rw [decide_eq_true he] at hq
        clear he HST
        go_wp2_with fail
        go_ret
        exact ⟨by rw [HV.out]; rfl, rfl⟩
      · have HV := Lib.hid (show s.contains c = (s.drop (k + 1)).contains c by rw [HST.out, decide_eq_false he]; rfl)
        rw [decide_eq_false he] at hq
        clear he HST
        go_wp2_with fail
        go_roundg (s.length - (k + 1))
        case measure => omega
        case rel => exact ⟨k + 1, by omega, rfl, by simp, rfl, HV⟩
    · have HV := Lib.hid (show s.contains c = false by rw [HE.out, List.drop_eq_nil_of_le (by omega)]; rfl)
      have hks : decide ((k : Int) < ((bs s).size : Int)) = false := by simp; omega
      clear HE
      go_wp2_with fail
      go_ret
      exact ⟨by rw [HV.out]; rfl, rfl⟩
theorem split_step (s : List UInt8) (k f : Nat) (h : k < s.length) (hf : f ≤ k) : splitP 47 (s.drop k) ((s.drop f).take (k - f)) = if s[k] = 47 then ((s.drop f).take (k - f)) :: splitP 47 (s.drop (k + 1)) ((s.drop (k + 1)).take (k + 1 - (k + 1))) else splitP 47 (s.drop (k + 1)) ((s.drop f).take (k + 1 - f)) := by
  rw [List.drop_eq_getElem_cons h, splitP]
  split
  · simp
  · congr 1
    have h2 : k - f < (s.drop f).length := by rw [List.length_drop]; omega
    have h3 : (s.drop f)[k - f]'h2 = s[k] := by
      have := (List.getElem?_eq_getElem h2).symm
      rw [List.getElem?_drop, show f + (k - f) = k by omega, List.getElem?_eq_getElem h] at this
      exact Option.some.inj this
    rw [show k + 1 - f = (k - f) + 1 by omega, List.take_succ_eq_append_getElem h2, h3]
set_option maxRecDepth 20000 in
set_option maxHeartbeats 8000000 in
theorem parts_any (s : List UInt8) (w : World) (hs : s.length ≤ 1000000000) :
    Calls Tryd.prog 39 #[.string (bs s)] w fun e w' => (∃ v, e = .returned v ∧ Sl 1 Rtext nowhere w' v (partsB 47 s)) ∧ Below w.heap.size w w' := by
  have HX : Hid (partsB 47 s = [] ++ splitP 47 (s.drop 0) ((s.drop 0).take (0 - 0))) := Lib.hid (by simp [partsB])
  generalize partsB 47 s = res at HX
  have hz : ((bs s).size : Int) = (s.length : Int) := by rw [bs_size]
  go_enter Tryd.func39, Tryd.ntmps39
  go_wp2_with fail
  go_loopg [3, 4, 5] (s.length + 1) (fun G s3 s4 s5 wr => ∃ (k f : Nat) (acc : List (List UInt8)), k ≤ s.length + 1 ∧ f ≤ k ∧ acc.length ≤ k ∧ G = s.length + 1 - k ∧ s4 = .int .i64 f ∧ s5 = .int .i64 k ∧ Below w.heap.size w wr ∧ OwnL 1 Rtext 9 w.heap.size (old w.heap.size) wr s3 acc ∧
    Hid (if k ≤ s.length then res = acc ++ splitP 47 (s.drop k) ((s.drop f).take (k - f)) else res = acc))
  case atStart => exact ⟨0, 0, [], Nat.zero_le _, Nat.le_refl _, Nat.le_refl _, rfl, rfl, rfl, Below.refl _ _, OwnL.nil _ _ _ _ _ _, Lib.hid (by rw [if_pos (Nat.zero_le _)]; exact HX.out)⟩
  case round =>
    clear HX
    obtain ⟨k, f, acc, hk, hf, hac, rfl, rfl, rfl, hbw, hown, HE⟩ := hrel
    obtain ⟨A3, cap3, rfl⟩ := hown.form
    by_cases hle : k ≤ s.length
    · have HE1 := Lib.hid (show res = acc ++ splitP 47 (s.drop k) ((s.drop f).take (k - f)) by have := HE.out; rw [if_pos hle] at this; exact this)
      have hd : decide ((k : Int) ≤ ((bs s).size : Int)) = true := by simp; omega
      have hd' : decide ((k : Int) ≤ (s.length : Int)) = true := by simp; omega
      have hext : (bs s).extract f k = bs ((s.drop f).take (k - f)) := bs_of _ _ (by simp [ByteArray.data_extract, bs_list, bs])
      have i1 : (0 : Int) ≤ (f : Int) ∧ (f : Int) ≤ (k : Int) := by omega
      have i2 : (k : Int) ≤ ((bs s).size : Int) := by omega
      clear HE
      go_upto_region 6 with fail
      obtain ⟨tb, htb⟩ : ∃ tb, decide (k = s.length ∨ s[k]? = some 47) = tb := ⟨_, rfl⟩
      go_cut [21] (fun s21 wx => s21 = .bool tb ∧ wr = wx)
      case first => as_aux_lemma =>
        by_cases hlt : k < s.length
        · have hks : (k : Int) < ((bs s).size : Int) := by omega
          have hks2 : k < (bs s).size := by rw [bs_size]; exact hlt
          have hne : ((k : Int) == (s.length : Int)) = false := by simp; omega
          obtain ⟨b, hb⟩ : ∃ b, b = s[k]'hlt := ⟨_, rfl⟩
          have hbb : (bs s)[k]'hks2 = b := hb.symm
          have htb2 : tb = ((b.toNat : Int) == 47) := by
            rw [← htb, show (47 : Int) = ((47 : UInt8).toNat : Int) from rfl, beq_byte, List.getElem?_eq_getElem hlt, ← hb]
            have : ¬ k = s.length := by omega
            simp [this]
          clear hb
          go_wp2_with fail
          go_meet
          exact ⟨by rw [htb2], rfl⟩
        · have hks : (k : Int) = (s.length : Int) := by omega
          have hne : ((k : Int) == (s.length : Int)) = true := by simpa using hks
          have htb2 : tb = true := by
            rw [← htb]
            have : k = s.length := by omega
            simp [this]
          clear hks
          go_wp2_with fail
          go_meet
          exact ⟨by rw [htb2], rfl⟩
      case rest => as_aux_lemma =>
        obtain ⟨rfl, rfl⟩ := hcut
        cases tb with
        | true =>
          have htb := of_decide_eq_true htb
          have hnew := hown.new
          have HN : Hid (if k + 1 ≤ s.length then res = (acc ++ [(s.drop f).take (k - f)]) ++ splitP 47 (s.drop (k + 1)) ((s.drop (k + 1)).take (k + 1 - (k + 1))) else res = acc ++ [(s.drop f).take (k - f)]) := Lib.hid (by
            have h1 := HE1.out
            by_cases hlt : k < s.length
            · rw [if_pos (by omega)]
              have hb : s[k] = 47 := by
                rcases htb with h | h
                · omega
                · rw [List.getElem?_eq_getElem hlt] at h; injection h
              rw [split_step s k f hlt hf, if_pos hb] at h1
              rw [h1]; simp
            · rw [if_neg (by omega)]
              rw [h1, List.drop_eq_nil_of_le (show s.length ≤ k by omega), splitP])
          clear htb HE1
          generalize (s.drop f).take (k - f) = piece at hext HN
          go_wp2_with (at_builtin; refine wpList_appendL (l := acc) good_text rfl _ _ _ _ _ 16 rfl Tryd.underlying49 info_str rfl (by omega) _ rfl hown [.string (bs piece)] piece rfl rfl (by omega) (by omega) hbw.size (fun k hk hk2 => by have := hbw.size; unfold old at hk2; omega) ?_; intro v5 w5 hown5 hk5)
          have q5 := hbw.trans (hk5.below hbw.size (fun k _ h => hnew k h))
          clear hk5 hnew hown
          go_wp2_with fail
          go_roundg (s.length + 1 - (k + 1))
          case measure => omega
          case rel => exact ⟨k + 1, k + 1, acc ++ [piece], by omega, Nat.le_refl _, by simp; omega, rfl, by simp, by simp, q5, hown5, HN⟩
        | false =>
          have htb := of_decide_eq_false htb
          have hlt : k < s.length := by
            rcases Nat.lt_or_ge k s.length with h | h
            · exact h
            · exact absurd (.inl (by omega)) htb
          have HN : Hid (if k + 1 ≤ s.length then res = acc ++ splitP 47 (s.drop (k + 1)) ((s.drop f).take (k + 1 - f)) else res = acc) := Lib.hid (by
            rw [if_pos (by omega), HE1.out, split_step s k f hlt hf, if_neg]
            intro e
            exact htb (.inr (by rw [List.getElem?_eq_getElem hlt, e])))
          clear htb HE1
          go_wp2_with fail
          go_roundg (s.length + 1 - (k + 1))
          case measure => omega
          case rel => exact ⟨k + 1, f, acc, by omega, by omega, by omega, rfl, rfl, by simp, hbw, hown, HN⟩
    · have hd : decide ((k : Int) ≤ ((bs s).size : Int)) = false := by simp; omega
      have hd' : decide ((k : Int) ≤ (s.length : Int)) = false := by simp; omega
      have HV := Lib.hid (show res = acc by have := HE.out; rw [if_neg hle] at this; exact this)
      clear HE
      go_wp2_with fail
      go_ret
      rw [HV.out]
      exact ⟨⟨_, rfl, (hown.no free_text).sl good_text⟩, hbw⟩
end Go.Proofs.YtjhikglgaoncjaaDoor

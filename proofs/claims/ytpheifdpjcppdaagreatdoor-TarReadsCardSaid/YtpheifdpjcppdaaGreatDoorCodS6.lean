/- Decimal digits, in plain words. -/
import Derived.Lib.ItoaNum
import Derived.Lib.ItoaMem
import Derived.Test.YtpheifdpjcppdaaGreatDoorOrd
namespace Go.Proofs.YtpheifdpjcppdaaGreatDoor
open Go
def decNum (l : List UInt8) : Nat := l.foldl (fun n c => 10 * n + (c.toNat - 48)) 0
def allDig (l : List UInt8) : Bool := l.all isDig
theorem decNum_snoc (l : List UInt8) (c : UInt8) : decNum (l ++ [c]) = 10 * decNum l + (c.toNat - 48) := by simp [decNum]
theorem decNum_ge (b : List UInt8) (n : Nat) : n ≤ b.foldl (fun n c => 10 * n + (c.toNat - 48)) n := by
  induction b generalizing n with
  | nil => simp
  | cons c b ih => exact Nat.le_trans (show n ≤ 10 * n + (c.toNat - 48) by omega) (ih _)
theorem decNum_take (l : List UInt8) (k : Nat) : decNum (l.take k) ≤ decNum l := by
  have : decNum l = (l.drop k).foldl (fun n c => 10 * n + (c.toNat - 48)) (decNum (l.take k)) := by
    unfold decNum
    rw [← List.foldl_append, List.take_append_drop]
  rw [this]
  exact decNum_ge _ _
def headBad : List UInt8 → Bool
  | [] => true
  | c :: r => decide (c.toNat = 48) && !r.isEmpty
def udCode (l : List UInt8) : Int := if headBad l = true then 3 else if allDig l = true then (if 4611686018427387903 < decNum l then 4 else 0) else 3
def udN (l : List UInt8) : Int := if udCode l = 0 then (decNum l : Int) else 0
theorem ud_head (l : List UInt8) (h : headBad l = true) : udCode l = 3 ∧ udN l = 0 := by
  have : udCode l = 3 := by simp [udCode, h]
  exact ⟨this, by simp [udN, this]⟩
theorem ud_form (l : List UInt8) (h : allDig l = false) : udCode l = 3 ∧ udN l = 0 := by
  have : udCode l = 3 := by unfold udCode; split <;> simp [h]
  exact ⟨this, by simp [udN, this]⟩
theorem ud_large (l : List UInt8) (h0 : headBad l = false) (h : allDig l = true) (hl : 4611686018427387903 < decNum l) : udCode l = 4 ∧ udN l = 0 := by
  have : udCode l = 4 := by simp [udCode, h0, h, hl]
  exact ⟨this, by simp [udN, this]⟩
theorem ud_ok (l : List UInt8) (h0 : headBad l = false) (h : allDig l = true) (hl : decNum l ≤ 4611686018427387903) : udCode l = 0 ∧ udN l = decNum l := by
  have : udCode l = 0 := by simp [udCode, h0, h]; omega
  exact ⟨this, by simp [udN, this]⟩
theorem allDig_snoc (l : List UInt8) (k : Nat) (hk : k < l.length) (h : allDig (l.take k) = true) (hc : isDig l[k] = true) : allDig (l.take (k + 1)) = true := by
  rw [List.take_succ_eq_append_getElem hk]
  simp only [allDig, List.all_append] at h ⊢
  simp [h, hc]
theorem allDig_not (l : List UInt8) (k : Nat) (hk : k < l.length) (hc : isDig l[k] = false) : allDig l = false := by
  cases h : allDig l with
  | false => rfl
  | true =>
    have := List.all_eq_true.1 h l[k] (List.getElem_mem hk)
    rw [hc] at this
    cases this
theorem nd_le : ∀ (k u : Nat), 1 ≤ k → u < 10 ^ k → Lib.nDigits u ≤ k
  | 0, _, h, _ => by omega
  | k + 1, u, _, h => by
    by_cases hu : u < 10
    · rw [Lib.nDigits_small hu]; omega
    · rw [Lib.nDigits_big hu]
      rcases Nat.eq_zero_or_pos k with rfl | hk
      · simp at h; omega
      · rw [Nat.pow_succ] at h
        have := nd_le k (u / 10) hk (by omega)
        omega
theorem dec_len (n : Nat) (h : n < 9223372036854775808) : (Lib.decDigits n).length ≤ 19 := by
  rw [Lib.decDigits_length]
  exact nd_le 19 n (by omega) (by omega)
theorem dec_big {u : Nat} (h : ¬ u < 10) : Lib.decDigits u = Lib.decDigits (u / 10) ++ [UInt8.ofNat (48 + u % 10)] := by rw [Lib.decDigits, dif_neg h]
theorem dig_back (c : UInt8) (h : isDig c = true) : UInt8.ofNat (48 + (c.toNat - 48)) = c := by
  simp only [isDig, Bool.and_eq_true, decide_eq_true_eq] at h
  apply UInt8.toNat_inj.1
  rw [UInt8.toNat_ofNat']
  omega
theorem dec_cons : ∀ (n : Nat) (c : UInt8) (r : List UInt8), r.length = n → c.toNat ≠ 48 → allDig (c :: r) = true → Lib.decDigits (decNum (c :: r)) = c :: r
  | 0, c, r, hr, hc, ha => by
    have : r = [] := List.eq_nil_of_length_eq_zero hr
    subst this
    have hd : isDig c = true := by simpa [allDig] using ha
    have hd' := hd
    simp only [isDig, Bool.and_eq_true, decide_eq_true_eq] at hd
    have e : decNum [c] = c.toNat - 48 := by simp [decNum]
    rw [e, Lib.decDigits_one (by omega), dig_back c hd']
  | n + 1, c, r, hr, hc, ha => by
    have hne : r ≠ [] := fun e => by rw [e] at hr; simp at hr
    obtain ⟨m, d, rfl⟩ : ∃ m d, r = m ++ [d] := ⟨r.dropLast, r.getLast hne, (List.dropLast_concat_getLast hne).symm⟩
    simp only [List.length_append, List.length_singleton] at hr
    have ha2 : allDig (c :: m) = true ∧ isDig d = true := by
      rw [← List.cons_append] at ha
      simp only [allDig, List.all_append] at ha
      simp at ha ⊢
      simp [allDig, ha]
      exact ha.1.2
    have ih := dec_cons n c m (by omega) hc ha2.1
    have hd := ha2.2
    have hd' := hd
    simp only [isDig, Bool.and_eq_true, decide_eq_true_eq] at hd
    have hcd : isDig c = true := by
      have := ha2.1
      simp only [allDig, List.all_cons, Bool.and_eq_true] at this
      exact this.1
    simp only [isDig, Bool.and_eq_true, decide_eq_true_eq] at hcd
    have h1 : 1 ≤ decNum (c :: m) := by
      have := decNum_take (c :: m) 1
      have e : decNum ((c :: m).take 1) = c.toNat - 48 := by simp [decNum]
      omega
    have e : decNum (c :: (m ++ [d])) = 10 * decNum (c :: m) + (d.toNat - 48) := by rw [← List.cons_append, decNum_snoc]
    rw [e, dec_big (by omega), show (10 * decNum (c :: m) + (d.toNat - 48)) / 10 = decNum (c :: m) by omega, show (10 * decNum (c :: m) + (d.toNat - 48)) % 10 = d.toNat - 48 by omega, ih, dig_back d hd']
    rfl
theorem dec_back (l : List UInt8) (h0 : headBad l = false) (h : allDig l = true) : Lib.decDigits (decNum l) = l := by
  cases l with
  | nil => simp [headBad] at h0
  | cons c r =>
    by_cases hc : c.toNat = 48
    · have hr : r = [] := by simpa [headBad, hc] using h0
      subst hr
      have hd : isDig c = true := by simpa [allDig] using h
      have e : decNum [c] = c.toNat - 48 := by simp [decNum]
      rw [e, Lib.decDigits_one (by omega), dig_back c hd]
    · exact dec_cons _ c r rfl hc h
end Go.Proofs.YtpheifdpjcppdaaGreatDoor

/- Numbers as bytes, in plain words. -/
import Derived.Test.YtkhkminhlpjkgaaDoorCodE
namespace Go.Proofs.YtkhkminhlpjkgaaDoor
open Go Go.RowKit
theorem toNat_ofInt_u64 (a : Nat) (ha : a < 18446744073709551616) : (BitVec.ofInt 64 (a : Int)).toNat = a := by
  rw [BitVec.ofInt_natCast, BitVec.toNat_ofNat]
  exact Nat.mod_eq_of_lt (by omega)
theorem bits_or_u64 (a b : Nat) (ha : a < 18446744073709551616) (hb : b < 18446744073709551616) : bits .or .u64 (a : Int) (b : Int) = ((a ||| b : Nat) : Int) := by
  have hx : a ||| b < 2 ^ 64 := Nat.or_lt_two_pow (by omega) (by omega)
  show IntKind.u64.wrap ((BitVec.ofInt 64 (a : Int) ||| BitVec.ofInt 64 (b : Int)).toNat : Int) = _
  rw [BitVec.toNat_or, toNat_ofInt_u64 a ha, toNat_ofInt_u64 b hb, IntKind.wrap_u64]
  omega
theorem or_high (k a b : Nat) (hb : b < 2 ^ k) : a * 2 ^ k ||| b = a * 2 ^ k + b := by
  rw [Nat.mul_comm, ← Nat.two_pow_add_eq_or_of_lt hb a]
/-- The number whose bytes these are, the highest first. -/
def beN (l : List UInt8) : Nat := l.foldl (fun n b => n * 256 + b.toNat) 0
theorem beN_snoc (l : List UInt8) (b : UInt8) : beN (l ++ [b]) = beN l * 256 + b.toNat := by simp [beN]
/-- The lowest first. -/
def leN : List UInt8 → Nat
  | [] => 0
  | b :: r => b.toNat + 256 * leN r
theorem leN_snoc (l : List UInt8) (b : UInt8) : leN (l ++ [b]) = leN l + b.toNat * 256 ^ l.length := by
  induction l with
  | nil => simp [leN]
  | cons x l ih =>
    simp only [List.cons_append, leN, ih, List.length_cons, Nat.pow_succ, Nat.mul_add]
    rw [← Nat.add_assoc]
    congr 1
    rw [Nat.mul_left_comm, Nat.mul_comm 256]
theorem leN_rev (l : List UInt8) : beN l.reverse = leN l := by
  induction l with
  | nil => rfl
  | cons x l ih => rw [List.reverse_cons, beN_snoc, ih, leN]; omega
theorem leN_lt (l : List UInt8) : leN l < 256 ^ l.length := by
  induction l with
  | nil => simp [leN]
  | cons x l ih =>
    have := x.toNat_lt
    simp only [leN, List.length_cons, Nat.pow_succ]
    omega
theorem beN_lt (l : List UInt8) : beN l < 256 ^ l.length := by
  have := leN_lt l.reverse
  rwa [← leN_rev, List.reverse_reverse, List.length_reverse] at this
theorem beN_lt8 (l : List UInt8) (h : l.length ≤ 7) : beN l < 72057594037927936 :=
  Nat.lt_of_lt_of_le (beN_lt l) (show 256 ^ l.length ≤ 256 ^ 7 from Nat.pow_le_pow_right (by omega) h)
theorem beN_be (n : Nat) : ∀ i, beN (beL n i) = n % 256 ^ i := by
  have key : ∀ i a, (beL n i).foldl (fun m b => m * 256 + b.toNat) a = a * 256 ^ i + n % 256 ^ i := by
    intro i
    induction i with
    | zero => intro a; simp [beL]; omega
    | succ i ih =>
      intro a
      simp only [beL, List.foldl_cons]
      rw [ih]
      have h1 : n % 256 ^ (i + 1) = 256 ^ i * (n / 256 ^ i % 256) + n % 256 ^ i := by
        rw [Nat.pow_succ, Nat.mod_mul, Nat.add_comm]
      rw [h1, UInt8.toNat_ofNat', Nat.add_mul, Nat.pow_succ]
      show a * 256 * 256 ^ i + n / 256 ^ i % 256 * 256 ^ i + _ = _
      rw [Nat.mul_assoc a, Nat.mul_comm 256 (256 ^ i), Nat.mul_comm (n / 256 ^ i % 256), Nat.add_assoc, Nat.pow_succ]
  intro i
  have := key i 0
  rw [Nat.zero_mul, Nat.zero_add] at this
  exact this
theorem beL_mod (n : Nat) : ∀ i j, i ≤ j → beL (n % 256 ^ j) i = beL n i := by
  intro i
  induction i with
  | zero => intro j _; rfl
  | succ i ih =>
    intro j hj
    simp only [beL]
    rw [ih j (by omega)]
    congr 1
    apply UInt8.toNat_inj.1
    rw [UInt8.toNat_ofNat', UInt8.toNat_ofNat']
    obtain ⟨d, rfl⟩ : ∃ d, j = i + 1 + d := ⟨j - (i + 1), by omega⟩
    rw [Nat.add_assoc, Nat.pow_add, Nat.mod_mul_right_div_self]
    show n / 256 ^ i % 256 ^ (1 + d) % 256 = n / 256 ^ i % 256
    exact Nat.mod_mod_of_dvd _ ⟨256 ^ d, by rw [Nat.pow_add]⟩
end Go.Proofs.YtkhkminhlpjkgaaDoor

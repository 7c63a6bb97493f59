/- Signs of six bits, read: plain words and the way back. -/
import Derived.Test.YtkhkminhlpjkgaaDoorCodS
import Derived.Lib.Strings
namespace Go.Proofs.YtkhkminhlpjkgaaDoor
open Go
/-- A sign's number; of no sign 0. -/
def sv (c : UInt8) : Nat := (Lib.indexByte signs c).toNat
theorem sv_lt (c : UInt8) : sv c < 64 := by
  have h := indexByte_lt signs c
  have e : signs.length = 64 := rfl
  unfold sv
  omega
theorem sv_max (c : UInt8) : max 0 (Lib.indexByte signs c) = (sv c : Int) := by unfold sv; omega
theorem sv_signD (q : Nat) (h : q < 64) : sv (signD q) = q := by
  have : ∀ q : Fin 64, sv (signD q.val) = q.val := by decide +kernel
  exact this ⟨q, h⟩
theorem sv_pad : sv 61 = 0 := by decide +kernel
theorem signD_ne (q : Nat) (h : q < 64) : signD q ≠ 61 := by
  have : ∀ q : Fin 64, signD q.val ≠ 61 := by decide +kernel
  exact this ⟨q, h⟩
def acc (l : List UInt8) : Nat := l.foldl (fun n c => n * 64 + sv c) 0
theorem acc_snoc (l : List UInt8) (c : UInt8) : acc (l ++ [c]) = acc l * 64 + sv c := by simp [acc]
def out3 (n : Nat) : List UInt8 := [UInt8.ofNat (n / 65536), UInt8.ofNat (n / 256), UInt8.ofNat n]
def un64raw : List UInt8 → List UInt8
  | a :: b :: c :: d :: r => out3 (acc [a, b, c, d]) ++ un64raw r
  | _ => []
theorem un64raw_append (x y : List UInt8) (h : x.length % 4 = 0) : un64raw (x ++ y) = un64raw x ++ un64raw y := by
  induction x using un64raw.induct with
  | case1 a b c d r ih => simp only [List.length_cons] at h; simp [un64raw, ih (by omega)]
  | case2 l hl =>
    match l, hl, h with
    | [], _, _ => simp [un64raw]
    | [a], _, h => simp at h
    | [a, b], _, h => simp at h
    | [a, b, c], _, h => simp at h
    | a :: b :: c :: d :: r, hl, _ => exact absurd rfl (hl a b c d r)
theorem un64raw_length (x : List UInt8) : (un64raw x).length = x.length / 4 * 3 := by
  induction x using un64raw.induct with
  | case1 a b c d r ih => simp [un64raw, out3, ih]; omega
  | case2 l hl =>
    match l, hl with
    | [], _ => simp [un64raw]
    | [a], _ => simp [un64raw]
    | [a, b], _ => simp [un64raw]
    | [a, b, c], _ => simp [un64raw]
    | a :: b :: c :: d :: r, hl => exact absurd rfl (hl a b c d r)
theorem un64raw_take (l : List UInt8) (k : Nat) (h : 4 * k + 4 ≤ l.length) :
    un64raw (l.take (4 * (k + 1))) = un64raw (l.take (4 * k)) ++ out3 (acc ((l.drop (4 * k)).take 4)) := by
  have e : l.take (4 * (k + 1)) = l.take (4 * k) ++ (l.drop (4 * k)).take 4 := by
    rw [show 4 * (k + 1) = 4 * k + 4 by omega, List.take_add]
  rw [e, un64raw_append _ _ (by rw [List.length_take]; omega)]
  congr 1
  have hl : ((l.drop (4 * k)).take 4).length = 4 := by rw [List.length_take, List.length_drop]; omega
  match hh : (l.drop (4 * k)).take 4, hl with
  | [a, b, c, d], _ => simp [un64raw]
theorem acc_four (a b c : UInt8) (n : Nat) (h : n = 3 ∨ (n = 2 ∧ c = 0) ∨ (n = 1 ∧ b = 0 ∧ c = 0)) : acc (four a b c n) = bits3 a b c := by
  have hb := bits3_lt a b c
  have e : ∀ q, q % 64 < 64 := fun q => Nat.mod_lt _ (by omega)
  have h0 : sv (signD (bits3 a b c / 262144 % 64)) = bits3 a b c / 262144 % 64 := sv_signD _ (e _)
  have h1 : sv (signD (bits3 a b c / 4096 % 64)) = bits3 a b c / 4096 % 64 := sv_signD _ (e _)
  have h2 : sv (signD (bits3 a b c / 64 % 64)) = bits3 a b c / 64 % 64 := sv_signD _ (e _)
  have h3 : sv (signD (bits3 a b c % 64)) = bits3 a b c % 64 := sv_signD _ (e _)
  rcases h with rfl | ⟨rfl, rfl⟩ | ⟨rfl, rfl, rfl⟩
  · simp [acc, four, sign4, h0, h1, h2, h3]
    omega
  · simp [acc, four, sign4, h0, h1, h2, sv_pad]
    unfold bits3 at *
    simp at *
    omega
  · simp [acc, four, sign4, h0, h1, sv_pad]
    unfold bits3 at *
    simp at *
    omega
theorem out3_bits3 (a b c : UInt8) : out3 (bits3 a b c) = [a, b, c] := by
  have ha := a.toNat_lt; have hb := b.toNat_lt; have hc := c.toNat_lt
  unfold out3 bits3
  congr 1
  · apply UInt8.toNat_inj.1; simp; omega
  · congr 1
    · apply UInt8.toNat_inj.1; simp; omega
    · congr 1
      apply UInt8.toNat_inj.1; simp
def padN (n : Nat) : Nat := (3 - n % 3) % 3
theorem un64raw_base (l : List UInt8) : un64raw (base64L l) = l ++ List.replicate (padN l.length) 0 := by
  induction l using base64L.induct with
  | case1 a b c r ih =>
    have e : padN (a :: b :: c :: r).length = padN r.length := by simp [padN]; omega
    rw [e, base64L, un64raw_append _ _ (by simp [four]), ih]
    simp only [four, un64raw]
    have := acc_four a b c 3 (.inl rfl)
    unfold four at this
    rw [this, out3_bits3]
    simp
  | case2 a b =>
    have := acc_four a b 0 2 (.inr (.inl ⟨rfl, rfl⟩))
    unfold four at this
    simp only [base64L, four, un64raw, this, out3_bits3]
    simp [padN]
  | case3 a =>
    have := acc_four a 0 0 1 (.inr (.inr ⟨rfl, rfl, rfl⟩))
    unfold four at this
    simp only [base64L, four, un64raw, this, out3_bits3]
    simp [padN]
  | case4 => simp [base64L, un64raw, padN]
def un64cut (l : List UInt8) : List UInt8 :=
  if Lib.hasSuffix l [61, 61] = true then (un64raw l).take ((un64raw l).length - 2)
  else if Lib.hasSuffix l [61] = true then (un64raw l).take ((un64raw l).length - 1) else un64raw l
theorem suffix2 (X : List UInt8) (a b c d : UInt8) : Lib.hasSuffix (X ++ [a, b, c, d]) [61, 61] = (61 == d && 61 == c) := by
  simp [Lib.hasSuffix, List.isSuffixOf, List.isPrefixOf]
theorem suffix1 (X : List UInt8) (a b c d : UInt8) : Lib.hasSuffix (X ++ [a, b, c, d]) [61] = (61 == d) := by
  simp [Lib.hasSuffix, List.isSuffixOf, List.isPrefixOf]
theorem split3 (l : List UInt8) (h : l ≠ []) : ∃ d t, l = d ++ t ∧ d.length % 3 = 0 ∧ ((∃ a, t = [a]) ∨ (∃ a b, t = [a, b]) ∨ (∃ a b c, t = [a, b, c])) := by
  have hp := List.length_pos_iff.2 h
  refine ⟨l.take (3 * ((l.length - 1) / 3)), l.drop (3 * ((l.length - 1) / 3)), (List.take_append_drop _ _).symm, by rw [List.length_take]; omega, ?_⟩
  have hl : (l.drop (3 * ((l.length - 1) / 3))).length = l.length - 3 * ((l.length - 1) / 3) := List.length_drop
  generalize l.drop (3 * ((l.length - 1) / 3)) = t at hl
  match t, hl with
  | [], hl => simp at hl; omega
  | [a], _ => exact .inl ⟨a, rfl⟩
  | [a, b], _ => exact .inr (.inl ⟨a, b, rfl⟩)
  | [a, b, c], _ => exact .inr (.inr ⟨a, b, c, rfl⟩)
  | a :: b :: c :: d :: r, hl => simp at hl; omega
theorem un64cut_base (l : List UInt8) : un64cut (base64L l) = l := by
  by_cases h : l = []
  · subst h; simp [un64cut, base64L, un64raw, Lib.hasSuffix]
  · have hraw := un64raw_base l
    have hlen : (un64raw (base64L l)).length = l.length + padN l.length := by rw [hraw]; simp
    have e : ∀ q, q % 64 < 64 := fun q => Nat.mod_lt _ (by omega)
    obtain ⟨d, t, hl, hd, ht⟩ := split3 l h
    rcases ht with ⟨a, rfl⟩ | ⟨a, b, rfl⟩ | ⟨a, b, c, rfl⟩
    · have hb : base64L l = base64L d ++ [sign4 a 0 0 1 0, sign4 a 0 0 1 1, 61, 61] := by rw [hl, base64L_append _ _ hd]; simp [base64L, four, sign4]
      have hp : padN l.length = 2 := by rw [hl]; simp [padN]; omega
      unfold un64cut
      rw [if_pos (by rw [hb, suffix2]; rfl), hlen, hraw, hp]
      simp
    · have hb : base64L l = base64L d ++ [sign4 a b 0 2 0, sign4 a b 0 2 1, sign4 a b 0 2 2, 61] := by rw [hl, base64L_append _ _ hd]; simp [base64L, four, sign4]
      have hp : padN l.length = 1 := by rw [hl]; simp [padN]; omega
      have hne : sign4 a b 0 2 2 ≠ 61 := by simp only [sign4]; exact signD_ne _ (e _)
      unfold un64cut
      rw [if_neg (by rw [hb, suffix2]; simp [Ne.symm hne]), if_pos (by rw [hb, suffix1]; rfl), hlen, hraw, hp]
      simp
    · have hb : base64L l = base64L d ++ [sign4 a b c 3 0, sign4 a b c 3 1, sign4 a b c 3 2, sign4 a b c 3 3] := by rw [hl, base64L_append _ _ hd]; simp [base64L, four]
      have hp : padN l.length = 0 := by rw [hl]; simp [padN]; omega
      have hne : sign4 a b c 3 3 ≠ 61 := by simp only [sign4]; exact signD_ne _ (e _)
      unfold un64cut
      rw [if_neg (by rw [hb, suffix2]; simp [Ne.symm hne]), if_neg (by rw [hb, suffix1]; simp [Ne.symm hne]), hraw, hp]
      simp
/-- The code and the bytes of a text of signs. -/
def un64Code (l : List UInt8) : Int := if l.length % 4 = 0 then (if base64L (un64cut l) = l then 0 else 3) else 2
def un64R (l : List UInt8) : List UInt8 := if un64Code l = 0 then un64cut l else []
theorem un64_short (l : List UInt8) (h : ¬ l.length % 4 = 0) : un64Code l = 2 ∧ un64R l = [] := by
  unfold un64R un64Code; simp [h]
theorem un64_form (l : List UInt8) (h : l.length % 4 = 0) (h2 : ¬ base64L (un64cut l) = l) : un64Code l = 3 ∧ un64R l = [] := by
  unfold un64R un64Code; simp [h, h2]
theorem un64_ok (l : List UInt8) (h : l.length % 4 = 0) (h2 : base64L (un64cut l) = l) : un64Code l = 0 ∧ un64R l = un64cut l := by
  unfold un64R un64Code; simp [h, h2]
theorem un64_back (l : List UInt8) : un64Code (base64L l) = 0 ∧ un64R (base64L l) = l := by
  have h := un64_ok (base64L l) (by rw [base64L_length]; omega) (by rw [un64cut_base])
  rw [un64cut_base] at h
  exact h
end Go.Proofs.YtkhkminhlpjkgaaDoor

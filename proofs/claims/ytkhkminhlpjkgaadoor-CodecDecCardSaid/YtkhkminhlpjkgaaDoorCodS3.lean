/- Signs of six bits, bit by bit: plain words; it is the same text. -/
import Derived.Test.YtkhkminhlpjkgaaDoorCodS2
namespace Go.Proofs.YtkhkminhlpjkgaaDoor
open Go
/-- A bit of bytes, the highest of the first byte first; 0 behind them. -/
def bitAt (l : List UInt8) (i : Nat) : Nat := if l.length ≤ i / 8 then 0 else (l.getD (i / 8) 0).toNat / 2 ^ (7 - i % 8) % 2
theorem bitAt_le (l : List UInt8) (i : Nat) : bitAt l i ≤ 1 := by unfold bitAt; split <;> omega
def sixN (l : List UInt8) (i : Nat) : Nat → Nat
  | 0 => 0
  | k + 1 => 2 * sixN l i k + bitAt l (i + k)
theorem sixN_lt (l : List UInt8) (i k : Nat) : sixN l i k < 2 ^ k := by
  induction k with
  | zero => simp [sixN]
  | succ k ih => have := bitAt_le l (i + k); simp only [sixN, Nat.pow_succ]; omega
theorem bitAt_cons3 (a b c : UInt8) (r : List UInt8) (i : Nat) : bitAt (a :: b :: c :: r) (i + 24) = bitAt r i := by
  unfold bitAt
  have e1 : (i + 24) / 8 = i / 8 + 3 := by omega
  have e2 : (i + 24) % 8 = i % 8 := by omega
  rw [e1, e2]
  simp
theorem sixN_cons3 (a b c : UInt8) (r : List UInt8) (i k : Nat) : sixN (a :: b :: c :: r) (i + 24) k = sixN r i k := by
  induction k with
  | zero => rfl
  | succ k ih => simp only [sixN, ih]; rw [show i + 24 + k = i + k + 24 by omega, bitAt_cons3]
def rsigns (l : List UInt8) (n : Nat) : List UInt8 := (List.range n).map fun j => signD (sixN l (6 * j) 6)
theorem rsigns_length (l : List UInt8) (n : Nat) : (rsigns l n).length = n := by simp [rsigns]
theorem rsigns_succ (l : List UInt8) (n : Nat) : rsigns l (n + 1) = rsigns l n ++ [signD (sixN l (6 * n) 6)] := by simp [rsigns, List.range_succ]
theorem rsigns_cons3 (a b c : UInt8) (r : List UInt8) (n : Nat) : rsigns (a :: b :: c :: r) (n + 4) = rsigns (a :: b :: c :: r) 4 ++ rsigns r n := by
  unfold rsigns
  rw [Nat.add_comm n 4, List.range_add, List.map_append, List.map_map]
  congr 1
  apply List.map_congr_left
  intro j _
  show signD (sixN (a :: b :: c :: r) (6 * (4 + j)) 6) = _
  rw [show 6 * (4 + j) = 6 * j + 24 by omega, sixN_cons3]
def r64N (n : Nat) : Nat := (8 * n + 5) / 6
def r64 (l : List UInt8) : List UInt8 := rsigns l (r64N l.length) ++ List.replicate ((4 - r64N l.length % 4) % 4) 61
theorem four_bits (a b c : UInt8) (r : List UInt8) : rsigns (a :: b :: c :: r) 4 = four a b c 3 := by
  have ha := a.toNat_lt; have hb := b.toNat_lt; have hc := c.toNat_lt
  have e : ∀ j, j < 4 → sixN (a :: b :: c :: r) (6 * j) 6 = bits3 a b c / 2 ^ (18 - 6 * j) % 64 := by
    intro j hj
    unfold bits3
    obtain rfl | rfl | rfl | rfl : j = 0 ∨ j = 1 ∨ j = 2 ∨ j = 3 := by omega
    all_goals
      simp [sixN, bitAt]
      omega
  simp only [rsigns, four, sign4, List.range_succ, List.range_zero, List.map_append, List.map_cons, List.map_nil, List.nil_append, List.cons_append]
  rw [e 0 (by omega), e 1 (by omega), e 2 (by omega), e 3 (by omega)]
  rfl
theorem two_bits (a : UInt8) : rsigns [a] 2 = [sign4 a 0 0 1 0, sign4 a 0 0 1 1] := by
  have ha := a.toNat_lt
  have e : ∀ j, j < 2 → sixN [a] (6 * j) 6 = bits3 a 0 0 / 2 ^ (18 - 6 * j) % 64 := by
    intro j hj
    unfold bits3
    obtain rfl | rfl : j = 0 ∨ j = 1 := by omega
    all_goals
      simp [sixN, bitAt]
      omega
  simp only [rsigns, sign4, List.range_succ, List.range_zero, List.map_append, List.map_cons, List.map_nil, List.nil_append, List.cons_append]
  rw [e 0 (by omega), e 1 (by omega)]
  rfl
theorem three_bits (a b : UInt8) : rsigns [a, b] 3 = [sign4 a b 0 2 0, sign4 a b 0 2 1, sign4 a b 0 2 2] := by
  have ha := a.toNat_lt; have hb := b.toNat_lt
  have e : ∀ j, j < 3 → sixN [a, b] (6 * j) 6 = bits3 a b 0 / 2 ^ (18 - 6 * j) % 64 := by
    intro j hj
    unfold bits3
    obtain rfl | rfl | rfl : j = 0 ∨ j = 1 ∨ j = 2 := by omega
    all_goals
      simp [sixN, bitAt]
      omega
  simp only [rsigns, sign4, List.range_succ, List.range_zero, List.map_append, List.map_cons, List.map_nil, List.nil_append, List.cons_append]
  rw [e 0 (by omega), e 1 (by omega), e 2 (by omega)]
  rfl
theorem r64_eq (l : List UInt8) : r64 l = base64L l := by
  induction l using base64L.induct with
  | case1 a b c r ih =>
    have e : r64N (a :: b :: c :: r).length = r64N r.length + 4 := by simp [r64N]; omega
    unfold r64 at ih ⊢
    rw [e, rsigns_cons3, four_bits, base64L, ← ih, List.append_assoc]
    congr 3
    omega
  | case2 a b =>
    have e : r64N [a, b].length = 3 := by simp [r64N]
    unfold r64
    rw [e, three_bits]
    simp [base64L, four, sign4]
  | case3 a =>
    have e : r64N [a].length = 2 := by simp [r64N]
    unfold r64
    rw [e, two_bits]
    simp [base64L, four, sign4]
  | case4 => simp [r64, r64N, rsigns, base64L]
/- Reading, sign by sign: (rest, its bits, bytes). -/
def dstep (x : Nat × Nat × List UInt8) (v : Nat) : Nat × Nat × List UInt8 :=
  if 8 ≤ x.2.1 + 6 then ((64 * x.1 + v) % 2 ^ (x.2.1 + 6 - 8), x.2.1 + 6 - 8, x.2.2 ++ [UInt8.ofNat ((64 * x.1 + v) / 2 ^ (x.2.1 + 6 - 8))]) else (64 * x.1 + v, x.2.1 + 6, x.2.2)
def dread (l : List UInt8) : Nat × Nat × List UInt8 := l.foldl (fun x c => dstep x (sv c)) (0, 0, [])
theorem dread_snoc (l : List UInt8) (c : UInt8) : dread (l ++ [c]) = dstep (dread l) (sv c) := by simp [dread]
def allSign (l : List UInt8) : Bool := l.all fun c => decide (0 ≤ Lib.indexByte signs c)
/-- How many signs stand ahead of the (at most two) fill signs. -/
def endOf (l : List UInt8) : Nat := if Lib.hasSuffix l [61, 61] = true then l.length - 2 else if Lib.hasSuffix l [61] = true then l.length - 1 else l.length
def rraw (l : List UInt8) : List UInt8 := (dread (l.take (endOf l))).2.2
def DInv (x : Nat × Nat × List UInt8) : Prop := x.1 < 2 ^ x.2.1 ∧ x.2.1 ≤ 6 ∧ x.2.1 % 2 = 0
theorem dstep_inv (x : Nat × Nat × List UInt8) (v : Nat) (hv : v < 64) (h : DInv x) : DInv (dstep x v) := by
  obtain ⟨h1, h2, h3⟩ := h
  by_cases h8 : 8 ≤ x.2.1 + 6
  · rw [dstep, if_pos h8]
    refine ⟨Nat.mod_lt _ (Nat.two_pow_pos _), ?_, ?_⟩
    · show x.2.1 + 6 - 8 ≤ 6; omega
    · show (x.2.1 + 6 - 8) % 2 = 0; omega
  · rw [dstep, if_neg h8]
    have h0 : x.2.1 = 0 := by omega
    rw [h0] at h1
    have hx : x.1 = 0 := by simpa using h1
    refine ⟨?_, ?_, ?_⟩
    · show 64 * x.1 + v < 2 ^ (x.2.1 + 6)
      rw [h0, hx]
      omega
    · show x.2.1 + 6 ≤ 6; omega
    · show (x.2.1 + 6) % 2 = 0; omega
theorem dfold_inv (l : List UInt8) : ∀ x, DInv x → DInv (l.foldl (fun x c => dstep x (sv c)) x) := by
  induction l with
  | nil => intro x h; exact h
  | cons c r ih => intro x h; exact ih _ (dstep_inv x (sv c) (sv_lt c) h)
theorem dread_inv (l : List UInt8) : DInv (dread l) := dfold_inv l _ ⟨by decide, by decide, by decide⟩
theorem sgn (q : Nat) : sv (signD (q % 64)) = q % 64 := sv_signD _ (Nat.mod_lt _ (by omega))
theorem dfold_four (a b c : UInt8) (o : List UInt8) : (four a b c 3).foldl (fun x c => dstep x (sv c)) (0, 0, o) = (0, 0, o ++ [a, b, c]) := by
  have ha := a.toNat_lt; have hb := b.toNat_lt; have hc := c.toNat_lt
  have hB := bits3_lt a b c
  simp [four, sign4, dstep, sgn]
  unfold bits3 at *
  refine ⟨by omega, ?_, ?_, ?_⟩
  · apply UInt8.toNat_inj.1; simp; omega
  · apply UInt8.toNat_inj.1; simp; omega
  · apply UInt8.toNat_inj.1; simp; omega
theorem dfold_base (d : List UInt8) (h : d.length % 3 = 0) (o : List UInt8) : (base64L d).foldl (fun x c => dstep x (sv c)) (0, 0, o) = (0, 0, o ++ d) := by
  induction d using base64L.induct generalizing o with
  | case1 a b c r ih =>
    simp only [List.length_cons] at h
    rw [base64L, List.foldl_append, dfold_four, ih (by omega)]
    simp
  | case2 a b => simp at h
  | case3 a => simp at h
  | case4 => simp [base64L]
theorem allSign_append (x y : List UInt8) : allSign (x ++ y) = (allSign x && allSign y) := by simp [allSign]
theorem isSign (q : Nat) : decide (0 ≤ Lib.indexByte signs (signD (q % 64))) = true := by
  have : ∀ q : Fin 64, decide (0 ≤ Lib.indexByte signs (signD q.val)) = true := by decide +kernel
  exact this ⟨q % 64, Nat.mod_lt _ (by omega)⟩
theorem allSign_base (d : List UInt8) (h : d.length % 3 = 0) : allSign (base64L d) = true := by
  induction d using base64L.induct with
  | case1 a b c r ih =>
    simp only [List.length_cons] at h
    rw [base64L, allSign_append, ih (by omega)]
    simp [allSign, four, sign4]
    refine ⟨?_, ?_, ?_, ?_⟩ <;> exact of_decide_eq_true (isSign _)
  | case2 a b => simp at h
  | case3 a => simp at h
  | case4 => simp [base64L, allSign]
theorem rraw_base (l : List UInt8) : rraw (base64L l) = l ∧ allSign ((base64L l).take (endOf (base64L l))) = true := by
  by_cases h : l = []
  · subst h; simp [rraw, base64L, endOf, Lib.hasSuffix, dread, allSign]
  · have e : ∀ q, q % 64 < 64 := fun q => Nat.mod_lt _ (by omega)
    obtain ⟨d, t, hl, hd, ht⟩ := split3 l h
    rcases ht with ⟨a, rfl⟩ | ⟨a, b, rfl⟩ | ⟨a, b, c, rfl⟩
    · have hb : base64L l = base64L d ++ [sign4 a 0 0 1 0, sign4 a 0 0 1 1, 61, 61] := by rw [hl, base64L_append _ _ hd]; simp [base64L, four, sign4]
      have ht : (base64L l).take (endOf (base64L l)) = base64L d ++ [sign4 a 0 0 1 0, sign4 a 0 0 1 1] := by
        unfold endOf
        rw [if_pos (by rw [hb, suffix2]; rfl), hb]
        rw [show (base64L d ++ [sign4 a 0 0 1 0, sign4 a 0 0 1 1, 61, 61]) = (base64L d ++ [sign4 a 0 0 1 0, sign4 a 0 0 1 1]) ++ [61, 61] by simp]
        exact List.take_left' (by simp)
      unfold rraw
      rw [ht]
      refine ⟨?_, ?_⟩
      · unfold dread
        rw [List.foldl_append, dfold_base d hd, hl]
        have ha := a.toNat_lt
        simp [sign4, dstep, sgn]
        apply UInt8.toNat_inj.1
        simp [bits3]
        omega
      · rw [allSign_append, allSign_base d hd]
        simp [allSign, sign4]
        exact ⟨of_decide_eq_true (isSign _), of_decide_eq_true (isSign _)⟩
    · have hb : base64L l = base64L d ++ [sign4 a b 0 2 0, sign4 a b 0 2 1, sign4 a b 0 2 2, 61] := by rw [hl, base64L_append _ _ hd]; simp [base64L, four, sign4]
      have hne : sign4 a b 0 2 2 ≠ 61 := by simp only [sign4]; exact signD_ne _ (e _)
      have ht : (base64L l).take (endOf (base64L l)) = base64L d ++ [sign4 a b 0 2 0, sign4 a b 0 2 1, sign4 a b 0 2 2] := by
        unfold endOf
        rw [if_neg (by rw [hb, suffix2]; simp [Ne.symm hne]), if_pos (by rw [hb, suffix1]; rfl), hb]
        rw [show (base64L d ++ [sign4 a b 0 2 0, sign4 a b 0 2 1, sign4 a b 0 2 2, 61]) = (base64L d ++ [sign4 a b 0 2 0, sign4 a b 0 2 1, sign4 a b 0 2 2]) ++ [61] by simp]
        exact List.take_left' (by simp)
      unfold rraw
      rw [ht]
      refine ⟨?_, ?_⟩
      · unfold dread
        rw [List.foldl_append, dfold_base d hd, hl]
        have ha := a.toNat_lt; have hb := b.toNat_lt
        simp [sign4, dstep, sgn]
        refine ⟨?_, ?_⟩
        · apply UInt8.toNat_inj.1
          simp [bits3]
          omega
        · apply UInt8.toNat_inj.1
          simp [bits3]
          omega
      · rw [allSign_append, allSign_base d hd]
        simp [allSign, sign4]
        exact ⟨of_decide_eq_true (isSign _), of_decide_eq_true (isSign _), of_decide_eq_true (isSign _)⟩
    · have hb : base64L l = base64L d ++ [sign4 a b c 3 0, sign4 a b c 3 1, sign4 a b c 3 2, sign4 a b c 3 3] := by rw [hl, base64L_append _ _ hd]; simp [base64L, four]
      have hne : sign4 a b c 3 3 ≠ 61 := by simp only [sign4]; exact signD_ne _ (e _)
      have h3 : l.length % 3 = 0 := by rw [hl, List.length_append]; simp; omega
      have ht : (base64L l).take (endOf (base64L l)) = base64L l := by
        unfold endOf
        rw [if_neg (by rw [hb, suffix2]; simp [Ne.symm hne]), if_neg (by rw [hb, suffix1]; simp [Ne.symm hne])]
        exact List.take_length
      unfold rraw
      rw [ht]
      refine ⟨?_, allSign_base l h3⟩
      unfold dread
      rw [dfold_base l h3]
      rfl
/-- The reference's answer is the program's. -/
theorem ref_form (l : List UInt8) (h4 : l.length % 4 = 0) (h : ¬ (allSign (l.take (endOf l)) = true ∧ base64L (rraw l) = l)) : un64Code l = 3 ∧ un64R l = [] := by
  refine un64_form l h4 fun hc => h ?_
  have := rraw_base (un64cut l)
  rw [hc] at this
  exact ⟨this.2, by rw [this.1, hc]⟩
theorem ref_ok (l : List UInt8) (h4 : l.length % 4 = 0) (h : base64L (rraw l) = l) : un64Code l = 0 ∧ un64R l = rraw l := by
  have := un64_back (rraw l)
  rw [h] at this
  exact this
end Go.Proofs.YtkhkminhlpjkgaaDoor

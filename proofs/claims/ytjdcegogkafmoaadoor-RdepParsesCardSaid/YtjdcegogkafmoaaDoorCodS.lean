/- What codec's functions compute, in plain words. -/
import Derived.Lib.Bytealg
import Derived.Lib.IndexLaws
namespace Go.Proofs.YtjdcegogkafmoaaDoor
open Go
def hexs : List UInt8 := [48, 49, 50, 51, 52, 53, 54, 55, 56, 57, 97, 98, 99, 100, 101, 102]
def hexD (n : Nat) : UInt8 := hexs.getD n 0
def hexL : List UInt8 → List UInt8
  | [] => []
  | b :: r => hexD (b.toNat / 16) :: hexD (b.toNat % 16) :: hexL r
theorem hexD_get (n : Nat) (h : n < (⟨#[48, 49, 50, 51, 52, 53, 54, 55, 56, 57, 97, 98, 99, 100, 101, 102]⟩ : ByteArray).size) : (⟨#[48, 49, 50, 51, 52, 53, 54, 55, 56, 57, 97, 98, 99, 100, 101, 102]⟩ : ByteArray)[n] = hexD n := by
  have h' : n < 16 := h
  unfold hexD hexs
  obtain rfl | rfl | rfl | rfl | rfl | rfl | rfl | rfl | rfl | rfl | rfl | rfl | rfl | rfl | rfl | rfl : n = 0 ∨ n = 1 ∨ n = 2 ∨ n = 3 ∨ n = 4 ∨ n = 5 ∨ n = 6 ∨ n = 7 ∨ n = 8 ∨ n = 9 ∨ n = 10 ∨ n = 11 ∨ n = 12 ∨ n = 13 ∨ n = 14 ∨ n = 15 := by omega
  all_goals rfl
theorem hexL_append (a b : List UInt8) : hexL (a ++ b) = hexL a ++ hexL b := by
  induction a with
  | nil => rfl
  | cons x a ih => simp [hexL, ih]
theorem hexL_length (a : List UInt8) : (hexL a).length = 2 * a.length := by
  induction a with
  | nil => rfl
  | cons x a ih => simp [hexL, ih]; omega
theorem indexByte_lt (l : List UInt8) (c : UInt8) : Lib.indexByte l c < l.length := by
  induction l with
  | nil => simp [Lib.indexByte]
  | cons b r ih =>
    simp only [Lib.indexByte, List.length_cons]
    split
    · omega
    · split <;> omega
/-- The place of a byte among the sixteen digits; -1: none. -/
def hv (c : UInt8) : Int := Lib.indexByte hexs c
theorem hv_range (c : UInt8) : -1 ≤ hv c ∧ hv c ≤ 15 := by
  unfold hv
  refine ⟨Lib.indexByte_ge _ _, ?_⟩
  have := indexByte_lt hexs c
  have e : hexs.length = 16 := rfl
  omega
theorem hv_hexD (n : Nat) (h : n < 16) : hv (hexD n) = n := by
  have : ∀ n : Fin 16, hv (hexD n.val) = (n.val : Int) := by decide +kernel
  exact this ⟨n, h⟩
def unhexOut : List UInt8 → List UInt8
  | a :: b :: r => UInt8.ofNat ((hv a).toNat * 16 + (hv b).toNat) :: unhexOut r
  | _ => []
def allHex (l : List UInt8) : Bool := l.all fun c => decide (0 ≤ hv c)
def unhexCode (l : List UInt8) : Int := if allHex l = true then (if l.length % 2 = 0 then 0 else 2) else 3
def unhexR (l : List UInt8) : List UInt8 := if unhexCode l = 0 then unhexOut l else []
theorem unhexOut_snoc (l : List UInt8) (a b : UInt8) (h : l.length % 2 = 0) : unhexOut (l ++ [a, b]) = unhexOut l ++ [UInt8.ofNat ((hv a).toNat * 16 + (hv b).toNat)] := by
  induction l using unhexOut.induct with
  | case1 x y r ih => simp only [List.length_cons] at h; simp [unhexOut, ih (by omega)]
  | case2 l hl =>
    cases l with
    | nil => rfl
    | cons x r => cases r with
      | nil => simp at h
      | cons y r => exact absurd rfl (hl x y r)
theorem unhexOut_length (l : List UInt8) (h : l.length % 2 = 0) : (unhexOut l).length = l.length / 2 := by
  induction l using unhexOut.induct with
  | case1 x y r ih => simp only [List.length_cons] at h ⊢; simp [unhexOut, ih (by omega)]; omega
  | case2 l hl =>
    cases l with
    | nil => rfl
    | cons x r => cases r with
      | nil => simp at h
      | cons y r => exact absurd rfl (hl x y r)
theorem unhex_hex (l : List UInt8) : unhexOut (hexL l) = l := by
  induction l with
  | nil => rfl
  | cons b r ih =>
    have := b.toNat_lt
    simp only [hexL, unhexOut, ih]
    rw [hv_hexD _ (by omega), hv_hexD _ (by omega)]
    congr 1
    apply UInt8.toNat_inj.1
    simp
    omega
theorem allHex_hex (l : List UInt8) : allHex (hexL l) = true := by
  induction l with
  | nil => rfl
  | cons b r ih =>
    have := b.toNat_lt
    unfold allHex at *
    simp only [hexL, List.all_cons, ih, hv_hexD (b.toNat / 16) (by omega), hv_hexD (b.toNat % 16) (by omega)]
    simp
    omega
theorem unhexCode_hex (l : List UInt8) : unhexCode (hexL l) = 0 := by
  unfold unhexCode
  rw [if_pos (allHex_hex l), hexL_length, if_pos (by omega)]
theorem unhexR_hex (l : List UInt8) : unhexR (hexL l) = l := by
  unfold unhexR
  rw [if_pos (unhexCode_hex l), unhex_hex]
theorem allHex_snoc (l : List UInt8) (k : Nat) (h : k < l.length) (ha : allHex (l.take k) = true) (hc : 0 ≤ hv l[k]) : allHex (l.take (k + 1)) = true := by
  unfold allHex at *
  rw [List.take_succ_eq_append_getElem h, List.all_append, ha]
  simp [hc]
theorem allHex_not (l : List UInt8) (k : Nat) (h : k < l.length) (hc : hv l[k] < 0) : allHex l = false := by
  unfold allHex
  rw [List.all_eq_false]
  exact ⟨l[k], List.getElem_mem h, by simp; omega⟩
theorem allHex_at (l : List UInt8) (k : Nat) (h : k < l.length) (ha : allHex l = true) : 0 ≤ hv l[k] := by
  unfold allHex at ha
  have := List.all_eq_true.1 ha l[k] (List.getElem_mem h)
  simpa using this
theorem unhex_form (l : List UInt8) (h : allHex l = false) : unhexCode l = 3 ∧ unhexR l = [] := by
  unfold unhexR unhexCode
  simp [h]
theorem unhex_short (l : List UInt8) (h : allHex l = true) (h2 : l.length % 2 = 1) : unhexCode l = 2 ∧ unhexR l = [] := by
  unfold unhexR unhexCode
  simp [h, h2]
theorem unhex_ok (l : List UInt8) (h : allHex l = true) (h2 : l.length % 2 = 0) : unhexCode l = 0 ∧ unhexR l = unhexOut l := by
  unfold unhexR unhexCode
  simp [h, h2]
theorem unhexOut_take (l : List UInt8) (k : Nat) (h : 2 * k + 1 < l.length) :
    unhexOut (l.take (2 * (k + 1))) = unhexOut (l.take (2 * k)) ++ [UInt8.ofNat ((hv l[2 * k]).toNat * 16 + (hv l[2 * k + 1]).toNat)] := by
  rw [← unhexOut_snoc _ _ _ (by rw [List.length_take]; omega)]
  congr 1
  rw [show 2 * (k + 1) = 2 * k + 1 + 1 by omega, List.take_succ_eq_append_getElem h, List.take_succ_eq_append_getElem (by omega), List.append_assoc]
  rfl
/-- A byte looked for from place k on. -/
def findFrom (c : UInt8) : List UInt8 → Nat → Int
  | [], _ => -1
  | x :: r, k => if x = c then k else findFrom c r (k + 1)
theorem findFrom_eq (c : UInt8) : ∀ (l : List UInt8) (k : Nat), findFrom c l k = if Lib.indexByte l c = -1 then -1 else k + Lib.indexByte l c
  | [], k => by simp [findFrom, Lib.indexByte]
  | x :: r, k => by
    have ih := findFrom_eq c r (k + 1)
    have hge := Lib.indexByte_ge r c
    simp only [findFrom, Lib.indexByte]
    by_cases h : x = c
    · subst h; simp
    · rw [if_neg h, ih]
      simp only [beq_iff_eq, h, if_false]
      by_cases h2 : Lib.indexByte r c = -1
      · simp [h2]
      · rw [if_neg h2]
        simp only [h2, if_false]
        rw [if_neg (by omega)]
        omega
theorem findFrom_zero (c : UInt8) (l : List UInt8) : findFrom c l 0 = Lib.indexByte l c := by
  rw [findFrom_eq]
  split
  · rename_i h; exact h.symm
  · simp
theorem findFrom_hit (c : UInt8) (l : List UInt8) (k : Nat) (h : k < l.length) (e : l[k] = c) : findFrom c (l.drop k) k = k := by
  rw [List.drop_eq_getElem_cons h]
  exact if_pos e
theorem findFrom_miss (c : UInt8) (l : List UInt8) (k : Nat) (h : k < l.length) (e : ¬ l[k] = c) : findFrom c (l.drop k) k = findFrom c (l.drop (k + 1)) (k + 1) := by
  conv => lhs; rw [List.drop_eq_getElem_cons h]
  exact if_neg e
theorem findFrom_end (c : UInt8) (l : List UInt8) (k : Nat) (h : l.length ≤ k) : findFrom c (l.drop k) k = -1 := by
  rw [List.drop_of_length_le h]
  rfl
/- Signs of six bits. -/
def signs : List UInt8 := [65, 66, 67, 68, 69, 70, 71, 72, 73, 74, 75, 76, 77, 78, 79, 80, 81, 82, 83, 84, 85, 86, 87, 88, 89, 90, 97, 98, 99, 100, 101, 102, 103, 104, 105, 106, 107, 108, 109, 110, 111, 112, 113, 114, 115, 116, 117, 118, 119, 120, 121, 122, 48, 49, 50, 51, 52, 53, 54, 55, 56, 57, 43, 47]
def signD (n : Nat) : UInt8 := signs.getD n 0
theorem signD_get (n : Nat) (h : n < (⟨#[65, 66, 67, 68, 69, 70, 71, 72, 73, 74, 75, 76, 77, 78, 79, 80, 81, 82, 83, 84, 85, 86, 87, 88, 89, 90, 97, 98, 99, 100, 101, 102, 103, 104, 105, 106, 107, 108, 109, 110, 111, 112, 113, 114, 115, 116, 117, 118, 119, 120, 121, 122, 48, 49, 50, 51, 52, 53, 54, 55, 56, 57, 43, 47]⟩ : ByteArray).size) :
    (⟨#[65, 66, 67, 68, 69, 70, 71, 72, 73, 74, 75, 76, 77, 78, 79, 80, 81, 82, 83, 84, 85, 86, 87, 88, 89, 90, 97, 98, 99, 100, 101, 102, 103, 104, 105, 106, 107, 108, 109, 110, 111, 112, 113, 114, 115, 116, 117, 118, 119, 120, 121, 122, 48, 49, 50, 51, 52, 53, 54, 55, 56, 57, 43, 47]⟩ : ByteArray)[n] = signD n := by
  have h' : n < signs.length := h
  unfold signD
  rw [List.getD_eq_getElem?_getD, List.getElem?_eq_getElem h']
  rfl
def bits3 (a b c : UInt8) : Nat := a.toNat * 65536 + b.toNat * 256 + c.toNat
theorem bits3_lt (a b c : UInt8) : bits3 a b c < 16777216 := by
  have := a.toNat_lt; have := b.toNat_lt; have := c.toNat_lt
  unfold bits3; omega
/-- The k-th of four signs of n bytes. -/
def sign4 (a b c : UInt8) (n k : Nat) : UInt8 := if n < k then 61 else signD (bits3 a b c / 2 ^ (18 - 6 * k) % 64)
def four (a b c : UInt8) (n : Nat) : List UInt8 := [sign4 a b c n 0, sign4 a b c n 1, sign4 a b c n 2, sign4 a b c n 3]
def base64L : List UInt8 → List UInt8
  | a :: b :: c :: r => four a b c 3 ++ base64L r
  | [a, b] => four a b 0 2
  | [a] => four a 0 0 1
  | [] => []
theorem base64L_append (x y : List UInt8) (h : x.length % 3 = 0) : base64L (x ++ y) = base64L x ++ base64L y := by
  induction x using base64L.induct with
  | case1 a b c r ih => simp only [List.length_cons] at h; simp [base64L, ih (by omega)]
  | case2 a b => simp at h
  | case3 a => simp at h
  | case4 => rfl
theorem base64L_length (x : List UInt8) : (base64L x).length = (x.length + 2) / 3 * 4 := by
  induction x using base64L.induct with
  | case1 a b c r ih => simp [base64L, four, ih]; omega
  | case2 a b => simp [base64L, four]
  | case3 a => simp [base64L, four]
  | case4 => simp [base64L]
/-- The first three of bytes, noughts behind them. -/
def pad3 (l : List UInt8) : UInt8 × UInt8 × UInt8 := (l.getD 0 0, l.getD 1 0, l.getD 2 0)
theorem base64L_head (l : List UInt8) (h : l ≠ []) :
    base64L l = four (l.getD 0 0) (l.getD 1 0) (l.getD 2 0) (min l.length 3) ++ base64L (l.drop 3) := by
  match l, h with
  | a :: b :: c :: r, _ => simp [base64L, show min (r.length + 1 + 1 + 1) 3 = 3 by omega]
  | [a, b], _ => simp [base64L]
  | [a], _ => simp [base64L]
theorem base64L_take (l : List UInt8) (h : l ≠ []) : base64L (l.take (min l.length 3)) = four (l.getD 0 0) (l.getD 1 0) (l.getD 2 0) (min l.length 3) := by
  match l, h with
  | a :: b :: c :: r, _ => simp [base64L, show min (r.length + 1 + 1 + 1) 3 = 3 by omega]
  | [a, b], _ => simp [base64L]
  | [a], _ => simp [base64L]
end Go.Proofs.YtjdcegogkafmoaaDoor

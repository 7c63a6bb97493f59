/- Eight hexadecimal digits, in plain words. -/
import Derived.Test.YtkhkminhlpjkgaaDoorCodE
namespace Go.Proofs.YtkhkminhlpjkgaaDoor
open Go
def hxd (n : Nat) : Nat → List UInt8
  | 0 => []
  | i + 1 => hexD (n / 16 ^ i % 16) :: hxd n i
theorem hxd_length (n i : Nat) : (hxd n i).length = i := by
  induction i with
  | zero => rfl
  | succ i ih => simp [hxd, ih]
theorem hxd_be (n : Nat) : hexL (beL n 4) = hxd n 8 := by
  simp only [beL, hexL, hxd, Nat.reducePow, UInt8.toNat_ofNat', Nat.reduceMod, Nat.div_one]
  refine List.cons_eq_cons.2 ⟨by congr 1; omega, ?_⟩
  refine List.cons_eq_cons.2 ⟨by congr 1; omega, ?_⟩
  refine List.cons_eq_cons.2 ⟨by congr 1; omega, ?_⟩
  refine List.cons_eq_cons.2 ⟨by congr 1; omega, ?_⟩
  refine List.cons_eq_cons.2 ⟨by congr 1; omega, ?_⟩
  refine List.cons_eq_cons.2 ⟨by congr 1; omega, ?_⟩
  refine List.cons_eq_cons.2 ⟨by congr 1; omega, ?_⟩
  refine List.cons_eq_cons.2 ⟨by congr 1; try omega, rfl⟩
/-- A digit in either case. -/
def lowc (c : UInt8) : UInt8 := if 65 ≤ c ∧ c ≤ 70 then c + 32 else c
def hexs2 : List UInt8 := [48, 49, 50, 51, 52, 53, 54, 55, 56, 57, 65, 66, 67, 68, 69, 70]
def hv2 (c : UInt8) : Int := Lib.indexByte hexs2 c
def dv (c : UInt8) : Int := hv (lowc c)
theorem dv_two (c : UInt8) : dv c = if hv c < 0 then hv2 c else hv c := by
  have h : ∀ n : Fin 256, dv (UInt8.ofNat n.val) = if hv (UInt8.ofNat n.val) < 0 then hv2 (UInt8.ofNat n.val) else hv (UInt8.ofNat n.val) := by decide +kernel
  have := h ⟨c.toNat, c.toNat_lt⟩
  simpa using this
theorem dv_range (c : UInt8) : -1 ≤ dv c ∧ dv c ≤ 15 := hv_range _
theorem hv2_range (c : UInt8) : -1 ≤ hv2 c ∧ hv2 c ≤ 15 := by
  unfold hv2
  refine ⟨Lib.indexByte_ge _ _, ?_⟩
  have := indexByte_lt hexs2 c
  have e : hexs2.length = 16 := rfl
  omega
theorem dv_hexD (n : Nat) (h : n < 16) : dv (hexD n) = n := by
  have : ∀ n : Fin 16, dv (hexD n.val) = (n.val : Int) := by decide +kernel
  exact this ⟨n, h⟩
def hexNum (l : List UInt8) : Int := l.foldl (fun n c => 16 * n + dv c) 0
def allDv (l : List UInt8) : Bool := l.all fun c => decide (0 ≤ dv c)
def un8Code (l : List UInt8) : Int := if l.length = 8 then (if allDv l = true then 0 else 3) else 2
def un8N (l : List UInt8) : Int := if un8Code l = 0 then hexNum l else 0
theorem hexNum_snoc (l : List UInt8) (c : UInt8) : hexNum (l ++ [c]) = 16 * hexNum l + dv c := by simp [hexNum]
theorem allDv_snoc (l : List UInt8) (k : Nat) (hk : k < l.length) (h : allDv (l.take k) = true) (hc : 0 ≤ dv l[k]) : allDv (l.take (k + 1)) = true := by
  rw [List.take_succ_eq_append_getElem hk]
  simp only [allDv, List.all_append] at h ⊢
  simp [h, hc]
theorem allDv_not (l : List UInt8) (k : Nat) (hk : k < l.length) (hc : dv l[k] < 0) : allDv l = false := by
  cases h : allDv l with
  | false => rfl
  | true =>
    have := List.all_eq_true.1 h l[k] (List.getElem_mem hk)
    simp at this
    omega
theorem un8_form (l : List UInt8) (h8 : l.length = 8) (h : allDv l = false) : un8Code l = 3 ∧ un8N l = 0 := by
  have : un8Code l = 3 := by simp [un8Code, h8, h]
  exact ⟨this, by simp [un8N, this]⟩
theorem un8_short (l : List UInt8) (h8 : ¬ l.length = 8) : un8Code l = 2 ∧ un8N l = 0 := by
  have : un8Code l = 2 := by simp [un8Code, h8]
  exact ⟨this, by simp [un8N, this]⟩
theorem un8_ok (l : List UInt8) (h8 : l.length = 8) (h : allDv l = true) : un8Code l = 0 ∧ un8N l = hexNum l := by
  have : un8Code l = 0 := by simp [un8Code, h8, h]
  exact ⟨this, by simp [un8N, this]⟩
theorem un8_back (n : Nat) (hn : n < 4294967296) : un8Code (hxd n 8) = 0 ∧ un8N (hxd n 8) = n := by
  have h : allDv (hxd n 8) = true := by
    simp only [hxd, allDv, List.all_cons, List.all_nil, Bool.and_true, Bool.and_eq_true, decide_eq_true_eq]
    refine ⟨?_, ?_, ?_, ?_, ?_, ?_, ?_, ?_⟩ <;> (rw [dv_hexD _ (by omega)]; omega)
  have h2 := un8_ok _ (hxd_length n 8) h
  refine ⟨h2.1, h2.2.trans ?_⟩
  simp only [hexNum, hxd, List.foldl_cons, List.foldl_nil]
  rw [dv_hexD _ (by omega), dv_hexD _ (by omega), dv_hexD _ (by omega), dv_hexD _ (by omega), dv_hexD _ (by omega), dv_hexD _ (by omega), dv_hexD _ (by omega), dv_hexD _ (by omega)]
  simp only [Nat.reducePow]
  omega
end Go.Proofs.YtkhkminhlpjkgaaDoor

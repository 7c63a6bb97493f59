/- The walk of ar's awake. Printed by gen_art.py. -/
import Derived.Test.YtolknddegfcmpaaDoorArN0
import Derived.Test.YtolknddegfcmpaaDoorArR
import Derived.Test.YtolknddegfcmpaaDoorShelfC
namespace Go.Proofs.YtolknddegfcmpaaDoor
open Go.RowKit
def subA (b : List UInt8) (k z : Nat) : List UInt8 := (b.drop k).take z
theorem subA_len (b : List UInt8) (k z : Nat) (h : k + z ≤ b.length) : (subA b k z).length = z := by rw [subA, List.length_take, List.length_drop]; omega
/-- b[k:j] reads as that piece. -/
theorem sl_pieceA {P : Program} {X : Nat → Prop} {w : World} {A : Option Addr} {n cap : Nat} {l : List UInt8} (h : Sl 1 Rbyte X w (.slice A n cap) l) (t e : TypeId) (ht : P.underlying t = some (.slice e)) (he : (P.info? e).map (·.size) = some 1) (k j : Nat) (hk : k ≤ j) (hj : j ≤ n) :
    ∃ A' cap', (∀ W : World, (Instr.slice t (.slice A n cap) (some (.int .i64 (k : Int))) (some (.int .i64 (j : Int))) none).run P W = .ok (.slice A' (j - k) cap') W) ∧ Sl 1 Rbyte X w (.slice A' (j - k) cap') (subA l k (j - k)) := by
  obtain ⟨A0, cap0, hv, h1, h2, h3, h4, h5⟩ := h
  injection hv with e1 e2 e3
  subst e1 e3
  have hlen : (subA l k (j - k)).length = j - k := subA_len l k (j - k) (by omega)
  refine ⟨if cap = k then A else A.map (·.add k), cap - k, fun W => ?_, _, cap - k, by rw [hlen], by rw [hlen]; omega, by omega, ?_, fun hne => ?_, fun b off hA i hi => ?_⟩
  · cases hi : P.info? e with
    | none => simp [hi] at he
    | some i =>
      have h1 : i.size = 1 := by simpa [hi] using he
      have hb : (j : Int) ≤ (cap : Int) := by omega
      simp [Instr.slice, Instr.sliceBounds, Instr.sliceBound, run_underlying ht, sizeOf, typeInfo, hi, h1, asIntOf]
      rw [if_pos (by omega), if_pos (by omega)]
  · intro hA
    split at hA
    · omega
    · have : A = none := by simpa using hA
      have := h3 this
      omega
  · have hpos : 0 < j - k := by
      rcases Nat.eq_zero_or_pos (j - k) with h0 | h0
      · exact absurd (List.eq_nil_of_length_eq_zero (by rw [hlen]; exact h0)) hne
      · exact h0
    obtain ⟨b, off, rfl, hX, hc⟩ := h4 (fun e => by rw [e] at e2; simp at e2; omega)
    rw [if_neg (by omega)]
    refine ⟨b, off + k, by simp [Addr.add_lit], hX, fun i hi => ?_⟩
    rw [hlen] at hi
    obtain ⟨cs, hcs, hR⟩ := hc (k + i) (by omega)
    refine ⟨cs, fun q u hu => ?_, ?_⟩
    · have := hcs q u hu
      rw [show off + k + i * 1 + q = off + (k + i) * 1 + q by omega]
      exact this
    · have e : (subA l k (j - k))[i]'(by rw [hlen]; exact hi) = l[k + i]'(by omega) := by simp [subA]
      rw [e]; exact hR
  · rw [hlen] at hi
    by_cases hck : cap = k
    · omega
    · rw [if_neg hck] at hA
      cases A with
      | none => simp at hA
      | some a =>
        obtain ⟨b0, off0, hb0, _, _⟩ := h4 (fun e => by rw [e] at e2; simp at e2; omega)
        injection hb0 with hb0
        subst hb0
        simp [Addr.add_lit] at hA
        obtain ⟨rfl, rfl⟩ := hA
        have := h5 b0 off0 rfl (k + i) (by omega)
        rw [← Nat.add_assoc] at this
        exact this
def awI : It := ⟨[97], 1, 0, 0, 64, [120]⟩
def awH : List UInt8 := memI [97] [49] [48] [48] [49, 48, 48] [120] |>.take 60
theorem aw_err : arErr 0 [awI] = 0 := by decide +kernel
def awA : List UInt8 := markA ++ (awH ++ [120, 10])
theorem aw_arc : arB 0 [awI] = awA := by decide +kernel
theorem aw_small : SmallI [awI] := ⟨by decide, fun e he => by rw [List.mem_singleton] at he; subst he; exact ⟨by decide, by decide⟩⟩
/-- A field's number. -/
theorem number_at (f t : List UInt8) (n : Int) (w : World) (ht : Lib.trimRightB f 32 = t) (hl : f.length ≤ 1000) (hl2 : t.length ≤ 1000) (hn : udN t = n) (hc : udCode t = 0) :
    Calls Tryd.prog 88 #[.string (bs f)] w fun e w' => e = .returned (.tuple #[.int .i64 n, .bool true]) ∧ w = w' := by
  have h1 : Calls Tryd.prog 89 #[.string (bs f), .string ⟨#[32]⟩] w fun e w' => e = .returned (.string (bs t)) ∧ w = w' := (Tryd.strings_TrimRight_one (bs f) 32 (by decide) w (by rw [bs_size]; omega)).mono fun e w' h => ⟨by rw [h.1, bs_list, ht]; rfl, h.2.symm⟩
  have h2 : Calls Tryd.prog 116 #[.string (bs t)] w fun e w' => e = .returned (.tuple #[.int .i64 n, .int .i64 0]) ∧ w = w' := (undec_any (bs t) w (by rw [bs_size]; omega)).mono fun e w' h => ⟨by rw [h.1, bs_list, hn, hc], h.2⟩
  clear ht hn hc
  go_enter Tryd.func88, Tryd.ntmps88
  go_wp2_with (first
    | (go_at_call 89; refine h1.mono ?_; rintro r W2 ⟨rfl, rfl⟩)
    | (go_at_call 116; refine h2.mono ?_; rintro r W2 ⟨rfl, rfl⟩))
  go_ret2
  exact ⟨rfl, rfl⟩
def awF4 : List UInt8 := [49, 48, 48, 32, 32, 32, 32, 32]
theorem octal_aw (w : World) : Calls Tryd.prog 117 #[.string (bs awF4)] w fun e w' => e = .returned (.tuple #[.int .i64 64, .bool true]) ∧ Below w.heap.size w w' := by
  have h1 : Calls Tryd.prog 89 #[.string (bs awF4), .string ⟨#[32]⟩] w fun e w' => e = .returned (.string ⟨#[49, 48, 48]⟩) ∧ w = w' := (Tryd.strings_TrimRight_one (bs awF4) 32 (by decide) w (by decide)).mono fun e w' h => ⟨by rw [h.1, bs_list, show Lib.trimRightB awF4 32 = [49, 48, 48] by decide +kernel], h.2.symm⟩
  have h2 : Calls Tryd.prog 46 #[.string ⟨#[49, 48, 48]⟩, .string ⟨#[48, 49, 50, 51, 52, 53, 54, 55]⟩] w fun e w' => e = .returned (.string ⟨#[]⟩) ∧ Below w.heap.size w w' := by
    have hcon := Any.strings_Trim_laid Tryd.lays160 (by kernel_rfl) ⟨#[49, 48, 48]⟩ ⟨#[48, 49, 50, 51, 52, 53, 54, 55]⟩ w (by decide) (by decide) (ascii_of_all (by decide))
    exact Calls.mono (f := 46) hcon fun e w' ⟨h1, h2⟩ => ⟨by rw [h1]; congr 2, h2⟩
  have h3 : ∀ W, Calls Tryd.prog 137 #[.string ⟨#[49, 48, 48]⟩] W fun e w' => e = .returned (.tuple #[.int .i64 64, .int .i64 0]) ∧ Below W.heap.size W w' := fun W => (unoctal_any ⟨#[49, 48, 48]⟩ W (by decide)).mono fun e w' h => ⟨by rw [h.1, show octNum (⟨#[49, 48, 48]⟩ : ByteArray).data.toList = 64 by decide +kernel, show octCode (⟨#[49, 48, 48]⟩ : ByteArray).data.toList = 0 by decide +kernel], h.2⟩
  go_enter Tryd.func117, Tryd.ntmps117
  go_wp2_with (first
    | (go_at_call 89; refine h1.mono ?_; rintro r W2 ⟨rfl, rfl⟩)
    | (go_at_call 46; refine h2.mono ?_; clear h2; rintro r W2 ⟨rfl, hb2⟩)
    | (go_at_call 137; refine (h3 _).mono ?_; rintro r W3 ⟨rfl, hb3⟩))
  go_ret2
  exact ⟨rfl, hb2.trans (hb3.mono hb2.size)⟩
theorem name_aw (gr : Nat) (A : Option Addr) (n c : Nat) (w : World) :
    Calls Tryd.prog 118 #[.pointer (some ⟨gr, 0, none⟩), .string ⟨#[97]⟩, .slice A n c] w fun e w' => e = .returned (.tuple #[.string ⟨#[97]⟩, .slice A n c, .int .i64 0]) ∧ w = w' := by
  have h1 : Calls Tryd.prog 77 #[.string ⟨#[97]⟩, .string ⟨#[35, 49, 47]⟩] w fun e w' => e = .returned (.tuple #[.string ⟨#[97]⟩, .bool false]) ∧ w = w' := (Tryd.strings_CutPrefix ⟨#[97]⟩ ⟨#[35, 49, 47]⟩ w).mono fun e w' h => ⟨h.1.trans (by first | rfl | kernel_rfl), h.2.symm⟩
  have h2 : Calls Tryd.prog 77 #[.string ⟨#[97]⟩, .string ⟨#[47]⟩] w fun e w' => e = .returned (.tuple #[.string ⟨#[97]⟩, .bool false]) ∧ w = w' := (Tryd.strings_CutPrefix ⟨#[97]⟩ ⟨#[47]⟩ w).mono fun e w' h => ⟨h.1.trans (by first | rfl | kernel_rfl), h.2.symm⟩
  have h3 : Calls Tryd.prog 138 #[.string ⟨#[97]⟩, .string ⟨#[47]⟩] w fun e w' => e = .returned (.string ⟨#[97]⟩) ∧ w = w' := (Tryd.strings_TrimSuffix ⟨#[97]⟩ ⟨#[47]⟩ w (by decide)).mono fun e w' h => ⟨h.1.trans (by first | rfl | kernel_rfl), h.2.symm⟩
  go_enter Tryd.func118, Tryd.ntmps118
  go_wp2_with (first
    | (go_at_call 77; with_reducible refine h1.mono ?_; rintro r W2 ⟨rfl, rfl⟩)
    | (go_at_call 77; with_reducible refine h2.mono ?_; rintro r W2 ⟨rfl, rfl⟩)
    | (go_at_call 138; refine h3.mono ?_; rintro r W2 ⟨rfl, rfl⟩))
  first | go_ret | go_ret2 | go_ret3
  exact ⟨rfl, rfl⟩
end Go.Proofs.YtolknddegfcmpaaDoor

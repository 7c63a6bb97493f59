/- The walks of the document's small functions on entries: Find, above, alike. -/
import Derived.Test.YtjhikglgaoncjaaDoorEnC
namespace Go.Proofs.YtjhikglgaoncjaaDoor
open Go.RowKit
/-- The place of a path's entry, or -1. -/
def fndE (x : List UInt8) : List En → Nat → Int
  | [], _ => -1
  | e :: t, k => if e.path = x then (k : Int) else fndE x t (k + 1)
theorem fndE_step (x : List UInt8) (p : List En) (k : Nat) (h : k < p.length) : fndE x (p.drop k) k = if (p[k]).path = x then (k : Int) else fndE x (p.drop (k + 1)) (k + 1) := by
  rw [List.drop_eq_getElem_cons h]; rfl
theorem fndE_get (x : List UInt8) (p : List En) : ∀ k : Nat, (fndE x p k = -1 ∧ findE p x = none) ∨ ∃ (j : Nat) (h : j < p.length), fndE x p k = ((k + j : Nat) : Int) ∧ findE p x = some p[j] := by
  induction p with
  | nil => intro k; exact .inl ⟨rfl, rfl⟩
  | cons f t ih =>
    intro k
    rw [fndE, findE, List.find?_cons]
    by_cases h : f.path = x
    · rw [if_pos h, decide_eq_true h]
      exact .inr ⟨0, by simp, rfl, rfl⟩
    · rw [if_neg h, decide_eq_false h]
      rcases ih (k + 1) with ⟨h1, h2⟩ | ⟨j, hj, h1, h2⟩
      · exact .inl ⟨h1, h2⟩
      · exact .inr ⟨j + 1, by simp; omega, by rw [h1]; omega, h2⟩
theorem beq_bs2 (a b : List UInt8) : ((bs a).toList == (bs b).toList) = decide (a = b) := by
  rw [toList_bs, toList_bs, Bool.eq_iff_iff]; simp
set_option maxRecDepth 20000 in
set_option maxHeartbeats 8000000 in
theorem rfind_any (p : List En) (x : List UInt8) (v : Value) (X : Nat → Prop) (w : World) (hsl : Sl 10 Rent X w v p) :
    Calls Tryd.prog 18 #[v, .string (bs x)] w fun e w' => e = .returned (.int .i64 (fndE x p 0)) ∧ w = w' := by
  obtain ⟨A, cap, rfl, hc1, hc2⟩ := hsl.form
  unfold maxLen at hc2
  have HX : Hid (fndE x p 0 = fndE x (p.drop 0) 0) := Lib.hid rfl
  go_enter Tryd.func18, Tryd.ntmps18
  go_wp2_with fail
  go_loopg [5] p.length (fun G s5 wr => ∃ k : Nat, k ≤ p.length ∧ G = p.length - k ∧ s5 = .int .i64 k ∧ w = wr ∧ Hid (fndE x p 0 = fndE x (p.drop k) k))
  case atStart => exact ⟨0, Nat.zero_le _, rfl, rfl, rfl, HX⟩
  case round =>
    clear HX
    obtain ⟨k, hk, rfl, rfl, rfl, HE⟩ := hrel
    by_cases hlt : k < p.length
    · obtain ⟨b, off, rfl, _, hc⟩ := hsl.ent (by omega)
      obtain ⟨dv, ⟨c0, _, _, _, _, _, _, _, _, _⟩, _⟩ := hc k hlt
      have HST := Lib.hid (HE.out.trans (fndE_step x p k hlt))
      clear hc HE
      generalize p[k] = f at c0 HST
      obtain ⟨fn, HFN⟩ : ∃ fn, Hid (f.path = fn) := ⟨_, Lib.hid rfl⟩
      rw [HFN.out] at c0
      have HST := Lib.hid (show fndE x p 0 = if fn = x then (k : Int) else fndE x (p.drop (k + 1)) (k + 1) by rw [HST.out, HFN.out])
      have hq := beq_bs2 fn x
      have i1 : (0 : Int) ≤ (k : Int) := by omega
      have i2 : (k : Int) < (p.length : Int) := by omega
      by_cases he : fn = x
      · have hd : decide (fn = x) = true := by simp [he]
        rw [hd] at hq
        have HV := Lib.hid (show fndE x p 0 = (k : Int) by rw [HST.out, if_pos he])
        clear hd he HST
        go_wp2_with fail
        go_ret
        exact ⟨by rw [HV.out]; rfl, rfl⟩
      · have hd : decide (fn = x) = false := by simp [he]
        rw [hd] at hq
        have HV := Lib.hid (show fndE x p 0 = fndE x (p.drop (k + 1)) (k + 1) by rw [HST.out, if_neg he])
        clear hd he HST
        go_wp2_with fail
        go_roundg (p.length - (k + 1))
        case measure => omega
        case rel => exact ⟨k + 1, by omega, rfl, by simp, rfl, HV⟩
    · have HV := Lib.hid (show fndE x p 0 = -1 by rw [HE.out, List.drop_eq_nil_of_le (by omega)]; rfl)
      clear HE
      go_wp2_with fail
      go_ret
      exact ⟨by rw [HV.out]; rfl, rfl⟩
end Go.Proofs.YtjhikglgaoncjaaDoor

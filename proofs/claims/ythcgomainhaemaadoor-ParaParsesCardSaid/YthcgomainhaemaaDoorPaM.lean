/- The document's small functions for paragraphs: Find, Same of one list twice, Light; para.Get. -/
import Derived.Test.YthcgomainhaemaaDoorPaE
namespace Go.Proofs.YthcgomainhaemaaDoor
open Go.RowKit
/-- The place of a name's field, or -1. -/
def fnd (x : List UInt8) : List Fd → Nat → Int
  | [], _ => -1
  | f :: t, k => if f.1 = x then (k : Int) else fnd x t (k + 1)
theorem fnd_step (x : List UInt8) (p : List Fd) (k : Nat) (h : k < p.length) : fnd x (p.drop k) k = if (p[k]).1 = x then (k : Int) else fnd x (p.drop (k + 1)) (k + 1) := by
  rw [List.drop_eq_getElem_cons h]; rfl
theorem beq_bs2 (a b : List UInt8) : ((bs a).toList == (bs b).toList) = decide (a = b) := by
  rw [toList_bs, toList_bs, Bool.eq_iff_iff]; simp
set_option maxRecDepth 20000 in
set_option maxHeartbeats 8000000 in
theorem find_any (p : List Fd) (x : List UInt8) (v : Value) (X : Nat → Prop) (w : World) (hsl : Sl 2 Rfield X w v p) :
    Calls Tryd.prog 17 #[v, .string (bs x)] w fun e w' => e = .returned (.int .i64 (fnd x p 0)) ∧ w = w' := by
  obtain ⟨A, cap, rfl, hc1, hc2⟩ := hsl.form
  unfold maxLen at hc2
  have HX : Hid (fnd x p 0 = fnd x (p.drop 0) 0) := Lib.hid rfl
  go_enter Tryd.func17, Tryd.ntmps17
  go_wp2_with fail
  go_loopg [5] p.length (fun G s5 wr => ∃ k : Nat, k ≤ p.length ∧ G = p.length - k ∧ s5 = .int .i64 k ∧ w = wr ∧ Hid (fnd x p 0 = fnd x (p.drop k) k))
  case atStart => exact ⟨0, Nat.zero_le _, rfl, rfl, rfl, HX⟩
  case round =>
    clear HX
    obtain ⟨k, hk, rfl, rfl, rfl, HE⟩ := hrel
    by_cases hlt : k < p.length
    · obtain ⟨b, off, rfl, _, hc⟩ := hsl.field (by omega)
      obtain ⟨c0, c1⟩ := hc k hlt
      have HST := Lib.hid (HE.out.trans (fnd_step x p k hlt))
      clear hc HE
      generalize p[k] = f at c0 c1 HST
      obtain ⟨fn, fv⟩ := f
      simp only at c0 c1
      have hq := beq_bs2 fn x
      by_cases he : fn = x
      · have hd : decide (fn = x) = true := by simp [he]
        rw [hd] at hq
        have HV := Lib.hid (show fnd x p 0 = (k : Int) by rw [HST.out, if_pos he])
        clear hd he HST
        go_wp2_with fail
        go_ret
        exact ⟨by rw [HV.out]; rfl, rfl⟩
      · have hd : decide (fn = x) = false := by simp [he]
        rw [hd] at hq
        have HV := Lib.hid (show fnd x p 0 = fnd x (p.drop (k + 1)) (k + 1) by rw [HST.out, if_neg he])
        clear hd he HST
        go_wp2_with fail
        go_roundg (p.length - (k + 1))
        case measure => omega
        case rel => exact ⟨k + 1, by omega, rfl, by simp, rfl, HV⟩
    · have HV := Lib.hid (show fnd x p 0 = -1 by rw [HE.out, List.drop_eq_nil_of_le (by omega)]; rfl)
      clear HE
      go_wp2_with fail
      go_ret
      exact ⟨by rw [HV.out]; rfl, rfl⟩
/-- A field's value, and whether it is there. -/
def getS (x : List UInt8) : List Fd → List UInt8 × Bool
  | [] => ([], false)
  | f :: t => if f.1 = x then (f.2, true) else getS x t
theorem get_step (x : List UInt8) (p : List Fd) (k : Nat) (h : k < p.length) : getS x (p.drop k) = if (p[k]).1 = x then ((p[k]).2, true) else getS x (p.drop (k + 1)) := by
  rw [List.drop_eq_getElem_cons h]; rfl
set_option maxRecDepth 20000 in
set_option maxHeartbeats 8000000 in
theorem get_any (p : List Fd) (x : List UInt8) (v : Value) (X : Nat → Prop) (w : World) (hsl : Sl 2 Rfield X w v p) :
    Calls Tryd.prog 16 #[v, .string (bs x)] w fun e w' => e = .returned (.tuple #[.string (bs (getS x p).1), .bool (getS x p).2]) ∧ Below w.heap.size w w' := by
  obtain ⟨A, cap, rfl, hc1, hc2⟩ := hsl.form
  unfold maxLen at hc2
  have HX : Hid (getS x p = getS x (p.drop 0)) := Lib.hid rfl
  go_enter Tryd.func16, Tryd.ntmps16
  go_wp2_with fail
  go_loopg [10] p.length (fun G s10 wr => ∃ k : Nat, k ≤ p.length ∧ G = p.length - k ∧ s10 = .int .i64 k ∧ Below w.heap.size w wr ∧ Hid (getS x p = getS x (p.drop k)))
  case atStart => exact ⟨0, Nat.zero_le _, rfl, rfl, Below.refl _ _, HX⟩
  case round =>
    clear HX
    obtain ⟨k, hk, rfl, rfl, hbw, HE⟩ := hrel
    by_cases hlt : k < p.length
    · have hslr := hsl.keep good_field (Kept.of_below hbw X)
      obtain ⟨b, off, rfl, _, hc⟩ := hslr.field (by omega)
      obtain ⟨c0, c1⟩ := hc k hlt
      have HST := Lib.hid (HE.out.trans (get_step x p k hlt))
      clear hc HE
      generalize p[k] = f at c0 c1 HST
      obtain ⟨fn, fv⟩ := f
      simp only at c0 c1
      have hq := beq_bs2 fn x
      have hb2 := hbw.alloc hbw.size (.cells #[.string (bs fn), .string (bs fv)] 37)
      by_cases he : fn = x
      · have hd : decide (fn = x) = true := by simp [he]
        rw [hd] at hq
        have HV := Lib.hid (show getS x p = (fv, true) by rw [HST.out, if_pos he])
        clear hd he HST
        go_wp2_with fail
        go_ret2
        exact ⟨by rw [HV.out]; rfl, hb2⟩
      · have hd : decide (fn = x) = false := by simp [he]
        rw [hd] at hq
        have HV := Lib.hid (show getS x p = getS x (p.drop (k + 1)) by rw [HST.out, if_neg he])
        clear hd he HST
        go_wp2_with fail
        go_roundg (p.length - (k + 1))
        case measure => omega
        case rel => exact ⟨k + 1, by omega, rfl, by simp, hb2, HV⟩
    · have HV := Lib.hid (show getS x p = ([], false) by rw [HE.out, List.drop_eq_nil_of_le (by omega)]; rfl)
      clear HE
      go_wp2_with fail
      go_ret2
      exact ⟨by rw [HV.out]; rfl, hbw⟩
end Go.Proofs.YthcgomainhaemaaDoor

/- Walks of para's small functions: which texts are names of fields, which are blank. -/
import Derived.Test.YthcgomainhaemaaDoorPaS
import Derived.Test.YthcgomainhaemaaDoorAny
import Derived.Test.YthcgomainhaemaaDoorCut
import Derived.Deep.CutBlock
import Derived.Deep.DeepCutAuto
namespace Go.Proofs.YthcgomainhaemaaDoor
open Go.RowKit
theorem trimB_nil (l : List UInt8) : Lib.trimB l 32 = [] ↔ blankL l = true := by
  have h1 : ∀ m : List UInt8, Lib.trimLeftB m 32 = [] ↔ m.all blk = true := by
    intro m
    induction m with
    | nil => simp [Lib.trimLeftB]
    | cons a m ih =>
      by_cases h : a = 32
      · subst h
        have : Lib.trimLeftB (32 :: m) 32 = Lib.trimLeftB m 32 := by simp [Lib.trimLeftB, List.dropWhile]
        rw [this, ih]
        simp [blk]
      · have hb : (a == 32) = false := by simpa using h
        have : Lib.trimLeftB (a :: m) 32 = a :: m := by simp [Lib.trimLeftB, List.dropWhile, hb]
        rw [this]
        simp [blk, h]
  have h2 : ∀ m : List UInt8, (Lib.trimRightB m 32).all blk = m.all blk := by
    intro m
    have e : Lib.trimRightB m 32 = (Lib.trimLeftB m.reverse 32).reverse := rfl
    rw [e, List.all_reverse]
    have h3 : ∀ q : List UInt8, (Lib.trimLeftB q 32).all blk = q.all blk := by
      intro q
      induction q with
      | nil => rfl
      | cons a q ih =>
        by_cases h : a = 32
        · subst h
          have : Lib.trimLeftB (32 :: q) 32 = Lib.trimLeftB q 32 := by simp [Lib.trimLeftB, List.dropWhile]
          rw [this, ih]
          simp [blk]
        · have hb : (a == 32) = false := by simpa using h
          have : Lib.trimLeftB (a :: q) 32 = a :: q := by simp [Lib.trimLeftB, List.dropWhile, hb]
          rw [this]
    rw [h3, List.all_reverse]
  rw [Lib.trimB, h1, h2]
  rfl
set_option maxHeartbeats 1000000 in
theorem blank_any (s : List UInt8) (w : World) (hs : s.length ≤ 1000000000) : Calls Tryd.prog 37 #[.string (bs s)] w fun e w' => e = .returned (.bool (blankL s)) ∧ Below w.heap.size w w' := by
  have hT := Tryd.strings_Trim_one (bs s) 32 (by decide) w (by rw [bs_size]; omega)
  have HB : Hid ((bs (Lib.trimB s 32)).toList.isEmpty = blankL s) := Lib.hid (by
    rw [toList_bs, Bool.eq_iff_iff]
    have := trimB_nil s
    simpa using this)
  rw [bs_list] at hT
  generalize Lib.trimB s 32 = t at hT HB
  go_enter Tryd.func37, Tryd.ntmps37
  go_wp2_with fail
  refine hT.mono ?_
  rintro e w1 ⟨rfl, hw1⟩
  have hb : Below w.heap.size w w1 := by
    rcases hw1 with rfl | rfl
    · exact Below.refl _ _
    · exact (Below.refl _ _).drew
  have HBE : Hid (blankL s = t.isEmpty) := Lib.hid (by rw [← HB.out, toList_bs])
  clear HB
  go_wp2_with fail
  go_ret
  exact ⟨by rw [HBE.out]; rfl, hb⟩
/-- Has a text a byte 0 or a byte 13? -/
theorem ctl_any (s : List UInt8) (w : World) (hs : s.length ≤ 1000000000) : Calls Tryd.prog 34 #[.string (bs s), .string ⟨#[0, 13]⟩] w fun e w' => e = .returned (.bool (ctlB s)) ∧ Below w.heap.size w w' := by
  have hI := iany (bs s) ⟨#[0, 13]⟩ w (by rw [bs_size]; omega) (by decide) (by decide) (by decide)
  have HB : Hid (decide ((0 : Int) ≤ Lib.indexAny s [0, 13]) = ctlB s) := Lib.hid (by
    induction s with
    | nil => rfl
    | cons b s ih =>
      have hge := Lib.indexAny_ge [0, 13] s
      have ih := ih (by simp at hs; omega) (iany (bs s) ⟨#[0, 13]⟩ w (by rw [bs_size]; simp at hs; omega) (by decide) (by decide) (by decide))
      rw [Lib.indexAny]
      cases hb : ([0, 13] : List UInt8).contains b with
      | true =>
        have : ctlB (b :: s) = true := by
          simp at hb
          simp [ctlB]
          rcases hb with rfl | rfl <;> simp
        rw [this]; rfl
      | false =>
        have hc : ctlB (b :: s) = ctlB s := by
          simp at hb
          simp [ctlB, hb.1, hb.2]
        rw [hc, ← ih, if_neg (by simp)]
        by_cases hm : Lib.indexAny s [0, 13] = -1
        · rw [hm]; rfl
        · rw [if_neg (by simpa using hm)]
          exact decide_eq_decide.2 (by omega))
  rw [bs_list] at hI
  go_enter Tryd.func34, Tryd.ntmps34
  go_wp2_with fail
  refine hI.mono ?_
  rintro e w1 ⟨rfl, hb⟩
  go_wp2_with fail
  go_ret
  exact ⟨by rw [← HB.out]; rfl, hb⟩
end Go.Proofs.YthcgomainhaemaaDoor

/- The walks of the reference's Part and Check. -/
import Derived.Test.YtdnncbhbajciaaaDoorVerV
namespace Go.Proofs.YtdnncbhbajciaaaDoor
open Go.RowKit
/-- What the reference's Part gives. -/
def GivesPart (w : World) (f : Int) (l : List UInt8) (e : Ending) (w' : World) : Prop :=
  (e = .returned (.agg #[.string (bs (if vOk f l = true then vPart f l else ([], [], [])).1), .string (bs (if vOk f l = true then vPart f l else ([], [], [])).2.1), .string (bs (if vOk f l = true then vPart f l else ([], [], [])).2.2), .bool (vOk f l)])) ∧ Below w.heap.size w w'
theorem part_no (w w' : World) (f : Int) (l : List UInt8) (h : vOk f l = false) (hb : Below w.heap.size w w') : GivesPart w f l (.returned (.agg #[.string ⟨#[]⟩, .string ⟨#[]⟩, .string ⟨#[]⟩, .bool false])) w' := by
  refine ⟨?_, hb⟩
  rw [h]
  rfl
theorem part_yes (w w' : World) (f : Int) (l : List UInt8) (h : vOk f l = true) (hb : Below w.heap.size w w') (a b c : List UInt8) (e : vPart f l = (a, b, c)) : GivesPart w f l (.returned (.agg #[.string (bs a), .string (bs b), .string (bs c), .bool true])) w' := by
  refine ⟨?_, hb⟩
  rw [h, if_pos rfl, e]
theorem rcs_last (i : List Rc) (x : Rc) : (rcs (i ++ [x]))[i.length * 3]? = some (.int .i64 x.1) ∧ (rcs (i ++ [x]))[i.length * 3 + 2]? = some (.string (bs x.2.2)) := by
  rw [rcs_app]
  have := rcs_len i
  constructor
  · rw [List.getElem?_append_right (by omega), this, Nat.sub_self]; rfl
  · rw [List.getElem?_append_right (by omega), this, show i.length * 3 + 2 - i.length * 3 = 2 by omega]; rfl
theorem apkT_Q (l p rv : List UInt8) (h : apkQ l = some (p, rv)) : vOk 3 l = true ∧ vPart 3 l = ([], p, rv) := by
  have h1 := apkP_Q l
  rw [h] at h1
  cases hp : apkP l with
  | none => rw [hp] at h1; cases h1
  | some x =>
    obtain ⟨ps, a, b⟩ := x
    rw [hp] at h1
    simp only [Option.map_some, Option.some.injEq, Prod.mk.injEq] at h1
    exact ⟨by rw [vOk3, hp]; rfl, by rw [vPart3, apkT, hp, h1.1, h1.2]⟩
theorem apkQ_no (l : List UInt8) (h : apkQ l = none) : vOk 3 l = false := by
  have h1 := apkP_Q l
  rw [h] at h1
  cases hp : apkP l with
  | none => rw [vOk3, hp]; rfl
  | some x => rw [hp] at h1; cases h1
theorem set4 {w : World} {g : Nat} {t : TypeId} {a b c d : Value} (h : Blk w g t #[a, b, c, d]) (a' b' c' d' : Value) :
    Blk ((((w.setCell ⟨g, 0, none⟩ a').setCell ⟨g, 1, none⟩ b').setCell ⟨g, 2, none⟩ c').setCell ⟨g, 3, none⟩ d') g t #[a', b', c', d'] := by
  have := (((h.set (u := a') 0).set (u := b') 1).set (u := c') 2).set (u := d') 3
  simpa using this
theorem below_set4 {B : Nat} {w0 w : World} {g : Nat} (h : Below B w0 w) (hg : B ≤ g) (a' b' c' d' : Value) :
    Below B w0 ((((w.setCell ⟨g, 0, none⟩ a').setCell ⟨g, 1, none⟩ b').setCell ⟨g, 2, none⟩ c').setCell ⟨g, 3, none⟩ d') := (((h.setCell hg _).setCell hg _).setCell hg _).setCell hg _
set_option maxRecDepth 20000 in
set_option maxHeartbeats 8000000 in
theorem part3_any (l : List UInt8) (w : World) (hl : l.length ≤ 1000000) : Calls Tryd.prog 14 #[.int .i64 3, .string (bs l)] w (GivesPart w 3 l) := by
  go_enter Tryd.func14, Tryd.ntmps14
  go_wp2_with fail
  refine (rpieces_any l _ hl).mono ?_
  rintro e w1 ⟨v, rps, rfl, hown, hrl, hb, hno, hyes⟩
  have b0 := (Blk.new w 28 #[.string ⟨#[]⟩, .string ⟨#[]⟩, .string ⟨#[]⟩, .bool false]).below hb (by simp)
  have hb1 : Below w.heap.size w w1 := below_trans ((Below.refl _ _).alloc (Nat.le_refl _) _) hb
  cases hq : apkQ l with
  | none =>
    have hrn := hno hq
    subst hrn
    have HV := Lib.hid (apkQ_no l hq)
    obtain ⟨A3, cap3, rfl⟩ := own_form hown
    have c0 := b0.cell 0
    have c1 := b0.cell 1
    have c2 := b0.cell 2
    have c3 := b0.cell 3
    have f0 := b0.free 0
    have f1 := b0.free 1
    have f2 := b0.free 2
    have f3 := b0.free 3
    simp at c0 c1 c2 c3
    clear hno hyes hq hown
    go_wp2_with fail
    have B := set4 b0 (.string ⟨#[]⟩) (.string ⟨#[]⟩) (.string ⟨#[]⟩) (.bool false)
    have hbB := below_set4 hb1 (Nat.le_refl _) (.string ⟨#[]⟩) (.string ⟨#[]⟩) (.string ⟨#[]⟩) (.bool false)
    generalize ((((w1.setCell ⟨w.heap.size, 0, none⟩ (.string ⟨#[]⟩)).setCell ⟨w.heap.size, 1, none⟩ (.string ⟨#[]⟩)).setCell ⟨w.heap.size, 2, none⟩ (.string ⟨#[]⟩)).setCell ⟨w.heap.size, 3, none⟩ (.bool false)) = W at B hbB ⊢
    have d0 := B.cell 0
    have d1 := B.cell 1
    have d2 := B.cell 2
    have d3 := B.cell 3
    simp at d0 d1 d2 d3
    refine bodyPost_ret (v := .agg #[.string ⟨#[]⟩, .string ⟨#[]⟩, .string ⟨#[]⟩, .bool false]) (by simp [results, Tryd.results14, go_sem, d0, d1, d2, d3]) rfl ?_
    exact part_no w W 3 l HV.out hbB
  | some x =>
    obtain ⟨p, rv⟩ := x
    obtain ⟨i, x, rfl, hcase⟩ := hyes p rv hq
    have HV := Lib.hid (apkT_Q l p rv hq)
    rw [List.length_append, List.length_singleton] at hown hrl
    obtain ⟨g, cap, rfl, hg1, hg2, hg3, hg4⟩ := own_at hown (by omega)
    have x0 : w1.cell? ⟨g, i.length * 3, none⟩ = some (.int .i64 x.1) := (hown.cellAt _ (by omega)).trans (rcs_last i x).1
    have x2 : w1.cell? ⟨g, i.length * 3 + 2, none⟩ = some (.string (bs x.2.2)) := (hown.cellAt _ (by omega)).trans (rcs_last i x).2
    have hne : ((i.length : Int) + 1 == 0) = false := beq_eq_false_iff_ne.2 (by omega)
    have hn1 : (((i.length + 1 : Nat) : Int) == 0) = false := beq_eq_false_iff_ne.2 (by omega)
    have c0 := b0.cell 0
    have c1 := b0.cell 1
    have c2 := b0.cell 2
    have c3 := b0.cell 3
    have f0 := b0.free 0
    have f1 := b0.free 1
    have f2 := b0.free 2
    have f3 := b0.free 3
    simp at c0 c1 c2 c3
    clear hno hyes hq hown
    obtain ⟨k, r0, tx⟩ := x
    rcases hcase with ⟨hk, rfl, rfl⟩ | ⟨hk, hrv, hlen, hp⟩
    · have hk2 : (k == 2) = false := beq_eq_false_iff_ne.2 hk
      clear hk
      go_wp2_with fail
      have B := set4 b0 (.string ⟨#[]⟩) (.string (bs p)) (.string ⟨#[]⟩) (.bool true)
      have hbB := below_set4 hb1 (Nat.le_refl _) (.string ⟨#[]⟩) (.string (bs p)) (.string ⟨#[]⟩) (.bool true)
      generalize ((((w1.setCell ⟨w.heap.size, 0, none⟩ (.string ⟨#[]⟩)).setCell ⟨w.heap.size, 1, none⟩ (.string (bs p))).setCell ⟨w.heap.size, 2, none⟩ (.string ⟨#[]⟩)).setCell ⟨w.heap.size, 3, none⟩ (.bool true)) = W at B hbB ⊢
      have d0 := B.cell 0
      have d1 := B.cell 1
      have d2 := B.cell 2
      have d3 := B.cell 3
      simp at d0 d1 d2 d3
      refine bodyPost_ret (v := .agg #[.string ⟨#[]⟩, .string (bs p), .string ⟨#[]⟩, .bool true]) (by simp [results, Tryd.results14, go_sem, d0, d1, d2, d3]) rfl ?_
      exact part_yes w W 3 p HV.out.1 hbB [] p [] HV.out.2
    · have hk' : k = 2 := hk
      have hrv' : tx = rv := hrv
      subst hk' hrv'
      have HP := Lib.hid hp
      clear hk hrv hp
      have HX : Hid ((bs l).extract 0 (l.length - tx.length - 2) = bs p) := Lib.hid (by rw [ext_take _ _ (by rw [bs_size]; omega), HP.out]; rfl)
      have hz1 : ((bs l).size : Int) = (l.length : Int) := by rw [bs_size]
      have hz2 : ((bs tx).size : Int) = (tx.length : Int) := by rw [bs_size]
      have hi1 : (0 : Int) ≤ (l.length : Int) - (tx.length : Int) - 2 := by omega
      have hi2 : (l.length : Int) - (tx.length : Int) - 2 ≤ (l.length : Int) := by omega
      have hi3 : ((l.length : Int) - (tx.length : Int) - 2).toNat = l.length - tx.length - 2 := by omega
      go_wp2_with fail
      rw [HX.out]
      have B := set4 b0 (.string ⟨#[]⟩) (.string (bs p)) (.string (bs tx)) (.bool true)
      have hbB := below_set4 hb1 (Nat.le_refl _) (.string ⟨#[]⟩) (.string (bs p)) (.string (bs tx)) (.bool true)
      generalize ((((w1.setCell ⟨w.heap.size, 0, none⟩ (.string ⟨#[]⟩)).setCell ⟨w.heap.size, 1, none⟩ (.string (bs p))).setCell ⟨w.heap.size, 2, none⟩ (.string (bs tx))).setCell ⟨w.heap.size, 3, none⟩ (.bool true)) = W at B hbB ⊢
      have d0 := B.cell 0
      have d1 := B.cell 1
      have d2 := B.cell 2
      have d3 := B.cell 3
      simp at d0 d1 d2 d3
      refine bodyPost_ret (v := .agg #[.string ⟨#[]⟩, .string (bs p), .string (bs tx), .bool true]) (by simp [results, Tryd.results14, go_sem, d0, d1, d2, d3]) rfl ?_
      exact part_yes w W 3 l HV.out.1 hbB [] p tx HV.out.2
end Go.Proofs.YtdnncbhbajciaaaDoor

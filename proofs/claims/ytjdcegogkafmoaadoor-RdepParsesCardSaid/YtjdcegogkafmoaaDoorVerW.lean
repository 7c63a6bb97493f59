/- The walks of the reference's Part and Check. The walk of the reference's Part at Dpkg and Rpm. -/
import Derived.Test.YtjdcegogkafmoaaDoorVerT
import Derived.Deep.CutBlock
namespace Go.Proofs.YtjdcegogkafmoaaDoor
open Go.RowKit
/-- What the reference's Part gives. -/
def GivesPart (w : World) (f : Int) (l : List UInt8) (e : Ending) (w' : World) : Prop :=
  (e = .returned (.agg #[.string (bs (if vOk f l = true then vPart f l else ([], [], [])).1), .string (bs (if vOk f l = true then vPart f l else ([], [], [])).2.1), .string (bs (if vOk f l = true then vPart f l else ([], [], [])).2.2), .bool (vOk f l)])) ∧ Below w.heap.size w w'
theorem part_no (w w' : World) (f : Int) (l : List UInt8) (h : vOk f l = false) (hb : Below w.heap.size w w') : GivesPart w f l (.returned (.agg #[.string ⟨#[]⟩, .string ⟨#[]⟩, .string ⟨#[]⟩, .bool false])) w' := by
  refine ⟨?_, hb⟩
  rw [h]
  rfl
theorem part_yes (w w' : World) (f : Int) (l : List UInt8) (h : vOk f l = true) (hb : Below w.heap.size w w') (a b c : List UInt8) (e : vPart f l = (a, b, c)) : GivesPart w f l (.returned (.agg #[.string (bs a), .string (bs b), .string (bs c), .bool true])) w' := by
  refine ⟨?_, hb⟩
  rw [h, if_pos rfl, e]
theorem rcs_last (i : List Rc) (x : Rc) : (rcs (i ++ [x]))[i.length * 3]? = some (.int .i64 x.1) ∧ (rcs (i ++ [x]))[i.length * 3 + 2]? = some (.string (bs x.2.2)) := by
  rw [rcs_app]
  have := rcs_len i
  constructor
  · rw [List.getElem?_append_right (by omega), this, Nat.sub_self]; rfl
  · rw [List.getElem?_append_right (by omega), this, show i.length * 3 + 2 - i.length * 3 = 2 by omega]; rfl
theorem apkT_Q (l p rv : List UInt8) (h : apkQ l = some (p, rv)) : vOk 3 l = true ∧ vPart 3 l = ([], p, rv) := by
  have h1 := apkP_Q l
  rw [h] at h1
  cases hp : apkP l with
  | none => rw [hp] at h1; cases h1
  | some x =>
    obtain ⟨ps, a, b⟩ := x
    rw [hp] at h1
    simp only [Option.map_some, Option.some.injEq, Prod.mk.injEq] at h1
    exact ⟨by rw [vOk3, hp]; rfl, by rw [vPart3, apkT, hp, h1.1, h1.2]⟩
theorem apkQ_no (l : List UInt8) (h : apkQ l = none) : vOk 3 l = false := by
  have h1 := apkP_Q l
  rw [h] at h1
  cases hp : apkP l with
  | none => rw [vOk3, hp]; rfl
  | some x => rw [hp] at h1; cases h1
theorem set4 {w : World} {g : Nat} {t : TypeId} {a b c d : Value} (h : Blk w g t #[a, b, c, d]) (a' b' c' d' : Value) :
    Blk ((((w.setCell ⟨g, 0, none⟩ a').setCell ⟨g, 1, none⟩ b').setCell ⟨g, 2, none⟩ c').setCell ⟨g, 3, none⟩ d') g t #[a', b', c', d'] := by
  have := (((h.set (u := a') 0).set (u := b') 1).set (u := c') 2).set (u := d') 3
  simpa using this
theorem below_set4 {B : Nat} {w0 w : World} {g : Nat} (h : Below B w0 w) (hg : B ≤ g) (a' b' c' d' : Value) :
    Below B w0 ((((w.setCell ⟨g, 0, none⟩ a').setCell ⟨g, 1, none⟩ b').setCell ⟨g, 2, none⟩ c').setCell ⟨g, 3, none⟩ d') := (((h.setCell hg _).setCell hg _).setCell hg _).setCell hg _
set_option maxRecDepth 20000 in
set_option maxHeartbeats 8000000 in
theorem part3_any (l : List UInt8) (w : World) (hl : l.length ≤ 1000000) : Calls Tryd.prog 46 #[.int .i64 3, .string (bs l)] w (GivesPart w 3 l) := by
  go_enter Tryd.func46, Tryd.ntmps46
  go_wp2_with fail
  refine (rpieces_any l _ hl).mono ?_
  rintro e w1 ⟨v, rps, rfl, hown, hrl, hb, hno, hyes⟩
  have b0 := (Blk.new w 78 #[.string ⟨#[]⟩, .string ⟨#[]⟩, .string ⟨#[]⟩, .bool false]).below hb (by simp)
  have hb1 : Below w.heap.size w w1 := below_trans ((Below.refl _ _).alloc (Nat.le_refl _) _) hb
  cases hq : apkQ l with
  | none =>
    have hrn := hno hq
    subst hrn
    have HV := Lib.hid (apkQ_no l hq)
    obtain ⟨A3, cap3, rfl⟩ := own_form hown
    have c0 := b0.cell 0
    have c1 := b0.cell 1
    have c2 := b0.cell 2
    have c3 := b0.cell 3
    have f0 := b0.free 0
    have f1 := b0.free 1
    have f2 := b0.free 2
    have f3 := b0.free 3
    simp at c0 c1 c2 c3
    clear hno hyes hq hown
    go_wp2_with fail
    have B := set4 b0 (.string ⟨#[]⟩) (.string ⟨#[]⟩) (.string ⟨#[]⟩) (.bool false)
    have hbB := below_set4 hb1 (Nat.le_refl _) (.string ⟨#[]⟩) (.string ⟨#[]⟩) (.string ⟨#[]⟩) (.bool false)
    generalize ((((w1.setCell ⟨w.heap.size, 0, none⟩ (.string ⟨#[]⟩)).setCell ⟨w.heap.size, 1, none⟩ (.string ⟨#[]⟩)).setCell ⟨w.heap.size, 2, none⟩ (.string ⟨#[]⟩)).setCell ⟨w.heap.size, 3, none⟩ (.bool false)) = W at B hbB ⊢
    have d0 := B.cell 0
    have d1 := B.cell 1
    have d2 := B.cell 2
    have d3 := B.cell 3
    simp at d0 d1 d2 d3
    refine bodyPost_ret (v := .agg #[.string ⟨#[]⟩, .string ⟨#[]⟩, .string ⟨#[]⟩, .bool false]) (by simp [results, Tryd.results46, go_sem, d0, d1, d2, d3]) rfl ?_
    exact part_no w W 3 l HV.out hbB
  | some x =>
    obtain ⟨p, rv⟩ := x
    obtain ⟨i, x, rfl, hcase⟩ := hyes p rv hq
    have HV := Lib.hid (apkT_Q l p rv hq)
    rw [List.length_append, List.length_singleton] at hown hrl
    obtain ⟨g, cap, rfl, hg1, hg2, hg3, hg4⟩ := own_at hown (by omega)
    have x0 : w1.cell? ⟨g, i.length * 3, none⟩ = some (.int .i64 x.1) := (hown.cellAt _ (by omega)).trans (rcs_last i x).1
    have x2 : w1.cell? ⟨g, i.length * 3 + 2, none⟩ = some (.string (bs x.2.2)) := (hown.cellAt _ (by omega)).trans (rcs_last i x).2
    have hne : ((i.length : Int) + 1 == 0) = false := beq_eq_false_iff_ne.2 (by omega)
    have hn1 : (((i.length + 1 : Nat) : Int) == 0) = false := beq_eq_false_iff_ne.2 (by omega)
    have c0 := b0.cell 0
    have c1 := b0.cell 1
    have c2 := b0.cell 2
    have c3 := b0.cell 3
    have f0 := b0.free 0
    have f1 := b0.free 1
    have f2 := b0.free 2
    have f3 := b0.free 3
    simp at c0 c1 c2 c3
    clear hno hyes hq hown
    obtain ⟨k, r0, tx⟩ := x
    rcases hcase with ⟨hk, rfl, rfl⟩ | ⟨hk, hrv, hlen, hp⟩
    · have hk2 : (k == 2) = false := beq_eq_false_iff_ne.2 hk
      clear hk
      go_wp2_with fail
      have B := set4 b0 (.string ⟨#[]⟩) (.string (bs p)) (.string ⟨#[]⟩) (.bool true)
      have hbB := below_set4 hb1 (Nat.le_refl _) (.string ⟨#[]⟩) (.string (bs p)) (.string ⟨#[]⟩) (.bool true)
      generalize ((((w1.setCell ⟨w.heap.size, 0, none⟩ (.string ⟨#[]⟩)).setCell ⟨w.heap.size, 1, none⟩ (.string (bs p))).setCell ⟨w.heap.size, 2, none⟩ (.string ⟨#[]⟩)).setCell ⟨w.heap.size, 3, none⟩ (.bool true)) = W at B hbB ⊢
      have d0 := B.cell 0
      have d1 := B.cell 1
      have d2 := B.cell 2
      have d3 := B.cell 3
      simp at d0 d1 d2 d3
      refine bodyPost_ret (v := .agg #[.string ⟨#[]⟩, .string (bs p), .string ⟨#[]⟩, .bool true]) (by simp [results, Tryd.results46, go_sem, d0, d1, d2, d3]) rfl ?_
      exact part_yes w W 3 p HV.out.1 hbB [] p [] HV.out.2
    · have hk' : k = 2 := hk
      have hrv' : tx = rv := hrv
      subst hk' hrv'
      have HP := Lib.hid hp
      clear hk hrv hp
      have HX : Hid ((bs l).extract 0 (l.length - tx.length - 2) = bs p) := Lib.hid (by rw [ext_take _ _ (by rw [bs_size]; omega), HP.out]; rfl)
      have hz1 : ((bs l).size : Int) = (l.length : Int) := by rw [bs_size]
      have hz2 : ((bs tx).size : Int) = (tx.length : Int) := by rw [bs_size]
      have hi1 : (0 : Int) ≤ (l.length : Int) - (tx.length : Int) - 2 := by omega
      have hi2 : (l.length : Int) - (tx.length : Int) - 2 ≤ (l.length : Int) := by omega
      have hi3 : ((l.length : Int) - (tx.length : Int) - 2).toNat = l.length - tx.length - 2 := by omega
      go_wp2_with fail
      rw [HX.out]
      have B := set4 b0 (.string ⟨#[]⟩) (.string (bs p)) (.string (bs tx)) (.bool true)
      have hbB := below_set4 hb1 (Nat.le_refl _) (.string ⟨#[]⟩) (.string (bs p)) (.string (bs tx)) (.bool true)
      generalize ((((w1.setCell ⟨w.heap.size, 0, none⟩ (.string ⟨#[]⟩)).setCell ⟨w.heap.size, 1, none⟩ (.string (bs p))).setCell ⟨w.heap.size, 2, none⟩ (.string (bs tx))).setCell ⟨w.heap.size, 3, none⟩ (.bool true)) = W at B hbB ⊢
      have d0 := B.cell 0
      have d1 := B.cell 1
      have d2 := B.cell 2
      have d3 := B.cell 3
      simp at d0 d1 d2 d3
      refine bodyPost_ret (v := .agg #[.string ⟨#[]⟩, .string (bs p), .string (bs tx), .bool true]) (by simp [results, Tryd.results46, go_sem, d0, d1, d2, d3]) rfl ?_
      exact part_yes w W 3 l HV.out.1 hbB [] p tx HV.out.2
end Go.Proofs.YtjdcegogkafmoaaDoor
namespace Go.Proofs.YtjdcegogkafmoaaDoor
open Go.RowKit
theorem rplace (r : List UInt8) (w : World) (hr : r.length ≤ 1000000000) : Calls Tryd.prog 52 #[.string (bs r), .int .u8 45] w fun e w' => e = .returned (.int .i64 (lastI r)) ∧ w = w' := place_any (bs r) w (by rw [bs_size]; omega)
theorem rmadeq (s o : List UInt8) (w : World) (hs : s.length ≤ 1000000000) (ho : o.length ≤ 1000000000) : Calls Tryd.prog 53 #[.string (bs s), .string (bs o)] w fun e w' => e = .returned (.bool (madeB s o)) ∧ w = w' :=
  rmade_any (bs s) (bs o) w (by rw [bs_size]; omega) (by rw [bs_size]; omega)
/-- What is there behind the epoch: the answer's block g, the parts' block h. -/
def Mid (w : World) (l : List UInt8) (w' : World) : Prop :=
  epOk l = true ∧ Blk w' w.heap.size 78 #[.string ⟨#[]⟩, .string ⟨#[]⟩, .string ⟨#[]⟩, .bool false] ∧
    Blk w' (w.heap.size + 1) 78 #[.string (bs (dEp l)), .string (bs (dRest l)), .string ⟨#[]⟩, .bool false] ∧ Below w.heap.size w w'
theorem vOk12 (f : Int) (l : List UInt8) (hf : f = 1 ∨ f = 2) (h : epOk l = false) : vOk f l = false := by
  rcases hf with rfl | rfl
  · rw [vOk1, dOk_ref, h]; rfl
  · rw [vOk2, rOk_ref, h]; rfl
set_option maxRecDepth 20000 in
set_option maxHeartbeats 8000000 in
theorem part12_any (f : Int) (hf : f = 1 ∨ f = 2) (l : List UInt8) (w : World) (hl : l.length ≤ 1000000) : Calls Tryd.prog 46 #[.int .i64 f, .string (bs l)] w (GivesPart w f l) := by
  have hf3 : (f == 3) = false := beq_eq_false_iff_ne.2 (by omega)
  have HF := Lib.hid hf
  clear hf
  go_enter Tryd.func46, Tryd.ntmps46
  go_upto_block 0 with fail
  have hz : ((bs l).size : Int) = (l.length : Int) := by rw [bs_size]
  have b0 := (Blk.new w 78 #[.string ⟨#[]⟩, .string ⟨#[]⟩, .string ⟨#[]⟩, .bool false]).alloc (.cells #[.string ⟨#[]⟩, .string (bs l), .string ⟨#[]⟩, .bool false] 78)
  have b1 := (Blk.new (w.alloc (.cells #[.string ⟨#[]⟩, .string ⟨#[]⟩, .string ⟨#[]⟩, .bool false] 78)) 78 #[.string ⟨#[]⟩, .string (bs l), .string ⟨#[]⟩, .bool false])
  have hb1 : Below w.heap.size w ((w.alloc (.cells #[.string ⟨#[]⟩, .string ⟨#[]⟩, .string ⟨#[]⟩, .bool false] 78)).alloc (.cells #[.string ⟨#[]⟩, .string (bs l), .string ⟨#[]⟩, .bool false] 78)) := ((Below.refl _ _).alloc (Nat.le_refl _) _).alloc (by simp) _
  rw [show (w.alloc (.cells #[.string ⟨#[]⟩, .string ⟨#[]⟩, .string ⟨#[]⟩, .bool false] 78)).heap.size = w.heap.size + 1 by simp] at b1
  go_cut [8] (fun s8 wx => Hid (Mid w l wx))
  case first =>
    generalize ((w.alloc (.cells #[.string ⟨#[]⟩, .string ⟨#[]⟩, .string ⟨#[]⟩, .bool false] 78)).alloc (.cells #[.string ⟨#[]⟩, .string (bs l), .string ⟨#[]⟩, .bool false] 78)) = w1 at b0 b1 hb1 ⊢
    go_wp2_with fail
    go_loopg [8] l.length (fun g s8 wx => ∃ k : Nat, k ≤ l.length ∧ g = l.length - k ∧ s8 = .int .i64 k ∧ w1 = wx ∧ Hid (Lib.indexByte l 58 = findFrom 58 (l.drop k) k))
    case atStart => exact ⟨0, Nat.zero_le _, rfl, rfl, rfl, Lib.hid (findFrom_zero 58 l).symm⟩
    case round =>
      obtain ⟨k, hk, rfl, rfl, rfl, HE⟩ := hrel
      by_cases hlt : k < l.length
      · have hks : (k : Int) < ((bs l).size : Int) := by omega
        have hks2 : k < (bs l).size := by rw [bs_size]; exact hlt
        by_cases hc : l[k] = 58
        · have hcb : ((((bs l)[k]'hks2).toNat : Int) == 58) = true := by
            rw [show (bs l)[k]'hks2 = l[k] from rfl, hc]; rfl
          have hidx : Lib.indexByte l 58 = k := HE.out.trans (findFrom_hit 58 l k hlt hc)
          have hin : inB l 58 = true := by rw [inB, hidx]; simp
          have eA : cutA l 58 = l.take k := by rw [cutA, if_pos hin, hidx]; rfl
          have eB : cutB l 58 = l.drop (k + 1) := by rw [cutB, if_pos hin, hidx]; rfl
          have eL : (l.take k).length = k := by rw [List.length_take]; omega
          have hep : epOk l = (decide (1 ≤ k) && decide (k ≤ 9) && decide ((digs l).length = k)) := by rw [epOk_ref l hin, eA, eL]
          have H1 : Hid ((bs l).extract 0 k = bs (dEp l)) := Lib.hid (by rw [ext_take _ _ (by rw [bs_size]; omega), dEp, if_pos hin, eA]; rfl)
          have H2 : Hid ((bs l).extract (k + 1) (bs l).size = bs (dRest l)) := Lib.hid (by rw [ext_drop, dRest, if_pos hin, eB]; rfl)
          have HEP := Lib.hid hep
          have c00 := b0.cell 0
          have c01 := b0.cell 1
          have c02 := b0.cell 2
          have c03 := b0.cell 3
          have f00 := b0.free 0
          have f01 := b0.free 1
          have f02 := b0.free 2
          have f03 := b0.free 3
          have c10 := b1.cell 0
          have c11 := b1.cell 1
          have f10 := b1.free 0
          have f11 := b1.free 1
          simp at c00 c01 c02 c03 c10 c11
          clear hidx hin eA eB eL hep hc HE
          by_cases h1 : k < 1
          · have d1 : decide ((k : Int) < 1) = true := by simp; omega
            have HNO : Hid (vOk f l = false) := Lib.hid (vOk12 f l HF.out (by rw [HEP.out]; simp; omega))
            obtain rfl : k = 0 := by omega
            go_wp2_with fail
            have B := set4 b0 (.string ⟨#[]⟩) (.string ⟨#[]⟩) (.string ⟨#[]⟩) (.bool false)
            have hbB := below_set4 hb1 (Nat.le_refl _) (.string ⟨#[]⟩) (.string ⟨#[]⟩) (.string ⟨#[]⟩) (.bool false)
            generalize ((((w1.setCell ⟨w.heap.size, 0, none⟩ (.string ⟨#[]⟩)).setCell ⟨w.heap.size, 1, none⟩ (.string ⟨#[]⟩)).setCell ⟨w.heap.size, 2, none⟩ (.string ⟨#[]⟩)).setCell ⟨w.heap.size, 3, none⟩ (.bool false)) = W at B hbB ⊢
            have d0 := B.cell 0
            have d1 := B.cell 1
            have d2 := B.cell 2
            have d3 := B.cell 3
            simp at d0 d1 d2 d3
            refine bodyPost_ret (v := .agg #[.string ⟨#[]⟩, .string ⟨#[]⟩, .string ⟨#[]⟩, .bool false]) (by simp [results, Tryd.results46, go_sem, d0, d1, d2, d3]) rfl ?_
            exact part_no w W f l HNO.out hbB
          · by_cases h9 : 9 < k
            · have d1 : decide ((k : Int) < 1) = false := by simp; omega
              have d9 : decide ((9 : Int) < (k : Int)) = true := by simp; omega
              have HNO : Hid (vOk f l = false) := Lib.hid (vOk12 f l HF.out (by rw [HEP.out]; simp; omega))
              go_wp2_with fail
              have B := set4 b0 (.string ⟨#[]⟩) (.string ⟨#[]⟩) (.string ⟨#[]⟩) (.bool false)
              have hbB := below_set4 hb1 (Nat.le_refl _) (.string ⟨#[]⟩) (.string ⟨#[]⟩) (.string ⟨#[]⟩) (.bool false)
              generalize ((((w1.setCell ⟨w.heap.size, 0, none⟩ (.string ⟨#[]⟩)).setCell ⟨w.heap.size, 1, none⟩ (.string ⟨#[]⟩)).setCell ⟨w.heap.size, 2, none⟩ (.string ⟨#[]⟩)).setCell ⟨w.heap.size, 3, none⟩ (.bool false)) = W at B hbB ⊢
              have q0 := B.cell 0
              have q1 := B.cell 1
              have q2 := B.cell 2
              have q3 := B.cell 3
              simp at q0 q1 q2 q3
              refine bodyPost_ret (v := .agg #[.string ⟨#[]⟩, .string ⟨#[]⟩, .string ⟨#[]⟩, .bool false]) (by simp [results, Tryd.results46, go_sem, q0, q1, q2, q3]) rfl ?_
              exact part_no w W f l HNO.out hbB
            · have d1 : decide ((k : Int) < 1) = false := by simp; omega
              have d9 : decide ((9 : Int) < (k : Int)) = false := by simp; omega
              obtain ⟨n, Hn⟩ : ∃ n, Hid ((digs l).length = n) := ⟨_, Lib.hid rfl⟩
              by_cases hd : n = k
              · have hdb : ((n : Int) != (k : Int)) = false := by rw [hd]; simp
                have HOK : Hid (epOk l = true) := Lib.hid (by rw [HEP.out, Hn.out, hd]; simp; omega)
                have hi1 : (0 : Int) ≤ (k : Int) := by omega
                have hi2 : (k : Int) ≤ ((bs l).size : Int) := by omega
                have hi3 : (0 : Int) ≤ (k : Int) + 1 := by omega
                have hi4 : (k : Int) + 1 ≤ ((bs l).size : Int) := by omega
                clear hd
                go_wp2_with fail
                refine (rdigs l _ (by omega)).mono ?_
                rintro e wq ⟨rfl, rfl⟩
                rw [Hn.out]
                go_wp2_with fail
                rw [H1.out, H2.out]
                go_meet
                refine Lib.hid ⟨HOK.out, (b0.other _ (by simp)).other _ (by simp), ?_, (hb1.setCell (by simp) _).setCell (by simp) _⟩
                have := (b1.set (u := .string (bs (dEp l))) 0).set (u := .string (bs (dRest l))) 1
                simpa using this
              · have hdb : ((n : Int) != (k : Int)) = true := by simp; omega
                have HNO : Hid (vOk f l = false) := Lib.hid (vOk12 f l HF.out (by rw [HEP.out, Hn.out]; simp; omega))
                clear hd
                go_wp2_with fail
                refine (rdigs l _ (by omega)).mono ?_
                rintro e wq ⟨rfl, rfl⟩
                rw [Hn.out]
                go_wp2_with fail
                have B := set4 b0 (.string ⟨#[]⟩) (.string ⟨#[]⟩) (.string ⟨#[]⟩) (.bool false)
                have hbB := below_set4 hb1 (Nat.le_refl _) (.string ⟨#[]⟩) (.string ⟨#[]⟩) (.string ⟨#[]⟩) (.bool false)
                generalize ((((w1.setCell ⟨w.heap.size, 0, none⟩ (.string ⟨#[]⟩)).setCell ⟨w.heap.size, 1, none⟩ (.string ⟨#[]⟩)).setCell ⟨w.heap.size, 2, none⟩ (.string ⟨#[]⟩)).setCell ⟨w.heap.size, 3, none⟩ (.bool false)) = W at B hbB ⊢
                have q0 := B.cell 0
                have q1 := B.cell 1
                have q2 := B.cell 2
                have q3 := B.cell 3
                simp at q0 q1 q2 q3
                refine bodyPost_ret (v := .agg #[.string ⟨#[]⟩, .string ⟨#[]⟩, .string ⟨#[]⟩, .bool false]) (by simp [results, Tryd.results46, go_sem, q0, q1, q2, q3]) rfl ?_
                exact part_no w W f l HNO.out hbB
        · have hcb : ((((bs l)[k]'hks2).toNat : Int) == 58) = false := by
            rw [show (bs l)[k]'hks2 = l[k] from rfl]
            have : l[k].toNat ≠ 58 := fun e => hc (UInt8.toNat_inj.1 (by simpa using e))
            simp; omega
          have HM := Lib.hid (findFrom_miss 58 l k hlt hc)
          clear hc
          go_wp2_with fail
          go_roundg (l.length - (k + 1))
          case measure => omega
          case rel => exact ⟨k + 1, by omega, rfl, by go_num, rfl, Lib.hid (HE.out.trans HM.out)⟩
      · obtain rfl : k = l.length := by omega
        have hno : inB l 58 = false := by
          rw [inB, HE.out, findFrom_end 58 l _ (Nat.le_refl _)]; rfl
        have HM : Hid (Mid w l w1) := Lib.hid ⟨by rw [epOk, hno]; rfl, b0, by rw [dEp, if_neg (by rw [hno]; simp), dRest, if_neg (by rw [hno]; simp)]; exact b1, hb1⟩
        clear hno
        go_wp2_with fail
        go_meet
        exact HM
  case rest =>
    obtain ⟨hep, b0, b1, hb1⟩ := hcut.out
    clear hcut hz
    have hrl := dRest_len l
    have hel := dEp_len l
    have HOK1 : Hid (f = 1 → vOk f l = refD (dRest l) ∧ vPart f l = (dEp l, dPr (dRest l), dRev (dRest l))) := Lib.hid (fun e => by subst e; exact ⟨by rw [vOk1, dOk_ref, hep]; rfl, rfl⟩)
    have HOK2 : Hid (f = 2 → vOk f l = (refR (dRest l) && !noughtB (dEp l)) ∧ (vOk f l = true → vPart f l = (dEp l, dPr (dRest l), dRev (dRest l)))) := Lib.hid (fun e => by
      subst e
      have e1 : vOk 2 l = (refR (dRest l) && !noughtB (dEp l)) := by rw [vOk2, rOk_ref, hep]; rfl
      refine ⟨e1, fun h => ?_⟩
      rw [e1, Bool.and_eq_true] at h
      obtain ⟨a1, a2⟩ := (refR_same (dRest l)).2 h.1
      show (dEp l, cutA (dRest l) 45, cutB (dRest l) 45) = _
      rw [a1, a2])
    generalize dRest l = r at b1 hrl HOK1 HOK2
    generalize dEp l = ep at b1 hel HOK1 HOK2
    clear hep
    have c10 := b1.cell 0
    have c11 := b1.cell 1
    have c12 := b1.cell 2
    have f11 := b1.free 1
    have f12 := b1.free 2
    simp at c10 c11 c12
    go_wp2_with fail
    refine (rplace r _ (by omega)).mono ?_
    rintro e wq ⟨rfl, rfl⟩
    obtain ⟨k, Hk⟩ : ∃ k, Hid (lastI r = k) := ⟨_, Lib.hid rfl⟩
    rw [Hk.out]
    have hklt : k < r.length := by rw [← Hk.out]; exact lastI_lt r
    have hkge : -1 ≤ k := by rw [← Hk.out]; exact lastI_ge r
    have hplen : (dPr r).length ≤ r.length := dPr_len r
    have hvlen : (dRev r).length ≤ r.length := dRev_len r
    go_upto_if 82 with fail
    go_cut [] (fun wx => Blk wx w.heap.size 78 #[.string ⟨#[]⟩, .string ⟨#[]⟩, .string ⟨#[]⟩, .bool false] ∧ Blk wx (w.heap.size + 1) 78 #[.string (bs ep), .string (bs (dPr r)), .string (bs (dRev r)), .bool false] ∧ Below w.heap.size w wx)
    case first =>
      by_cases hk0 : 0 ≤ k
      · obtain ⟨n, rfl⟩ := Int.eq_ofNat_of_zero_le hk0
        have H1 : Hid ((bs r).extract (n + 1) (bs r).size = bs (dRev r)) := Lib.hid (by rw [ext_drop, dRev, Hk.out, if_pos hk0]; rfl)
        have H2 : Hid ((bs r).extract 0 n = bs (dPr r)) := Lib.hid (by rw [ext_take _ _ (by rw [bs_size]; omega), dPr, Hk.out, if_pos hk0]; rfl)
        have hz1 : ((bs r).size : Int) = (r.length : Int) := by rw [bs_size]
        have hi1 : (0 : Int) ≤ (n : Int) := by omega
        have hi2 : (n : Int) ≤ ((bs r).size : Int) := by omega
        have hi3 : (0 : Int) ≤ (n : Int) + 1 := by omega
        have hi4 : (n : Int) + 1 ≤ ((bs r).size : Int) := by omega
        have hi5 : ((n : Int) + 1).toNat = n + 1 := by omega
        clear hz1 hk0
        go_wp2_with fail
        rw [H1.out, H2.out]
        go_meet
        refine ⟨(b0.other _ (by simp)).other _ (by simp), ?_, (hb1.setCell (by simp) _).setCell (by simp) _⟩
        have := (b1.set (u := .string (bs (dRev r))) 2).set (u := .string (bs (dPr r))) 1
        simpa using this
      · have e1 : dPr r = r := by rw [dPr, Hk.out, if_neg hk0]
        have e2 : dRev r = [] := by rw [dRev, Hk.out, if_neg hk0]
        have HX := Lib.hid (show Blk wc w.heap.size 78 #[.string ⟨#[]⟩, .string ⟨#[]⟩, .string ⟨#[]⟩, .bool false] ∧ Blk wc (w.heap.size + 1) 78 #[.string (bs ep), .string (bs (dPr r)), .string (bs (dRev r)), .bool false] ∧ Below w.heap.size w wc from ⟨b0, by rw [e1, e2]; exact b1, hb1⟩)
        clear e1 e2
        go_wp2_with fail
        go_meet
        exact HX.out
    case rest =>
      clear b0 b1 hb1 c10 c11 c12 f11 f12
      obtain ⟨b0, b1, hb1⟩ := hcut
      have HR : Hid (refR r = (decide (0 ≤ k) && (madeB (dPr r) rOthers && madeB (dRev r) rOthers))) := Lib.hid (by rw [refR, Hk.out])
      have HD1 : Hid (k < 0 → refD r = (madeB (dPr r) [46, 43, 126] && headDig (dPr r))) := Lib.hid (fun h => by
        rw [refD, Hk.out, if_pos h, dPr, Hk.out, if_neg (by omega)])
      have HD2 : Hid (¬ k < 0 → refD r = ((madeB (dPr r) [46, 43, 126, 45] && headDig (dPr r)) && madeB (dRev r) [46, 43, 126])) := Lib.hid (fun h => by rw [refD, Hk.out, if_neg h])
      generalize dPr r = pr at b1 HR HD1 HD2 HOK1 HOK2 hplen
      generalize dRev r = rv at b1 HR HD1 HD2 HOK1 HOK2 hvlen
      have c10 := b1.cell 0
      have c11 := b1.cell 1
      have c12 := b1.cell 2
      have c13 := b1.cell 3
      have f13 := b1.free 3
      simp at c10 c11 c12 c13
      go_upto_if 95 with fail
      go_cut [] (fun wx => ∃ ok : Bool, Blk wx w.heap.size 78 #[.string ⟨#[]⟩, .string ⟨#[]⟩, .string ⟨#[]⟩, .bool false] ∧ Blk wx (w.heap.size + 1) 78 #[.string (bs ep), .string (bs pr), .string (bs rv), .bool ok] ∧ Below w.heap.size w wx ∧ Hid (vOk f l = ok ∧ (ok = true → vPart f l = (ep, pr, rv))))
      case first =>
        have FIN : Hid (∀ ok : Bool, (vOk f l = ok) → (ok = true → vPart f l = (ep, pr, rv)) → ∃ ok' : Bool, Blk (wc.setCell ⟨w.heap.size + 1, 3, none⟩ (.bool ok)) w.heap.size 78 #[.string ⟨#[]⟩, .string ⟨#[]⟩, .string ⟨#[]⟩, .bool false] ∧ Blk (wc.setCell ⟨w.heap.size + 1, 3, none⟩ (.bool ok)) (w.heap.size + 1) 78 #[.string (bs ep), .string (bs pr), .string (bs rv), .bool ok'] ∧ Below w.heap.size w (wc.setCell ⟨w.heap.size + 1, 3, none⟩ (.bool ok)) ∧ Hid (vOk f l = ok' ∧ (ok' = true → vPart f l = (ep, pr, rv)))) := Lib.hid (fun ok h1 h2 => ⟨ok, b0.other _ (by simp), by have := b1.set (u := .bool ok) 3; simpa using this, hb1.setCell (by simp) _, Lib.hid ⟨h1, h2⟩⟩)
        rcases HF.out with hf | hf
        · have HV := Lib.hid (HOK1.out hf)
          have FIN2 : Hid (∀ ok : Bool, refD r = ok → ∃ ok' : Bool, Blk (wc.setCell ⟨w.heap.size + 1, 3, none⟩ (.bool ok)) w.heap.size 78 #[.string ⟨#[]⟩, .string ⟨#[]⟩, .string ⟨#[]⟩, .bool false] ∧ Blk (wc.setCell ⟨w.heap.size + 1, 3, none⟩ (.bool ok)) (w.heap.size + 1) 78 #[.string (bs ep), .string (bs pr), .string (bs rv), .bool ok'] ∧ Below w.heap.size w (wc.setCell ⟨w.heap.size + 1, 3, none⟩ (.bool ok)) ∧ Hid (vOk f l = ok' ∧ (ok' = true → vPart f l = (ep, pr, rv)))) := Lib.hid (fun ok h1 => FIN.out ok (by rw [HV.out.1]; exact h1) (fun _ => HV.out.2))
          clear HV FIN HOK1 HOK2 HR
          subst hf
          by_cases hk0 : k < 0
          · have HD := Lib.hid (HD1.out hk0)
            have hkb : decide (k < 0) = true := by simpa using hk0
            clear HD1 HD2
            go_wp2_with fail
            refine (rmadeq pr [46, 43, 126] _ (by omega) (by decide)).mono ?_
            rintro e wq ⟨rfl, rfl⟩
            cases hm : madeB pr [46, 43, 126] with
            | false =>
              go_wp2_with fail
              go_meet
              exact FIN2.out false (by rw [HD.out, hm]; rfl)
            | true =>
              have hp0 := madeB_pos pr _ hm
              have hi2 : (0 : Int) < ((bs pr).size : Int) := by omega
              go_wp2_with fail
              refine (rdigit_any (bs pr)[0] _).mono ?_
              rintro e wq ⟨rfl, rfl⟩
              rw [← get0 pr hp0]
              go_wp2_with fail
              go_meet
              exact FIN2.out _ (by rw [HD.out, hm]; rfl)
          · have HD := Lib.hid (HD2.out hk0)
            have hkb : decide (k < 0) = false := by simpa using hk0
            clear HD1 HD2
            go_wp2_with fail
            refine (rmadeq pr [46, 43, 126, 45] _ (by omega) (by decide)).mono ?_
            rintro e wq ⟨rfl, rfl⟩
            cases hm : madeB pr [46, 43, 126, 45] with
            | false =>
              go_wp2_with fail
              go_meet
              exact FIN2.out false (by rw [HD.out, hm]; rfl)
            | true =>
              have hp0 := madeB_pos pr _ hm
              have hi2 : (0 : Int) < ((bs pr).size : Int) := by omega
              go_wp2_with fail
              refine (rdigit_any (bs pr)[0] _).mono ?_
              rintro e wq ⟨rfl, rfl⟩
              rw [← get0 pr hp0]
              cases hh : headDig pr with
              | false =>
                go_wp2_with fail
                go_meet
                exact FIN2.out false (by rw [HD.out, hm, hh]; rfl)
              | true =>
                go_wp2_with fail
                refine (rmadeq rv [46, 43, 126] _ (by omega) (by decide)).mono ?_
                rintro e wq ⟨rfl, rfl⟩
                go_wp2_with fail
                go_meet
                exact FIN2.out _ (by rw [HD.out, hm, hh]; rfl)
        · have HV := Lib.hid (HOK2.out hf)
          have FIN2 : Hid (∀ ok : Bool, (refR r && !noughtB ep) = ok → ∃ ok' : Bool, Blk (wc.setCell ⟨w.heap.size + 1, 3, none⟩ (.bool ok)) w.heap.size 78 #[.string ⟨#[]⟩, .string ⟨#[]⟩, .string ⟨#[]⟩, .bool false] ∧ Blk (wc.setCell ⟨w.heap.size + 1, 3, none⟩ (.bool ok)) (w.heap.size + 1) 78 #[.string (bs ep), .string (bs pr), .string (bs rv), .bool ok'] ∧ Below w.heap.size w (wc.setCell ⟨w.heap.size + 1, 3, none⟩ (.bool ok)) ∧ Hid (vOk f l = ok' ∧ (ok' = true → vPart f l = (ep, pr, rv)))) := Lib.hid (fun ok h1 => FIN.out ok (by rw [HV.out.1]; exact h1) (fun h => HV.out.2 (by rw [HV.out.1, h1]; exact h)))
          clear HV FIN HOK1 HOK2 HD1 HD2
          subst hf
          by_cases hk0 : 0 ≤ k
          · have hkb : decide ((0 : Int) ≤ k) = true := by simpa using hk0
            have HR2 : Hid (refR r = (madeB pr rOthers && madeB rv rOthers)) := Lib.hid (by rw [HR.out, hkb]; rfl)
            clear HR
            go_wp2_with fail
            refine (rmadeq pr rOthers _ (by omega) (by decide)).mono ?_
            rintro e wq ⟨rfl, rfl⟩
            cases hm : madeB pr rOthers with
            | false =>
              go_wp2_with fail
              go_meet
              exact FIN2.out false (by rw [HR2.out, hm]; rfl)
            | true =>
              go_wp2_with fail
              refine (rmadeq rv rOthers _ (by omega) (by decide)).mono ?_
              rintro e wq ⟨rfl, rfl⟩
              cases hv : madeB rv rOthers with
              | false =>
                go_wp2_with fail
                go_meet
                exact FIN2.out false (by rw [HR2.out, hm, hv]; rfl)
              | true =>
                by_cases h2 : 1 < (bs ep).size
                · have hd2 : decide (((bs ep).size : Int) < 2) = false := by simp; omega
                  have hi0 : (0 : Int) < ((bs ep).size : Int) := by omega
                  have HN := Lib.hid (noughtB_long (bs ep) h2)
                  go_wp2_with fail
                  go_meet
                  refine FIN2.out _ ?_
                  rw [HR2.out, hm, hv, show noughtB ep = ((((bs ep)[0]'(by omega)).toNat : Int) == 48) from HN.out]
                  rfl
                · have hd2 : decide (((bs ep).size : Int) < 2) = true := by simp; omega
                  have HN := Lib.hid (noughtB_short (bs ep) h2)
                  go_wp2_with fail
                  go_meet
                  refine FIN2.out _ ?_
                  rw [HR2.out, hm, hv, show noughtB ep = false from HN.out]
                  rfl
          · have hkb : decide ((0 : Int) ≤ k) = false := by simpa using hk0
            have HR2 : Hid (refR r = false) := Lib.hid (by rw [HR.out, hkb]; rfl)
            clear HR
            go_wp2_with fail
            go_meet
            exact FIN2.out false (by rw [HR2.out]; rfl)
      case rest =>
        clear b0 b1 hb1 c10 c11 c12 c13 f13
        obtain ⟨ok, b0, b1, hb1, HV⟩ := hcut
        have c10 := b1.cell 0
        have c11 := b1.cell 1
        have c12 := b1.cell 2
        have c13 := b1.cell 3
        have c00 := b0.cell 0
        have c01 := b0.cell 1
        have c02 := b0.cell 2
        have c03 := b0.cell 3
        have f00 := b0.free 0
        have f01 := b0.free 1
        have f02 := b0.free 2
        have f03 := b0.free 3
        simp at c00 c01 c02 c03 c10 c11 c12 c13
        clear HOK1 HOK2 HD1 HD2 HR Hk
        cases ok with
        | false =>
          go_wp2_with fail
          have B := set4 b0 (.string ⟨#[]⟩) (.string ⟨#[]⟩) (.string ⟨#[]⟩) (.bool false)
          have hbB := below_set4 hb1 (Nat.le_refl _) (.string ⟨#[]⟩) (.string ⟨#[]⟩) (.string ⟨#[]⟩) (.bool false)
          generalize ((((wc.setCell ⟨w.heap.size, 0, none⟩ (.string ⟨#[]⟩)).setCell ⟨w.heap.size, 1, none⟩ (.string ⟨#[]⟩)).setCell ⟨w.heap.size, 2, none⟩ (.string ⟨#[]⟩)).setCell ⟨w.heap.size, 3, none⟩ (.bool false)) = W at B hbB ⊢
          have d0 := B.cell 0
          have d1 := B.cell 1
          have d2 := B.cell 2
          have d3 := B.cell 3
          simp at d0 d1 d2 d3
          refine bodyPost_ret (v := .agg #[.string ⟨#[]⟩, .string ⟨#[]⟩, .string ⟨#[]⟩, .bool false]) (by simp [results, Tryd.results46, go_sem, d0, d1, d2, d3]) rfl ?_
          exact part_no w W f l HV.out.1 hbB
        | true =>
          go_wp2_with fail
          have B := set4 b0 (.string (bs ep)) (.string (bs pr)) (.string (bs rv)) (.bool true)
          have hbB := below_set4 hb1 (Nat.le_refl _) (.string (bs ep)) (.string (bs pr)) (.string (bs rv)) (.bool true)
          generalize ((((wc.setCell ⟨w.heap.size, 0, none⟩ (.string (bs ep))).setCell ⟨w.heap.size, 1, none⟩ (.string (bs pr))).setCell ⟨w.heap.size, 2, none⟩ (.string (bs rv))).setCell ⟨w.heap.size, 3, none⟩ (.bool true)) = W at B hbB ⊢
          have d0 := B.cell 0
          have d1 := B.cell 1
          have d2 := B.cell 2
          have d3 := B.cell 3
          simp at d0 d1 d2 d3
          refine bodyPost_ret (v := .agg #[.string (bs ep), .string (bs pr), .string (bs rv), .bool true]) (by simp [results, Tryd.results46, go_sem, d0, d1, d2, d3]) rfl ?_
          exact part_yes w W f l HV.out.1 hbB ep pr rv (HV.out.2 (by trivial))
theorem part_any (f : Int) (hf : f = 1 ∨ f = 2 ∨ f = 3) (l : List UInt8) (w : World) (hl : l.length ≤ 1000000) : Calls Tryd.prog 46 #[.int .i64 f, .string (bs l)] w (GivesPart w f l) := by
  rcases hf with h | h | rfl
  · exact part12_any f (.inl h) l w hl
  · exact part12_any f (.inr h) l w hl
  · exact part3_any l w hl
set_option maxRecDepth 20000 in
set_option maxHeartbeats 1000000 in
theorem rcheck_any (f : Int) (l : List UInt8) (w : World) (hl : l.length ≤ 1000000) : Calls Tryd.prog 42 #[.int .i64 f, .string (bs l)] w fun e w' => e = .returned (.int .i64 (vErr f l)) ∧ Below w.heap.size w w' := by
  have hz : ((bs l).size : Int) = (l.length : Int) := by rw [bs_size]
  by_cases h1 : f < 1
  · have d1 : decide (f < 1) = true := by simpa using h1
    have HV : Hid (vErr f l = 9) := Lib.hid (by rw [vErr, if_neg (by omega)])
    clear h1
    go_enter Tryd.func42, Tryd.ntmps42
    go_wp2_with fail
    go_ret
    exact ⟨by rw [HV.out]; rfl, Below.refl _ _⟩
  · have d1 : decide (f < 1) = false := by simpa using h1
    by_cases h3 : 3 < f
    · have d3 : decide (3 < f) = true := by simpa using h3
      have HV : Hid (vErr f l = 9) := Lib.hid (by rw [vErr, if_neg (by omega)])
      clear h1 h3
      go_enter Tryd.func42, Tryd.ntmps42
      go_wp2_with fail
      go_ret
      exact ⟨by rw [HV.out]; rfl, Below.refl _ _⟩
    · have d3 : decide (3 < f) = false := by simpa using h3
      have hf : f = 1 ∨ f = 2 ∨ f = 3 := by omega
      by_cases hlong : 64 < l.length
      · have hd : decide ((64 : Int) < ((bs l).size : Int)) = true := by rw [hz]; simp; omega
        have HV : Hid (vErr f l = 4) := Lib.hid (by rw [vErr, if_pos hf, if_pos hlong])
        clear h1 h3 hz hf
        go_enter Tryd.func42, Tryd.ntmps42
        go_wp2_with fail
        go_ret
        exact ⟨by rw [HV.out]; rfl, Below.refl _ _⟩
      · have hd : decide ((64 : Int) < ((bs l).size : Int)) = false := by rw [hz]; simp; omega
        have HV : Hid (vErr f l = if vOk f l = true then 0 else 3) := Lib.hid (by rw [vErr, if_pos hf, if_neg hlong])
        have HF := Lib.hid hf
        clear h1 h3 hz hf
        have hfd : ∀ (a b c d : Value) (w : World), (Instr.field 78 (.agg #[a, b, c, d]) 3).run Tryd.prog w = .ok d w := fun _ _ _ _ _ => by kernel_rfl
        go_enter Tryd.func42, Tryd.ntmps42
        go_wp2_with fail
        refine (part_any f HF.out l _ hl).mono ?_
        rintro e w1 ⟨rfl, hb1⟩
        generalize (if vOk f l = true then vPart f l else ([], [], [])) = pt
        cases hok : vOk f l with
        | true =>
          go_wp2_with fail
          go_ret
          exact ⟨by rw [HV.out, hok]; rfl, hb1⟩
        | false =>
          go_wp2_with fail
          go_ret
          exact ⟨by rw [HV.out, hok]; rfl, hb1⟩
end Go.Proofs.YtjdcegogkafmoaaDoor

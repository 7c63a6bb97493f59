/- The walk of cpio's readHead. Printed by gen_cpl.py. -/
import Derived.Test.YtolknddegfcmpaaDoorCpHS
import Derived.Test.YtolknddegfcmpaaDoorCpP
namespace Go.Proofs.YtolknddegfcmpaaDoor
open Go.RowKit
/-- The i-th number's digits, behind the magic. -/
def grpT (t : List UInt8) (i : Nat) : List UInt8 := (t.drop (8 * i)).take 8
def okT (t : List UInt8) (k : Nat) : Bool := (List.range k).all fun i => decide (un8Code (grpT t i) = 0)
def numT (t : List UInt8) : List Nat := (List.range 13).map fun i => (un8N (grpT t i)).toNat
/-- Is a text of 110 bytes a head? -/
def headOk (s : List UInt8) : Bool := decide (s.take 6 = magicL) && okT (s.drop 6) 13
def headN (s : List UInt8) : List Nat := numT (s.drop 6)
def vI8 (n : Nat) : Value := .int .i64 (n : Int)
theorem okT_step (t : List UInt8) (k : Nat) : okT t (k + 1) = (okT t k && decide (un8Code (grpT t k) = 0)) := by
  rw [okT, okT, List.range_succ, List.all_append]; simp
theorem hexNum_lt (l : List UInt8) : allDv l = true → 0 ≤ hexNum l ∧ hexNum l < 16 ^ l.length := by
  generalize hn : l.length = n
  induction n generalizing l with
  | zero => intro _; rw [List.eq_nil_of_length_eq_zero hn]; simp [hexNum]
  | succ n ih =>
    intro h
    have hne : l ≠ [] := fun e => by rw [e] at hn; simp at hn
    have hs := (List.dropLast_concat_getLast hne).symm
    rw [hs] at h ⊢
    rw [hexNum_snoc]
    simp only [allDv, List.all_append, List.all_cons, List.all_nil, Bool.and_true, Bool.and_eq_true, decide_eq_true_eq] at h
    obtain ⟨h1, h2⟩ := ih l.dropLast (by rw [List.length_dropLast, hn]; rfl) h.1
    have h3 := dv_range (l.getLast hne)
    have h4 := h.2
    rw [Int.pow_succ]
    omega
theorem un8_le (l : List UInt8) (h : un8Code l = 0) : 0 ≤ un8N l ∧ un8N l ≤ 4294967295 := by
  have h8 : l.length = 8 := Classical.byContradiction fun c => by
    have := (un8_short l c).1
    omega
  have ha : allDv l = true := by
    cases hb : allDv l with
    | true => rfl
    | false => have := (un8_form l h8 hb).1; omega
  have := hexNum_lt l ha
  rw [(un8_ok l h8 ha).2]
  rw [h8] at this
  omega
theorem numT_len (t : List UInt8) : (numT t).length = 13 := by simp [numT]
theorem okT_at (t : List UInt8) : ∀ k, okT t k = true → ∀ i, i < k → un8Code (grpT t i) = 0
  | 0, _, i, hi => by omega
  | k + 1, h, i, hi => by
    rw [okT_step, Bool.and_eq_true, decide_eq_true_iff] at h
    by_cases e : i = k
    · rw [e]; exact h.2
    · exact okT_at t k h.1 i (by omega)
theorem numT_le (t : List UInt8) (h : okT t 13 = true) : ∀ x ∈ numT t, x ≤ 4294967295 := by
  intro x hx
  simp only [numT, List.mem_map, List.mem_range] at hx
  obtain ⟨i, hi, rfl⟩ := hx
  have := un8_le _ (okT_at t 13 h i hi)
  omega
/-- The row of numbers, of which k are read. -/
def rowT (t : List UInt8) (k : Nat) : Array Value := (((numT t).take k).map vI8 ++ List.replicate (13 - k) (Value.int .i64 0)).toArray
theorem rowT_set (t : List UInt8) (k : Nat) (hk : k < 13) (u : Int) (hu : u = ((un8N (grpT t k)).toNat : Int)) : (rowT t k).setIfInBounds k (.int .i64 u) = rowT t (k + 1) := by
  have hl : ((numT t).take k).length = k := by rw [List.length_take, numT_len]; omega
  have hg : (numT t)[k]'(by rw [numT_len]; exact hk) = (un8N (grpT t k)).toNat := by simp [numT]
  rw [rowT, rowT, List.setIfInBounds_toArray, show 13 - k = (13 - (k + 1)) + 1 by omega, List.replicate_succ, set_next _ _ _ _ k (by rw [List.length_map, hl]), List.take_succ_eq_append_getElem (by rw [numT_len]; exact hk), hg, hu]
  simp [vI8]
theorem rowT_cell (t : List UInt8) (k : Nat) (hk : k < 13) : ∃ u, (rowT t k)[k]? = some u := by
  have hl : ((numT t).take k).length = k := by rw [List.length_take, numT_len]; omega
  have : k < (rowT t k).size := by rw [rowT]; simp only [List.size_toArray, List.length_append, List.length_map, List.length_replicate, hl]; omega
  exact ⟨_, Array.getElem?_eq_getElem this⟩
theorem list13 (l : List Nat) (h : l.length = 13) : ∃ x0 x1 x2 x3 x4 x5 x6 x7 x8 x9 x10 x11 x12, l = [x0, x1, x2, x3, x4, x5, x6, x7, x8, x9, x10, x11, x12] := by
  match l, h with
  | [x0, x1, x2, x3, x4, x5, x6, x7, x8, x9, x10, x11, x12], _ => exact ⟨x0, x1, x2, x3, x4, x5, x6, x7, x8, x9, x10, x11, x12, rfl⟩
theorem blk_set13 {w : World} {g : Nat} {t : TypeId} {y0 y1 y2 y3 y4 y5 y6 y7 y8 y9 y10 y11 y12 : Value} (h : Blk w g t #[y0, y1, y2, y3, y4, y5, y6, y7, y8, y9, y10, y11, y12]) (v0 v1 v2 v3 v4 v5 v6 v7 v8 v9 v10 v11 v12 : Value) :
    Blk (((((((((((((w.setCell ⟨g, 0, none⟩ v0).setCell ⟨g, 1, none⟩ v1).setCell ⟨g, 2, none⟩ v2).setCell ⟨g, 3, none⟩ v3).setCell ⟨g, 4, none⟩ v4).setCell ⟨g, 5, none⟩ v5).setCell ⟨g, 6, none⟩ v6).setCell ⟨g, 7, none⟩ v7).setCell ⟨g, 8, none⟩ v8).setCell ⟨g, 9, none⟩ v9).setCell ⟨g, 10, none⟩ v10).setCell ⟨g, 11, none⟩ v11).setCell ⟨g, 12, none⟩ v12) g t #[v0, v1, v2, v3, v4, v5, v6, v7, v8, v9, v10, v11, v12] := by
  have := (((((((((((((h.set (u := v0) 0).set (u := v1) 1).set (u := v2) 2).set (u := v3) 3).set (u := v4) 4).set (u := v5) 5).set (u := v6) 6).set (u := v7) 7).set (u := v8) 8).set (u := v9) 9).set (u := v10) 10).set (u := v11) 11).set (u := v12) 12)
  simpa using this
theorem below_set13 {B : Nat} {a w : World} {g : Nat} (h : Below B a w) (hg : B ≤ g) (v0 v1 v2 v3 v4 v5 v6 v7 v8 v9 v10 v11 v12 : Value) : Below B a (((((((((((((w.setCell ⟨g, 0, none⟩ v0).setCell ⟨g, 1, none⟩ v1).setCell ⟨g, 2, none⟩ v2).setCell ⟨g, 3, none⟩ v3).setCell ⟨g, 4, none⟩ v4).setCell ⟨g, 5, none⟩ v5).setCell ⟨g, 6, none⟩ v6).setCell ⟨g, 7, none⟩ v7).setCell ⟨g, 8, none⟩ v8).setCell ⟨g, 9, none⟩ v9).setCell ⟨g, 10, none⟩ v10).setCell ⟨g, 11, none⟩ v11).setCell ⟨g, 12, none⟩ v12) := (((((((((((((h.setCell (p := ⟨g, 0, none⟩) hg _).setCell (p := ⟨g, 1, none⟩) hg _).setCell (p := ⟨g, 2, none⟩) hg _).setCell (p := ⟨g, 3, none⟩) hg _).setCell (p := ⟨g, 4, none⟩) hg _).setCell (p := ⟨g, 5, none⟩) hg _).setCell (p := ⟨g, 6, none⟩) hg _).setCell (p := ⟨g, 7, none⟩) hg _).setCell (p := ⟨g, 8, none⟩) hg _).setCell (p := ⟨g, 9, none⟩) hg _).setCell (p := ⟨g, 10, none⟩) hg _).setCell (p := ⟨g, 11, none⟩) hg _).setCell (p := ⟨g, 12, none⟩) hg _)
/-- What readHead answers. -/
def HeadR (w : World) (s : List UInt8) (r : Ending) (w' : World) : Prop :=
  r = .returned (.tuple #[.agg (if headOk s = true then ((headN s).map vI8).toArray else #[.int .i64 0, .int .i64 0, .int .i64 0, .int .i64 0, .int .i64 0, .int .i64 0, .int .i64 0, .int .i64 0, .int .i64 0, .int .i64 0, .int .i64 0, .int .i64 0, .int .i64 0]), .bool (headOk s)]) ∧ Below w.heap.size w w'
theorem pre_is (s : List UInt8) : Lib.hasPrefix s magicL = decide (s.take 6 = magicL) := by
  rw [Bool.eq_iff_iff, decide_eq_true_iff]
  unfold Lib.hasPrefix
  rw [List.isPrefixOf_iff_prefix, List.prefix_iff_eq_take]
  exact ⟨fun h => h.symm, fun h => h.symm⟩
theorem okT_not (t : List UInt8) (k : Nat) (hk : k < 13) (h : un8Code (grpT t k) ≠ 0) : okT t 13 = false := by
  cases hb : okT t 13 with
  | false => rfl
  | true => exact absurd (okT_at t 13 hb k hk) h
set_option maxRecDepth 20000 in
set_option maxHeartbeats 8000000 in
theorem readHead_any (s : List UInt8) (w : World) (hs : s.length = 110) : Calls Tryd.prog 51 #[.string (bs s)] w (HeadR w s) := by
  have hcp : ∀ W, Calls Tryd.prog 77 #[.string (bs s), .string ⟨#[48, 55, 48, 55, 48, 49]⟩] W fun e w' => e = .returned (.tuple #[.string (bs (if s.take 6 = magicL then s.drop 6 else s)), .bool (decide (s.take 6 = magicL))]) ∧ W = w' := fun W => by
    refine (Tryd.strings_CutPrefix (bs s) ⟨#[48, 55, 48, 55, 48, 49]⟩ W).mono fun e w' h => ⟨?_, h.2.symm⟩
    have e1 : Lib.hasPrefix (bs s).data.toList (⟨#[48, 55, 48, 55, 48, 49]⟩ : ByteArray).data.toList = decide (s.take 6 = magicL) := pre_is s
    rw [h.1, e1]
    unfold Lib.trimPrefix
    rw [e1]
    by_cases hp : s.take 6 = magicL
    · simp only [hp, decide_true, if_true]; rfl
    · simp only [hp, decide_false, if_false]; rfl
  have hN : Tryd.prog.underlying 57 = some (.array 13 3) := Tryd.underlying57
  have HO : Hid (headOk s = (decide (s.take 6 = magicL) && okT (s.drop 6) 13)) := Lib.hid rfl
  have HN : Hid (headN s = numT (s.drop 6)) := Lib.hid rfl
  go_enter Tryd.func51, Tryd.ntmps51
  go_upto_region 1 with fail
  have bG := Blk.new w 57 #[.int .i64 0, .int .i64 0, .int .i64 0, .int .i64 0, .int .i64 0, .int .i64 0, .int .i64 0, .int .i64 0, .int .i64 0, .int .i64 0, .int .i64 0, .int .i64 0, .int .i64 0]
  have hb := (Below.refl w.heap.size w).alloc (Nat.le_refl _) (.cells #[.int .i64 0, .int .i64 0, .int .i64 0, .int .i64 0, .int .i64 0, .int .i64 0, .int .i64 0, .int .i64 0, .int .i64 0, .int .i64 0, .int .i64 0, .int .i64 0, .int .i64 0] 57)
  generalize w.alloc (.cells #[.int .i64 0, .int .i64 0, .int .i64 0, .int .i64 0, .int .i64 0, .int .i64 0, .int .i64 0, .int .i64 0, .int .i64 0, .int .i64 0, .int .i64 0, .int .i64 0, .int .i64 0] 57) = W1 at bG hb ⊢
  have hgH : w.heap.size ≤ w.heap.size := Nat.le_refl _
  generalize hg : w.heap.size = g at bG hgH ⊢
  have hgH : w.heap.size ≤ g := by rw [hg]; exact Nat.le_refl _
  obtain ⟨z0, z1, z2, z3, z4, z5, z6, z7, z8, z9, z10, z11, z12⟩ := bG.cells13
  have f0 := bG.frozen 0
  have f1 := bG.frozen 1
  have f2 := bG.frozen 2
  have f3 := bG.frozen 3
  have f4 := bG.frozen 4
  have f5 := bG.frozen 5
  have f6 := bG.frozen 6
  have f7 := bG.frozen 7
  have f8 := bG.frozen 8
  have f9 := bG.frozen 9
  have f10 := bG.frozen 10
  have f11 := bG.frozen 11
  have f12 := bG.frozen 12
  by_cases hp : s.take 6 = magicL
  rotate_left
  · have hpd : decide (s.take 6 = magicL) = false := decide_eq_false hp
    have HV : Hid (headOk s = false) := Lib.hid (by rw [HO.out, hpd]; rfl)
    rw [hpd, if_neg hp] at hcp
    clear hp hpd HO HN
    go_wp2_with (go_at_call 77; refine (hcp _).mono ?_; rintro e W2 ⟨rfl, rfl⟩; clear hcp)
    have K := blk_set13 bG (.int .i64 0) (.int .i64 0) (.int .i64 0) (.int .i64 0) (.int .i64 0) (.int .i64 0) (.int .i64 0) (.int .i64 0) (.int .i64 0) (.int .i64 0) (.int .i64 0) (.int .i64 0) (.int .i64 0)
    have hq := below_set13 hb hgH (.int .i64 0) (.int .i64 0) (.int .i64 0) (.int .i64 0) (.int .i64 0) (.int .i64 0) (.int .i64 0) (.int .i64 0) (.int .i64 0) (.int .i64 0) (.int .i64 0) (.int .i64 0) (.int .i64 0)
    clear z0 z1 z2 z3 z4 z5 z6 z7 z8 z9 z10 z11 z12 f0 f1 f2 f3 f4 f5 f6 f7 f8 f9 f10 f11 f12
    generalize ((((((((((((W1.setCell ⟨g, 0, none⟩ (.int .i64 0)).setCell ⟨g, 1, none⟩ (.int .i64 0)).setCell ⟨g, 2, none⟩ (.int .i64 0)).setCell ⟨g, 3, none⟩ (.int .i64 0)).setCell ⟨g, 4, none⟩ (.int .i64 0)).setCell ⟨g, 5, none⟩ (.int .i64 0)).setCell ⟨g, 6, none⟩ (.int .i64 0)).setCell ⟨g, 7, none⟩ (.int .i64 0)).setCell ⟨g, 8, none⟩ (.int .i64 0)).setCell ⟨g, 9, none⟩ (.int .i64 0)).setCell ⟨g, 10, none⟩ (.int .i64 0)).setCell ⟨g, 11, none⟩ (.int .i64 0)).setCell ⟨g, 12, none⟩ (.int .i64 0) = Wf at K hq ⊢
    obtain ⟨k0, k1, k2, k3, k4, k5, k6, k7, k8, k9, k10, k11, k12⟩ := K.cells13
    refine bodyPost_ret (v := .tuple #[.agg #[.int .i64 0, .int .i64 0, .int .i64 0, .int .i64 0, .int .i64 0, .int .i64 0, .int .i64 0, .int .i64 0, .int .i64 0, .int .i64 0, .int .i64 0, .int .i64 0, .int .i64 0], .bool false]) (by simp [results, Tryd.results51, go_sem, k0, k1, k2, k3, k4, k5, k6, k7, k8, k9, k10, k11, k12]) rfl ?_
    exact ⟨by rw [HV.out]; rfl, by first | exact hq | (rw [← hg]; exact hq)⟩
  have hpd : decide (s.take 6 = magicL) = true := decide_eq_true hp
  rw [hpd, if_pos hp] at hcp
  have hl : (s.drop 6).length = 104 := by rw [List.length_drop, hs]
  have HO2 : Hid (headOk s = okT (s.drop 6) 13) := Lib.hid (by rw [HO.out, hpd]; rfl)
  clear hp hpd HO
  generalize s.drop 6 = t at hcp HO2 HN hl
  have hns : (bs t).size = 104 := by rw [bs_size]; exact hl
  go_upto_region 5 with (go_at_call 77; refine (hcp _).mono ?_; rintro e W2 ⟨rfl, rfl⟩; clear hcp)
  have bN := Blk.new W1 57 #[.int .i64 0, .int .i64 0, .int .i64 0, .int .i64 0, .int .i64 0, .int .i64 0, .int .i64 0, .int .i64 0, .int .i64 0, .int .i64 0, .int .i64 0, .int .i64 0, .int .i64 0]
  have hq := (Below.refl W1.heap.size W1).alloc (Nat.le_refl _) (.cells #[.int .i64 0, .int .i64 0, .int .i64 0, .int .i64 0, .int .i64 0, .int .i64 0, .int .i64 0, .int .i64 0, .int .i64 0, .int .i64 0, .int .i64 0, .int .i64 0, .int .i64 0] 57)
  have bG2 := bG.below hq bG.lt
  have hb2 := hb.trans (hq.mono hb.size)
  have hgN : W1.heap.size ≠ g := fun e => by have := bG.lt; omega
  have hNH : w.heap.size ≤ W1.heap.size := hb.size
  have bN : Blk (W1.alloc (.cells #[.int .i64 0, .int .i64 0, .int .i64 0, .int .i64 0, .int .i64 0, .int .i64 0, .int .i64 0, .int .i64 0, .int .i64 0, .int .i64 0, .int .i64 0, .int .i64 0, .int .i64 0] 57)) W1.heap.size 57 (rowT t 0) := bN
  clear bG hb hq z0 z1 z2 z3 z4 z5 z6 z7 z8 z9 z10 z11 z12 f0 f1 f2 f3 f4 f5 f6 f7 f8 f9 f10 f11 f12
  generalize W1.alloc (.cells #[.int .i64 0, .int .i64 0, .int .i64 0, .int .i64 0, .int .i64 0, .int .i64 0, .int .i64 0, .int .i64 0, .int .i64 0, .int .i64 0, .int .i64 0, .int .i64 0, .int .i64 0] 57) = W2 at bN bG2 hb2 ⊢
  generalize W1.heap.size = g2 at bN hgN hNH ⊢
  go_wp2_with fail
  go_loopg [17] 13 (fun G s17 wr => ∃ k : Nat, k ≤ 13 ∧ G = 13 - k ∧ s17 = .int .i64 k ∧ Blk wr g2 57 (rowT t k) ∧ Blk wr g 57 #[.int .i64 0, .int .i64 0, .int .i64 0, .int .i64 0, .int .i64 0, .int .i64 0, .int .i64 0, .int .i64 0, .int .i64 0, .int .i64 0, .int .i64 0, .int .i64 0, .int .i64 0] ∧ Below w.heap.size w wr ∧ Hid (okT t k = true))
  case atStart => exact ⟨0, Nat.zero_le _, rfl, rfl, bN, bG2, hb2, Lib.hid rfl⟩
  case round =>
    clear bN bG2 hb2
    obtain ⟨k, hk, rfl, rfl, bN, bG, hb, HK⟩ := hrel
    by_cases hlt : k < 13
    · obtain ⟨y, Hy⟩ : ∃ y, Hid (grpT t k = y) := ⟨_, Lib.hid rfl⟩
      have hu := unhex8_any (bs y) wr
      rw [bs_list] at hu
      obtain ⟨k8, HK8⟩ : ∃ x, Hid (x = 8 * k) := ⟨_, Lib.hid rfl⟩
      obtain ⟨k1, HK1⟩ : ∃ x, Hid (x = k + 1) := ⟨_, Lib.hid rfl⟩
      obtain ⟨k9, HK9⟩ : ∃ x, Hid (x = 8 * (k + 1)) := ⟨_, Lib.hid rfl⟩
      have w8 : IntKind.i64.wrap (8 * (k : Int)) = (k8 : Int) := by rw [i64_in _ (by omega) (by omega), HK8.out]; omega
      have w1 : IntKind.i64.wrap ((k : Int) + 1) = (k1 : Int) := by rw [i64_in _ (by omega) (by omega), HK1.out]; omega
      have w9 : IntKind.i64.wrap (8 * (k1 : Int)) = (k9 : Int) := by rw [HK1.out, i64_in _ (by omega) (by omega), HK9.out]; omega
      have j1 : (k8 : Int) ≤ (k9 : Int) := by have := HK8.out; have := HK9.out; omega
      have j2 : (k9 : Int) ≤ 104 := by have := HK9.out; omega
      have j3 : (0 : Int) ≤ (k8 : Int) := by omega
      have j4 : (0 : Int) ≤ (k : Int) := by omega
      have j5 : (k : Int) < 13 := by omega
      have hext : (bs t).extract k8 k9 = bs y := bs_of _ _ (by
        rw [← Hy.out, HK8.out, HK9.out]
        have e : 8 * (k + 1) - 8 * k = 8 := by omega
        simp [ByteArray.data_extract, bs_list, bs, grpT, e])
      by_cases hz : un8Code y = 0
      · have hr := un8_le y hz
        obtain ⟨x, HX⟩ : ∃ x, Hid (un8N y = x) := ⟨_, Lib.hid rfl⟩
        have HU : Hid (x = ((un8N (grpT t k)).toNat : Int)) := Lib.hid (by rw [Hy.out, HX.out]; have := HX.out; omega)
        have HK2 : Hid (okT t (k + 1) = true) := Lib.hid (by rw [okT_step, HK.out, Hy.out, hz]; rfl)
        rw [HX.out, hz] at hu
        obtain ⟨cu, hcu⟩ := rowT_cell t k hlt
        have hc := bN.cell k
        rw [hcu] at hc
        have hf := bN.frozen k
        have bN2 := bN.set (u := .int .i64 x) k
        rw [rowT_set t k hlt x HU.out] at bN2
        have bG2 := bG.other (a := ⟨g2, k, none⟩) (.int .i64 x) (fun e => hgN e.symm)
        have hb2 := hb.setCell (p := ⟨g2, k, none⟩) hNH (.int .i64 x)
        clear hz hr HU HX HK hcu bN bG hb Hy
        go_wp2_with (go_at_call 78; refine hu.mono ?_; rintro e W5 ⟨rfl, rfl⟩; clear hu)
        go_roundg (13 - (k + 1))
        case measure => omega
        case rel => exact ⟨k + 1, by omega, rfl, by have := HK1.out; first | (simp; done) | (simp; omega) | (subst this; rfl), bN2, bG2, hb2, HK2⟩
      · have hzb : (un8Code y != 0) = true := by simpa using hz
        have HV : Hid (headOk s = false) := Lib.hid (by rw [HO2.out]; exact okT_not t k hlt (by rw [Hy.out]; exact hz))
        obtain ⟨z0, z1, z2, z3, z4, z5, z6, z7, z8, z9, z10, z11, z12⟩ := bG.cells13
        have f0 := bG.frozen 0
        have f1 := bG.frozen 1
        have f2 := bG.frozen 2
        have f3 := bG.frozen 3
        have f4 := bG.frozen 4
        have f5 := bG.frozen 5
        have f6 := bG.frozen 6
        have f7 := bG.frozen 7
        have f8 := bG.frozen 8
        have f9 := bG.frozen 9
        have f10 := bG.frozen 10
        have f11 := bG.frozen 11
        have f12 := bG.frozen 12
        clear hz Hy bN
        generalize un8Code y = cc at hu hzb
        generalize un8N y = cn at hu
        go_wp2_with (go_at_call 78; refine hu.mono ?_; rintro e W5 ⟨rfl, rfl⟩; clear hu)
        have K := blk_set13 bG (.int .i64 0) (.int .i64 0) (.int .i64 0) (.int .i64 0) (.int .i64 0) (.int .i64 0) (.int .i64 0) (.int .i64 0) (.int .i64 0) (.int .i64 0) (.int .i64 0) (.int .i64 0) (.int .i64 0)
        have hq := below_set13 hb hgH (.int .i64 0) (.int .i64 0) (.int .i64 0) (.int .i64 0) (.int .i64 0) (.int .i64 0) (.int .i64 0) (.int .i64 0) (.int .i64 0) (.int .i64 0) (.int .i64 0) (.int .i64 0) (.int .i64 0)
        clear z0 z1 z2 z3 z4 z5 z6 z7 z8 z9 z10 z11 z12 f0 f1 f2 f3 f4 f5 f6 f7 f8 f9 f10 f11 f12
        generalize ((((((((((((wr.setCell ⟨g, 0, none⟩ (.int .i64 0)).setCell ⟨g, 1, none⟩ (.int .i64 0)).setCell ⟨g, 2, none⟩ (.int .i64 0)).setCell ⟨g, 3, none⟩ (.int .i64 0)).setCell ⟨g, 4, none⟩ (.int .i64 0)).setCell ⟨g, 5, none⟩ (.int .i64 0)).setCell ⟨g, 6, none⟩ (.int .i64 0)).setCell ⟨g, 7, none⟩ (.int .i64 0)).setCell ⟨g, 8, none⟩ (.int .i64 0)).setCell ⟨g, 9, none⟩ (.int .i64 0)).setCell ⟨g, 10, none⟩ (.int .i64 0)).setCell ⟨g, 11, none⟩ (.int .i64 0)).setCell ⟨g, 12, none⟩ (.int .i64 0) = Wf at K hq ⊢
        obtain ⟨k0, k1, k2, k3, k4, k5, k6, k7, k8, k9, k10, k11, k12⟩ := K.cells13
        refine bodyPost_ret (v := .tuple #[.agg #[.int .i64 0, .int .i64 0, .int .i64 0, .int .i64 0, .int .i64 0, .int .i64 0, .int .i64 0, .int .i64 0, .int .i64 0, .int .i64 0, .int .i64 0, .int .i64 0, .int .i64 0], .bool false]) (by simp [results, Tryd.results51, go_sem, k0, k1, k2, k3, k4, k5, k6, k7, k8, k9, k10, k11, k12]) rfl ?_
        exact ⟨by rw [HV.out]; rfl, by first | exact hq | (rw [← hg]; exact hq)⟩
    · have hke : k = 13 := by omega
      subst hke
      have HV : Hid (headOk s = true) := Lib.hid (by rw [HO2.out]; exact HK.out)
      have hrow : rowT t 13 = ((numT t).map vI8).toArray := by
        have e : (numT t).take 13 = numT t := List.take_of_length_le (by rw [numT_len]; exact Nat.le_refl _)
        rw [rowT, e]; simp
      rw [hrow] at bN
      obtain ⟨x0, x1, x2, x3, x4, x5, x6, x7, x8, x9, x10, x11, x12, hx⟩ := list13 (numT t) (numT_len t)
      rw [hx] at bN HN
      have bN : Blk wr g2 57 #[.int .i64 x0, .int .i64 x1, .int .i64 x2, .int .i64 x3, .int .i64 x4, .int .i64 x5, .int .i64 x6, .int .i64 x7, .int .i64 x8, .int .i64 x9, .int .i64 x10, .int .i64 x11, .int .i64 x12] := bN
      obtain ⟨e0, e1, e2, e3, e4, e5, e6, e7, e8, e9, e10, e11, e12⟩ := bN.cells13
      obtain ⟨z0, z1, z2, z3, z4, z5, z6, z7, z8, z9, z10, z11, z12⟩ := bG.cells13
      have f0 := bG.frozen 0
      have f1 := bG.frozen 1
      have f2 := bG.frozen 2
      have f3 := bG.frozen 3
      have f4 := bG.frozen 4
      have f5 := bG.frozen 5
      have f6 := bG.frozen 6
      have f7 := bG.frozen 7
      have f8 := bG.frozen 8
      have f9 := bG.frozen 9
      have f10 := bG.frozen 10
      have f11 := bG.frozen 11
      have f12 := bG.frozen 12
      clear hrow hx HO2 HK
      go_wp2_with fail
      have K := blk_set13 bG (.int .i64 x0) (.int .i64 x1) (.int .i64 x2) (.int .i64 x3) (.int .i64 x4) (.int .i64 x5) (.int .i64 x6) (.int .i64 x7) (.int .i64 x8) (.int .i64 x9) (.int .i64 x10) (.int .i64 x11) (.int .i64 x12)
      have hq := below_set13 hb hgH (.int .i64 x0) (.int .i64 x1) (.int .i64 x2) (.int .i64 x3) (.int .i64 x4) (.int .i64 x5) (.int .i64 x6) (.int .i64 x7) (.int .i64 x8) (.int .i64 x9) (.int .i64 x10) (.int .i64 x11) (.int .i64 x12)
      clear z0 z1 z2 z3 z4 z5 z6 z7 z8 z9 z10 z11 z12 f0 f1 f2 f3 f4 f5 f6 f7 f8 f9 f10 f11 f12
      generalize ((((((((((((wr.setCell ⟨g, 0, none⟩ (.int .i64 x0)).setCell ⟨g, 1, none⟩ (.int .i64 x1)).setCell ⟨g, 2, none⟩ (.int .i64 x2)).setCell ⟨g, 3, none⟩ (.int .i64 x3)).setCell ⟨g, 4, none⟩ (.int .i64 x4)).setCell ⟨g, 5, none⟩ (.int .i64 x5)).setCell ⟨g, 6, none⟩ (.int .i64 x6)).setCell ⟨g, 7, none⟩ (.int .i64 x7)).setCell ⟨g, 8, none⟩ (.int .i64 x8)).setCell ⟨g, 9, none⟩ (.int .i64 x9)).setCell ⟨g, 10, none⟩ (.int .i64 x10)).setCell ⟨g, 11, none⟩ (.int .i64 x11)).setCell ⟨g, 12, none⟩ (.int .i64 x12) = Wf at K hq ⊢
      obtain ⟨k0, k1, k2, k3, k4, k5, k6, k7, k8, k9, k10, k11, k12⟩ := K.cells13
      refine bodyPost_ret (v := .tuple #[.agg #[.int .i64 x0, .int .i64 x1, .int .i64 x2, .int .i64 x3, .int .i64 x4, .int .i64 x5, .int .i64 x6, .int .i64 x7, .int .i64 x8, .int .i64 x9, .int .i64 x10, .int .i64 x11, .int .i64 x12], .bool true]) (by simp [results, Tryd.results51, go_sem, k0, k1, k2, k3, k4, k5, k6, k7, k8, k9, k10, k11, k12]) rfl ?_
      exact ⟨by rw [HV.out, if_pos rfl, HN.out]; rfl, by first | exact hq | (rw [← hg]; exact hq)⟩
end Go.Proofs.YtolknddegfcmpaaDoor

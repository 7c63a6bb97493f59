/- The walk of the document's Member (cpio). Printed by gen_cqd.py. -/
import Derived.Test.YtolknddegfcmpaaDoorCpQ
import Derived.Test.YtolknddegfcmpaaDoorCqA
namespace Go.Proofs.YtolknddegfcmpaaDoor
open Go.RowKit
def tG : TypeId := 69
section
variable {w W : World} {gG : Nat} {H : Nat}
theorem got_set {y0 y1 y2 y3 y4 y5 : Value} (h : Blk W gG 69 #[y0, y1, y2, y3, y4, y5]) (v0 v1 v2 v3 v4 v5 : Value) :
    Blk ((((((W.setCell ⟨gG, 0, none⟩ v0).setCell ⟨gG, 1, none⟩ v1).setCell ⟨gG, 2, none⟩ v2).setCell ⟨gG, 3, none⟩ v3).setCell ⟨gG, 4, none⟩ v4).setCell ⟨gG, 5, none⟩ v5) gG 69 #[v0, v1, v2, v3, v4, v5] := by
  have := ((((((h.set (u := v0) 0).set (u := v1) 1).set (u := v2) 2).set (u := v3) 3).set (u := v4) 4).set (u := v5) 5)
  simpa using this
theorem got_bel (h : Below H w W) (hg : H ≤ gG) (v0 v1 v2 v3 v4 v5 : Value) :
    Below H w ((((((W.setCell ⟨gG, 0, none⟩ v0).setCell ⟨gG, 1, none⟩ v1).setCell ⟨gG, 2, none⟩ v2).setCell ⟨gG, 3, none⟩ v3).setCell ⟨gG, 4, none⟩ v4).setCell ⟨gG, 5, none⟩ v5) :=
  (((((h.setCell (p := ⟨gG, 0, none⟩) hg v0).setCell (p := ⟨gG, 1, none⟩) hg v1).setCell (p := ⟨gG, 2, none⟩) hg v2).setCell (p := ⟨gG, 3, none⟩) hg v3).setCell (p := ⟨gG, 4, none⟩) hg v4).setCell (p := ⟨gG, 5, none⟩) hg v5
theorem got_keep {v : Value} {l : List Nat} {y0 y1 y2 y3 y4 y5 : Value} (ho : W.ownsRow H 3 1 v l.length (l.map vI8)) (h : Blk W gG 69 #[y0, y1, y2, y3, y4, y5]) (v0 v1 v2 v3 v4 v5 : Value) :
    ((((((W.setCell ⟨gG, 0, none⟩ v0).setCell ⟨gG, 1, none⟩ v1).setCell ⟨gG, 2, none⟩ v2).setCell ⟨gG, 3, none⟩ v3).setCell ⟨gG, 4, none⟩ v4).setCell ⟨gG, 5, none⟩ v5).ownsRow H 3 1 v l.length (l.map vI8) := by
  have hn : v.ownBlock ≠ some gG := own_notblk ho h (by decide)
  exact own_other (own_other (own_other (own_other (own_other (own_other ho v0 hn) v1 hn) v2 hn) v3 hn) v4 hn) v5 hn
end
/-- append of a number to a row of one's own. -/
theorem wpList_num {w : World} {B : Nat} {pv : Value} {l : List Nat} {ops : Array Oper} {rest : List Oper} {o : Oper} {a : Act} {Q : Exit → Act → World → Prop} (hgd : o.guard = none) (s x : Operand)
    (ho : o.op = .call { callee := .builtin .append, args := #[s, x], argTypes := #[63, 63] }) (hs : a.eval s = pv) (hown : w.ownsRow B 3 1 pv l.length (l.map vI8)) (p g c : Nat) (hx : a.eval x = .slice (some ⟨g, 0, none⟩) 1 c) (hblk : Blk w g 3 #[.int .i64 (p : Int)]) (hn : l.length ≤ 10000000) (hB : B ≤ w.heap.size)
    (h : ∀ v' w', w'.ownsRow B 3 1 v' (l ++ [p]).length ((l ++ [p]).map vI8) → Kept (fun k => pv.ownBlock = some k) w w' → (v'.ownBlock = pv.ownBlock ∨ ∀ k, v'.ownBlock = some k → w.heap.size ≤ k) → wpList Tryd.prog ops Q rest (a.put o.dst v') w') : wpList Tryd.prog ops Q (o :: rest) a w := by
  obtain ⟨i0, hi, hz0, hz1, hz2⟩ := info_parts info_int
  have ht : Tryd.prog.underlying 63 = some (.slice 3) := Tryd.underlying63
  refine wpList_plain hgd fun K hK => ?_
  have hnews : ∀ j u, ([.int .i64 (p : Int)] : List Value)[j]? = some u → w.cell? ((⟨g, 0, none⟩ : Addr).add j) = some u := fun j u hu => by
    rw [Addr.add_lit, Nat.zero_add, hblk.cell]
    simpa using hu
  obtain ⟨v', w', hr, h2, h3, _⟩ := run_append_own (P := Tryd.prog) w B 63 o.type 3 i0 _ 1 8 ht hi hz0 hz1 hz2 rfl (by decide) pv l.length (l.map vI8) hown ⟨g, 0, none⟩ 1 c [.int .i64 (p : Int)] rfl hnews (by simp; rfl) (by unfold maxLen; omega) (by omega) hB
  have hob := append_block ht hi hz0 hz1 hz2 rfl (by decide) hown ⟨g, 0, none⟩ 1 c [.int .i64 (p : Int)] rfl hnews (by simp; rfl) (by unfold maxLen; omega) (by omega) hr
  unfold Oper.wp execOp
  simp only [ho, resolve, invoke, builtin, Sem.run_bind, Sem.run_pure, Result.andThen_ok, List.map_toArray, List.map_cons, List.map_nil, hs, hx, hr]
  refine hK _ _ (h v' w' ?_ (Kept.grown h3) hob)
  rw [List.length_append, List.length_singleton, List.map_append]
  exact h2
/-- What the document's Member answers. -/
def MemR (w : World) (M : Mem) (r : Ending) (w' : World) : Prop :=
  Below w.heap.size w w' ∧ match M with
    | .err c => r = .returned (.agg #[.slice none 0 0, .string ⟨#[]⟩, .string ⟨#[]⟩, .int .i64 0, .bool false, .int .i64 c])
    | .fin => r = .returned (.agg #[.slice none 0 0, .string ⟨#[]⟩, .string ⟨#[]⟩, .int .i64 0, .bool true, .int .i64 0])
    | .mem ns nm d nx => ∃ nv, r = .returned (.agg #[nv, .string (bs nm), .string (bs d), .int .i64 (nx : Int), .bool false, .int .i64 0]) ∧ w'.ownsRow w.heap.size 3 1 nv ns.length (ns.map vI8)
theorem grp_sub (b : List UInt8) (p i : Nat) (hi : i < 13) : grpT ((subB b p 110).drop 6) i = subB b (p + 6 + 8 * i) 8 := by
  rw [grpT, subB, subB, List.drop_drop, List.drop_take, List.take_take, List.drop_drop, Nat.min_eq_left (by omega), show p + (6 + 8 * i) = p + 6 + 8 * i by omega]
theorem ext_sub (b : List UInt8) (lo hi n : Nat) (h : hi = lo + n) : (bs b).extract lo hi = bs (subB b lo n) := bs_of _ _ (by
  rw [h]
  simp [ByteArray.data_extract, bs_list, bs, subB])
theorem take6 (b : List UInt8) (p : Nat) : (subB b p 110).take 6 = subB b p 6 := by rw [subB, subB, List.take_take]; rfl
theorem idx_neg (c : UInt8) : ∀ l : List UInt8, decide (Lib.indexByte l c < 0) = !l.contains c
  | [] => rfl
  | x :: l => by
    have ih := idx_neg c l
    have hr : -1 ≤ Lib.indexByte l c := by
      clear ih
      induction l with
      | nil => simp [Lib.indexByte]
      | cons y l ih => rw [Lib.indexByte]; split <;> (try split) <;> omega
    rw [Lib.indexByte, List.contains_cons]
    by_cases hx : x = c
    · subst hx; simp
    · have e1 : (x == c) = false := by simpa using hx
      have e2 : (c == x) = false := by simpa using fun h => hx h.symm
      rw [e1, e2, Bool.false_or, ← ih]
      by_cases hm : Lib.indexByte l c = -1
      · rw [hm]; rfl
      · have e3 : (Lib.indexByte l c == -1) = false := by simpa using hm
        simp only [e3, Bool.false_eq_true, if_false]
        rw [decide_eq_false (by omega), decide_eq_false (by omega)]
theorem nm_is (b : List UInt8) (p z : Nat) (hz : 1 ≤ z) (h : p + z ≤ b.length) : nmOk (subB b p z) = (decide (b[p + z - 1]'(by omega) = 0) && !(subB b p (z - 1)).contains 0) := by
  have e1 : subB b p z = subB b p (z - 1) ++ [b[p + z - 1]'(by omega)] := by
    rw [subB, subB]
    conv => lhs; rw [show z = (z - 1) + 1 by omega]
    rw [List.take_succ_eq_append_getElem (by rw [List.length_drop]; omega), List.getElem_drop]
    congr 3
    omega
  have e2 : (subB b p z).take ((subB b p z).length - 1) = subB b p (z - 1) := by
    rw [e1, List.length_append, List.length_singleton, Nat.add_sub_cancel, List.take_left]
  rw [nmOk, e2, idx_neg, e1]
  congr 1
  have : Lib.hasSuffix (subB b p (z - 1) ++ [b[p + z - 1]'(by omega)]) [0] = (0 == b[p + z - 1]'(by omega)) := by simp [Lib.hasSuffix, List.isSuffixOf, List.isPrefixOf]
  rw [this, Bool.eq_iff_iff]
  simp only [beq_iff_eq, decide_eq_true_iff]
  exact ⟨fun h => h.symm, fun h => h.symm⟩
set_option maxRecDepth 20000 in
set_option maxHeartbeats 16000000 in
theorem rmem_any (b : List UInt8) (p : Nat) (w : World) (hb : b.length ≤ 400000) (hp : p ≤ b.length) :
    Calls Tryd.prog 30 #[.string (bs b), .int .i64 (p : Int)] w (MemR w (memS b p)) := by
  have HM : Hid (memS b p = if b.length < p + 110 then .err 2 else if headOk (subB b p 110) = false then .err 3 else memB1 b (headN (subB b p 110)) ((headN (subB b p 110)).getD 6 0) ((headN (subB b p 110)).getD 11 0) (p + 110)) := Lib.hid rfl
  obtain ⟨M, HMM⟩ : ∃ M, Hid (memS b p = M) := ⟨_, Lib.hid rfl⟩
  rw [HMM.out] at HM ⊢
  obtain ⟨nb, HNB⟩ : ∃ n, Hid (b.length = n) := ⟨_, Lib.hid rfl⟩
  have hns : (bs b).size = nb := by rw [bs_size]; exact HNB.out
  rw [HNB.out] at hb hp HM
  have HEX := Lib.hid (fun lo hi n (h : hi = lo + n) => ext_sub b lo hi n h)
  have w1 : IntKind.i64.wrap ((nb : Int) - (p : Int)) = (nb : Int) - (p : Int) := i64_in _ (by omega) (by omega)
  go_enter Tryd.func30, Tryd.ntmps30
  go_upto_region 1 with fail
  have bG := Blk.new w 69 #[.slice none 0 0, .string ⟨#[]⟩, .string ⟨#[]⟩, .int .i64 0, .bool false, .int .i64 0]
  have hb1 := (Below.refl w.heap.size w).alloc (Nat.le_refl _) (.cells #[.slice none 0 0, .string ⟨#[]⟩, .string ⟨#[]⟩, .int .i64 0, .bool false, .int .i64 0] 69)
  generalize w.alloc (.cells #[.slice none 0 0, .string ⟨#[]⟩, .string ⟨#[]⟩, .int .i64 0, .bool false, .int .i64 0] 69) = W1 at bG hb1 ⊢
  have hgH : w.heap.size ≤ w.heap.size := Nat.le_refl _
  generalize hg : w.heap.size = gG at bG hgH ⊢
  have hgH : w.heap.size ≤ gG := by rw [hg]; exact Nat.le_refl _
  have z0 := bG.cell 0
  have z1 := bG.cell 1
  have z2 := bG.cell 2
  have z3 := bG.cell 3
  have z4 := bG.cell 4
  have z5 := bG.cell 5
  simp at z0 z1 z2 z3 z4 z5
  have f0 := bG.frozen 0
  have f1 := bG.frozen 1
  have f2 := bG.frozen 2
  have f3 := bG.frozen 3
  have f4 := bG.frozen 4
  have f5 := bG.frozen 5
  by_cases h1 : nb < p + 110
  · have t1 : decide ((nb : Int) - (p : Int) < 110) = true := decide_eq_true (by omega)
    have HV := Lib.hid (HM.out.trans (if_pos h1))
    clear h1 HM HEX
    go_wp2_with fail
    have K := got_set bG (.slice none 0 0) (.string ⟨#[]⟩) (.string ⟨#[]⟩) (.int .i64 0) (.bool false) (.int .i64 2)
    have hq := got_bel hb1 hgH (.slice none 0 0) (.string ⟨#[]⟩) (.string ⟨#[]⟩) (.int .i64 0) (.bool false) (.int .i64 2)
    clear z0 z1 z2 z3 z4 z5 f0 f1 f2 f3 f4 f5 bG
    generalize (((((W1.setCell ⟨gG, 0, none⟩ (.slice none 0 0)).setCell ⟨gG, 1, none⟩ (.string ⟨#[]⟩)).setCell ⟨gG, 2, none⟩ (.string ⟨#[]⟩)).setCell ⟨gG, 3, none⟩ (.int .i64 0)).setCell ⟨gG, 4, none⟩ (.bool false)).setCell ⟨gG, 5, none⟩ (.int .i64 2) = WX at K hq ⊢
    have k0 := K.cell 0
    have k1 := K.cell 1
    have k2 := K.cell 2
    have k3 := K.cell 3
    have k4 := K.cell 4
    have k5 := K.cell 5
    simp at k0 k1 k2 k3 k4 k5
    refine bodyPost_ret (v := .agg #[.slice none 0 0, .string ⟨#[]⟩, .string ⟨#[]⟩, .int .i64 0, .bool false, .int .i64 2]) ?_ ?_ ?_
    · simp [results, Tryd.results30, go_sem, k0, k1, k2, k3, k4, k5]
    · rfl
    exact ⟨hq, by first | (rw [HV.out]; done) | (rw [HV.out]; rfl)⟩
  have t1 : decide ((nb : Int) - (p : Int) < 110) = false := decide_eq_false (by omega)
  have HM := Lib.hid (HM.out.trans (if_neg h1))
  have hpl : p + 110 ≤ nb := by omega
  clear h1
  obtain ⟨p6, HP6⟩ : ∃ x, Hid (x = p + 6) := ⟨_, Lib.hid rfl⟩
  have w2 : IntKind.i64.wrap ((p : Int) + 6) = (p6 : Int) := by rw [i64_in _ (by omega) (by omega), HP6.out]; omega
  have j1 : (p : Int) ≤ (p6 : Int) := by rw [HP6.out]; omega
  have j2 : (p6 : Int) ≤ (nb : Int) := by rw [HP6.out]; omega
  have j3 : (0 : Int) ≤ (p : Int) := by omega
  have hext : (bs b).extract p p6 = bs (subB b p 6) := HEX.out p p6 6 HP6.out
  have HO : Hid (headOk (subB b p 110) = (decide (subB b p 6 = magicL) && okT ((subB b p 110).drop 6) 13)) := Lib.hid (by rw [headOk, take6])
  have HHN : Hid (headN (subB b p 110) = numT ((subB b p 110).drop 6)) := Lib.hid rfl
  have HGS := Lib.hid (fun i (hi : i < 13) => grp_sub b p i hi)
  obtain ⟨y6, HY6⟩ : ∃ y, Hid (subB b p 6 = y) := ⟨_, Lib.hid rfl⟩
  rw [HY6.out] at hext HO
  have hmg : (bs y6).toList = y6 := toList_bs y6
  obtain ⟨tt, HTT⟩ : ∃ y, Hid ((subB b p 110).drop 6 = y) := ⟨_, Lib.hid rfl⟩
  rw [HTT.out] at HO HHN HGS
  by_cases hmm : y6 = magicL
  rotate_left
  · have t2 : ((bs y6).toList == [48, 55, 48, 55, 48, 49]) = false := by
      rw [hmg]
      have h2 : ¬ y6 = [48, 55, 48, 55, 48, 49] := hmm
      simpa using h2
    have t2b : (y6 == [48, 55, 48, 55, 48, 49]) = false := by
      have h2 : ¬ y6 = [48, 55, 48, 55, 48, 49] := hmm
      simpa using h2
    have HV := Lib.hid (HM.out.trans (if_pos (by rw [HO.out, decide_eq_false hmm]; rfl)))
    clear hmm HM HO HHN HGS HTT HEX
    go_wp2_with fail
    have K := got_set bG (.slice none 0 0) (.string ⟨#[]⟩) (.string ⟨#[]⟩) (.int .i64 0) (.bool false) (.int .i64 3)
    have hq := got_bel hb1 hgH (.slice none 0 0) (.string ⟨#[]⟩) (.string ⟨#[]⟩) (.int .i64 0) (.bool false) (.int .i64 3)
    clear z0 z1 z2 z3 z4 z5 f0 f1 f2 f3 f4 f5 bG
    generalize (((((W1.setCell ⟨gG, 0, none⟩ (.slice none 0 0)).setCell ⟨gG, 1, none⟩ (.string ⟨#[]⟩)).setCell ⟨gG, 2, none⟩ (.string ⟨#[]⟩)).setCell ⟨gG, 3, none⟩ (.int .i64 0)).setCell ⟨gG, 4, none⟩ (.bool false)).setCell ⟨gG, 5, none⟩ (.int .i64 3) = WX at K hq ⊢
    have k0 := K.cell 0
    have k1 := K.cell 1
    have k2 := K.cell 2
    have k3 := K.cell 3
    have k4 := K.cell 4
    have k5 := K.cell 5
    simp at k0 k1 k2 k3 k4 k5
    refine bodyPost_ret (v := .agg #[.slice none 0 0, .string ⟨#[]⟩, .string ⟨#[]⟩, .int .i64 0, .bool false, .int .i64 3]) ?_ ?_ ?_
    · simp [results, Tryd.results30, go_sem, k0, k1, k2, k3, k4, k5]
    · rfl
    exact ⟨hq, by first | (rw [HV.out]; done) | (rw [HV.out]; rfl)⟩
  have t2 : ((bs y6).toList == [48, 55, 48, 55, 48, 49]) = true := by
    rw [hmg, hmm]; decide
  have t2b : (y6 == [48, 55, 48, 55, 48, 49]) = true := by rw [hmm]; decide
  have HO := Lib.hid (HO.out.trans (by rw [decide_eq_true hmm, Bool.true_and]))
  clear hmm
  obtain ⟨p14, HP14⟩ : ∃ x, Hid (x = p + 14) := ⟨_, Lib.hid rfl⟩
  have w3 : IntKind.i64.wrap ((p : Int) + 14) = (p14 : Int) := by rw [i64_in _ (by omega) (by omega), HP14.out]; omega
  go_upto_region 7 with fail
  clear t2 t2b hext hmg z0 z1 z2 z3 z4 z5 f0 f1 f2 f3 f4 f5 w1 t1
  have hnil : W1.ownsRow w.heap.size 3 1 (.slice none 0 0) ([] : List Nat).length (([] : List Nat).map vI8) := World.ownsRow_nil _ _ _ _
  go_loopg [5, 6] 13 (fun G s5 s6 wr => ∃ k : Nat, k ≤ 13 ∧ G = 13 - k ∧ s6 = .int .i64 k ∧ ∃ nt : List Nat, Hid ((numT tt).take k = nt) ∧ wr.ownsRow w.heap.size 3 1 s5 nt.length (nt.map vI8) ∧ Blk wr gG 69 #[.slice none 0 0, .string ⟨#[]⟩, .string ⟨#[]⟩, .int .i64 0, .bool false, .int .i64 0] ∧ Below w.heap.size w wr ∧ Hid (okT tt k = true))
  case atStart => exact ⟨0, Nat.zero_le _, rfl, rfl, [], Lib.hid rfl, hnil, bG, hb1, Lib.hid rfl⟩
  case round =>
    clear bG hb1 hnil
    obtain ⟨k, hk, rfl, rfl, nt, HNT, ho, bG, hb1, HK⟩ := hrel
    obtain ⟨An, cn, rfl⟩ := own_form ho
    have z0 := bG.cell 0
    have z1 := bG.cell 1
    have z2 := bG.cell 2
    have z3 := bG.cell 3
    have z4 := bG.cell 4
    have z5 := bG.cell 5
    simp at z0 z1 z2 z3 z4 z5
    have f0 := bG.frozen 0
    have f1 := bG.frozen 1
    have f2 := bG.frozen 2
    have f3 := bG.frozen 3
    have f4 := bG.frozen 4
    have f5 := bG.frozen 5
    have j0 : (0 : Int) ≤ (k : Int) := by omega
    by_cases hlt : k < 13
    · have tk : decide ((k : Int) < 13) = true := decide_eq_true (by omega)
      have tkb : decide (k < 13) = true := decide_eq_true hlt
      obtain ⟨y, Hy⟩ : ∃ y, Hid (grpT tt k = y) := ⟨_, Lib.hid rfl⟩
      have hu := runhex8_any (bs y) wr
      rw [bs_list] at hu
      obtain ⟨k8, HK8⟩ : ∃ x, Hid (x = 8 * k) := ⟨_, Lib.hid rfl⟩
      obtain ⟨k1, HK1⟩ : ∃ x, Hid (x = k + 1) := ⟨_, Lib.hid rfl⟩
      obtain ⟨q1, HQ1⟩ : ∃ x, Hid (x = p + 6 + 8 * k) := ⟨_, Lib.hid rfl⟩
      obtain ⟨q2, HQ2⟩ : ∃ x, Hid (x = p + 14 + 8 * k) := ⟨_, Lib.hid rfl⟩
      have w8 : IntKind.i64.wrap (8 * (k : Int)) = (k8 : Int) := by rw [i64_in _ (by omega) (by omega), HK8.out]; omega
      have wk1 : IntKind.i64.wrap ((k : Int) + 1) = (k1 : Int) := by rw [i64_in _ (by omega) (by omega), HK1.out]; omega
      have wq1 : IntKind.i64.wrap ((p6 : Int) + (k8 : Int)) = (q1 : Int) := by have := HK8.out; have := HP6.out; rw [i64_in _ (by omega) (by omega), HQ1.out]; omega
      have wq2 : IntKind.i64.wrap ((p14 : Int) + (k8 : Int)) = (q2 : Int) := by have := HK8.out; have := HP14.out; rw [i64_in _ (by omega) (by omega), HQ2.out]; omega
      have i1 : (q1 : Int) ≤ (q2 : Int) := by rw [HQ1.out, HQ2.out]; omega
      have i2 : (q2 : Int) ≤ (nb : Int) := by rw [HQ2.out]; omega
      have i3 : (0 : Int) ≤ (q1 : Int) := by omega
      have hext : (bs b).extract q1 q2 = bs y := by
        rw [← Hy.out, HGS.out k hlt, ← HQ1.out]
        exact HEX.out q1 q2 8 (by rw [HQ1.out, HQ2.out]; omega)
      by_cases hz : un8Code y = 0
      · have hr := un8_le y hz
        obtain ⟨x, HX⟩ : ∃ x : Nat, Hid (un8N y = (x : Int)) := ⟨(un8N y).toNat, Lib.hid (by omega)⟩
        have HK2 : Hid (okT tt (k + 1) = true) := Lib.hid (by rw [okT_step, HK.out, Hy.out, hz]; rfl)
        have HT : Hid ((numT tt).take (k + 1) = (numT tt).take k ++ [x]) := Lib.hid (by
          rw [List.take_succ_eq_append_getElem (by rw [numT_len]; exact hlt)]
          congr 2
          have : (numT tt)[k]'(by rw [numT_len]; exact hlt) = (un8N (grpT tt k)).toNat := by simp [numT]
          rw [this, Hy.out]; have := HX.out; omega)
        have HL : nt.length ≤ 13 := by rw [← HNT.out, List.length_take]; omega
        rw [HNT.out] at HT
        rw [HX.out, hz] at hu
        clear hz hr HNT
        go_upto_region 10 with (go_at_call 56; refine hu.mono ?_; rintro e W5 ⟨rfl, hb5⟩; clear hu)
        have hbX := hb5.alloc hb5.size (.cells #[.slice none 0 0, .int .i64 x, .int .i64 0] 103)
        have bX := Blk.new W5 103 #[.slice none 0 0, .int .i64 x, .int .i64 0]
        have ho6 := own_below ho hbX
        have bG6 := bG.below hbX bG.lt
        have hb6 := hb1.trans (hbX.mono hb1.size)
        clear ho bG hb1 hb5 hbX z0 z1 z2 z3 z4 z5 f0 f1 f2 f3 f4 f5
        generalize W5.alloc (.cells #[.slice none 0 0, .int .i64 x, .int .i64 0] 103) = W6 at bX ho6 bG6 hb6 ⊢
        generalize W5.heap.size = gX at bX ⊢
        have x1 := bX.cell 1
        have x2 := bX.cell 2
        simp at x1 x2
        have hbA : Below W6.heap.size W6 (W6.alloc (.cells #[.int .i64 x] 3)) := (Below.refl _ W6).alloc (Nat.le_refl _) _
        have ho7 := own_below ho6 hbA
        have bP := Blk.new W6 3 #[.int .i64 x]
        have bG7 := bG6.below hbA bG6.lt
        have hb7 := hb6.trans (hbA.mono hb6.size)
        clear hbA
        go_wp2_with (at_builtin; refine wpList_num rfl _ _ rfl rfl ho7 x _ 1 rfl bP (by omega) hb7.size ?_; intro v' W8 ho8 hk8 hob8; have bG8 := hk8.blk bG7 (own_notblk ho7 bG7 (by decide)); have hb8 := hb7.trans (hk8.below hb7.size fun k _ h => (ho7.lt k h).1); clear ho6 ho7 bP bG6 bG7 hb6 hb7 x1 x2 bX)
        go_roundg (13 - (k + 1))
        case measure => omega
        case rel => exact ⟨k + 1, by omega, rfl, by have := HK1.out; first | (simp; done) | (simp; omega) | (subst this; rfl), nt ++ [x], HT, ho8, bG8, hb8, HK2⟩
      · have hzb : (un8Code y != 0) = true := by simpa using hz
        have HV := Lib.hid (HM.out.trans (if_pos (by rw [HO.out]; exact okT_not tt k hlt (by rw [Hy.out]; exact hz))))
        clear hz Hy HM HO HHN HGS HEX HK
        generalize un8Code y = cc at hu hzb
        generalize un8N y = cn2 at hu
        go_upto_region 10 with (go_at_call 56; refine hu.mono ?_; rintro e W5 ⟨rfl, hb5⟩; clear hu)
        have hbX := hb5.alloc hb5.size (.cells #[.slice none 0 0, .int .i64 cn2, .int .i64 cc] 103)
        have bX := Blk.new W5 103 #[.slice none 0 0, .int .i64 cn2, .int .i64 cc]
        have bG6 := bG.below hbX bG.lt
        have hb6 := hb1.trans (hbX.mono hb1.size)
        clear ho bG hb1 hb5 hbX z0 z1 z2 z3 z4 z5 f0 f1 f2 f3 f4 f5
        generalize W5.alloc (.cells #[.slice none 0 0, .int .i64 cn2, .int .i64 cc] 103) = W6 at bX bG6 hb6 ⊢
        generalize W5.heap.size = gX at bX ⊢
        have x1 := bX.cell 1
        have x2 := bX.cell 2
        simp at x1 x2
        have z0 := bG6.cell 0
        have z1 := bG6.cell 1
        have z2 := bG6.cell 2
        have z3 := bG6.cell 3
        have z4 := bG6.cell 4
        have z5 := bG6.cell 5
        simp at z0 z1 z2 z3 z4 z5
        have f0 := bG6.frozen 0
        have f1 := bG6.frozen 1
        have f2 := bG6.frozen 2
        have f3 := bG6.frozen 3
        have f4 := bG6.frozen 4
        have f5 := bG6.frozen 5
        go_wp2_with fail
        have K := got_set bG6 (.slice none 0 0) (.string ⟨#[]⟩) (.string ⟨#[]⟩) (.int .i64 0) (.bool false) (.int .i64 3)
        have hq := got_bel hb6 hgH (.slice none 0 0) (.string ⟨#[]⟩) (.string ⟨#[]⟩) (.int .i64 0) (.bool false) (.int .i64 3)
        clear z0 z1 z2 z3 z4 z5 f0 f1 f2 f3 f4 f5 bG6
        generalize (((((W6.setCell ⟨gG, 0, none⟩ (.slice none 0 0)).setCell ⟨gG, 1, none⟩ (.string ⟨#[]⟩)).setCell ⟨gG, 2, none⟩ (.string ⟨#[]⟩)).setCell ⟨gG, 3, none⟩ (.int .i64 0)).setCell ⟨gG, 4, none⟩ (.bool false)).setCell ⟨gG, 5, none⟩ (.int .i64 3) = WX at K hq ⊢
        have k0 := K.cell 0
        have k1 := K.cell 1
        have k2 := K.cell 2
        have k3 := K.cell 3
        have k4 := K.cell 4
        have k5 := K.cell 5
        simp at k0 k1 k2 k3 k4 k5
        refine bodyPost_ret (v := .agg #[.slice none 0 0, .string ⟨#[]⟩, .string ⟨#[]⟩, .int .i64 0, .bool false, .int .i64 3]) ?_ ?_ ?_
        · simp [results, Tryd.results30, go_sem, k0, k1, k2, k3, k4, k5]
        · rfl
        exact ⟨hq, by first | (rw [HV.out]; done) | (rw [HV.out]; rfl)⟩
    · have hke : k = 13 := by omega
      subst hke
      have tk : decide (((13 : Nat) : Int) < 13) = false := by decide
      have HM := Lib.hid (HM.out.trans (if_neg (by rw [HO.out, HK.out]; simp)))
      have hfull : (numT tt).take 13 = numT tt := List.take_of_length_le (by rw [numT_len]; exact Nat.le_refl _)
      rw [HHN.out] at HM
      have hle := numT_le tt HK.out
      have hl13 := numT_len tt
      have hnt := HNT.out
      rw [hfull] at hnt
      rw [hnt] at HM hle hl13
      clear hnt HNT hfull
      obtain ⟨gn, hAn⟩ : ∃ gn, An = some ⟨gn, 0, none⟩ := by
        rcases ho.2 with ⟨h0, _⟩ | ⟨g, cap, cur, h, _⟩
        · injection h0 with _ e _; omega
        · injection h with h1; exact ⟨g, h1⟩
      subst hAn
      obtain ⟨x6, HX6⟩ : ∃ x, Hid (nt.getD 6 0 = x) := ⟨_, Lib.hid rfl⟩
      obtain ⟨x11, HX11⟩ : ∃ x, Hid (nt.getD 11 0 = x) := ⟨_, Lib.hid rfl⟩
      have gat : ∀ i, i < 13 → ∀ x, nt.getD i 0 = x → wr.cell? ⟨gn, i, none⟩ = some (.int .i64 (x : Int)) ∧ x ≤ 4294967295 := fun i hi x hx => by
        have := ho.cellAt i (by omega)
        rw [this]
        rw [List.getD_eq_getElem?_getD, List.getElem?_eq_getElem (by omega)] at hx
        simp only [Option.getD_some] at hx
        exact ⟨by rw [List.getElem?_map, List.getElem?_eq_getElem (by omega), hx]; rfl, by rw [← hx]; exact hle _ (List.getElem_mem _)⟩
      obtain ⟨c6, l6⟩ := gat 6 (by omega) x6 HX6.out
      obtain ⟨c11, l11⟩ := gat 11 (by omega) x11 HX11.out
      rw [HX6.out, HX11.out] at HM
      obtain ⟨p1, HP1⟩ : ∃ x, Hid (x = p + 110) := ⟨_, Lib.hid rfl⟩
      have wp1 : IntKind.i64.wrap ((p : Int) + 110) = (p1 : Int) := by rw [i64_in _ (by omega) (by omega), HP1.out]; omega
      rw [show p + 110 = p1 from HP1.out.symm] at HM hpl
      have HM := Lib.hid (HM.out.trans rfl : M = if x11 < 1 ∨ 201 < x11 then .err 10 else if b.length < p1 + (x11 + filN (110 + x11)) then .err 2 else if nmOk (subB b p1 x11) = false then .err 10 else if (subB b p1 x11).take (x11 - 1) = trailL then .fin else memB2 b nt ((subB b p1 x11).take (x11 - 1)) x6 (p1 + (x11 + filN (110 + x11))))
      rw [HNB.out] at HM
      clear HO HHN HGS HTT HK hle gat
      by_cases hA : x11 < 1
      · have t2 : decide ((x11 : Int) < 1) = true := decide_eq_true (by omega)
        have HV := Lib.hid (HM.out.trans (if_pos (.inl hA)))
        clear HM hA HEX
        go_wp2_with fail
        have K := got_set bG (.slice none 0 0) (.string ⟨#[]⟩) (.string ⟨#[]⟩) (.int .i64 0) (.bool false) (.int .i64 10)
        have hq := got_bel hb1 hgH (.slice none 0 0) (.string ⟨#[]⟩) (.string ⟨#[]⟩) (.int .i64 0) (.bool false) (.int .i64 10)
        clear z0 z1 z2 z3 z4 z5 f0 f1 f2 f3 f4 f5 bG
        generalize (((((wr.setCell ⟨gG, 0, none⟩ (.slice none 0 0)).setCell ⟨gG, 1, none⟩ (.string ⟨#[]⟩)).setCell ⟨gG, 2, none⟩ (.string ⟨#[]⟩)).setCell ⟨gG, 3, none⟩ (.int .i64 0)).setCell ⟨gG, 4, none⟩ (.bool false)).setCell ⟨gG, 5, none⟩ (.int .i64 10) = WX at K hq ⊢
        have k0 := K.cell 0
        have k1 := K.cell 1
        have k2 := K.cell 2
        have k3 := K.cell 3
        have k4 := K.cell 4
        have k5 := K.cell 5
        simp at k0 k1 k2 k3 k4 k5
        refine bodyPost_ret (v := .agg #[.slice none 0 0, .string ⟨#[]⟩, .string ⟨#[]⟩, .int .i64 0, .bool false, .int .i64 10]) ?_ ?_ ?_
        · simp [results, Tryd.results30, go_sem, k0, k1, k2, k3, k4, k5]
        · rfl
        exact ⟨hq, by first | (rw [HV.out]; done) | (rw [HV.out]; rfl)⟩
      have t2 : decide ((x11 : Int) < 1) = false := decide_eq_false (by omega)
      by_cases hB : 201 < x11
      · have t3 : decide ((201 : Int) < (x11 : Int)) = true := decide_eq_true (by omega)
        have t3b : decide (201 < x11) = true := decide_eq_true hB
        have HV := Lib.hid (HM.out.trans (if_pos (.inr hB)))
        clear HM hA hB HEX
        go_wp2_with fail
        have K := got_set bG (.slice none 0 0) (.string ⟨#[]⟩) (.string ⟨#[]⟩) (.int .i64 0) (.bool false) (.int .i64 10)
        have hq := got_bel hb1 hgH (.slice none 0 0) (.string ⟨#[]⟩) (.string ⟨#[]⟩) (.int .i64 0) (.bool false) (.int .i64 10)
        clear z0 z1 z2 z3 z4 z5 f0 f1 f2 f3 f4 f5 bG
        generalize (((((wr.setCell ⟨gG, 0, none⟩ (.slice none 0 0)).setCell ⟨gG, 1, none⟩ (.string ⟨#[]⟩)).setCell ⟨gG, 2, none⟩ (.string ⟨#[]⟩)).setCell ⟨gG, 3, none⟩ (.int .i64 0)).setCell ⟨gG, 4, none⟩ (.bool false)).setCell ⟨gG, 5, none⟩ (.int .i64 10) = WX at K hq ⊢
        have k0 := K.cell 0
        have k1 := K.cell 1
        have k2 := K.cell 2
        have k3 := K.cell 3
        have k4 := K.cell 4
        have k5 := K.cell 5
        simp at k0 k1 k2 k3 k4 k5
        refine bodyPost_ret (v := .agg #[.slice none 0 0, .string ⟨#[]⟩, .string ⟨#[]⟩, .int .i64 0, .bool false, .int .i64 10]) ?_ ?_ ?_
        · simp [results, Tryd.results30, go_sem, k0, k1, k2, k3, k4, k5]
        · rfl
        exact ⟨hq, by first | (rw [HV.out]; done) | (rw [HV.out]; rfl)⟩
      have t3 : decide ((201 : Int) < (x11 : Int)) = false := decide_eq_false (by omega)
      have t3b : decide (201 < x11) = false := decide_eq_false hB
      have HM := Lib.hid (HM.out.trans (if_neg (fun h => h.elim hA hB)))
      have h201 : x11 ≤ 201 := by omega
      have h1x : 1 ≤ x11 := by omega
      clear hA hB
      obtain ⟨na, HNA⟩ : ∃ x, Hid (x = 110 + x11) := ⟨_, Lib.hid rfl⟩
      obtain ⟨fa, HFA⟩ : ∃ x, Hid (x = filN na) := ⟨_, Lib.hid rfl⟩
      have hfa : fa < 4 := by rw [HFA.out]; exact fil_lt na
      obtain ⟨e1, HE1⟩ : ∃ x, Hid (x = p1 + x11) := ⟨_, Lib.hid rfl⟩
      obtain ⟨e0, HE0⟩ : ∃ x, Hid (x + 1 = p1 + x11) := ⟨p1 + x11 - 1, Lib.hid (by omega)⟩
      obtain ⟨nx, HNX⟩ : ∃ x, Hid (x = e1 + fa) := ⟨_, Lib.hid rfl⟩
      obtain ⟨m4, HM4⟩ : ∃ x, Hid (x = na % 4) := ⟨_, Lib.hid rfl⟩
      have hm4 : m4 < 4 := by rw [HM4.out]; exact Nat.mod_lt _ (by omega)
      have wna : IntKind.i64.wrap (110 + (x11 : Int)) = (na : Int) := by rw [i64_in _ (by omega) (by omega), HNA.out]; omega
      have we1 : IntKind.i64.wrap ((p1 : Int) + (x11 : Int)) = (e1 : Int) := by rw [i64_in _ (by omega) (by omega), HE1.out]; omega
      have we0 : IntKind.i64.wrap ((e1 : Int) - 1) = (e0 : Int) := by have := HE1.out; have := HE0.out; rw [i64_in _ (by omega) (by omega)]; omega
      have wm1 : (na : Int).tmod 4 = (m4 : Int) := by rw [Int.tmod_eq_emod_of_nonneg (by omega), HM4.out]; omega
      have wm1b : (na : Int) % 4 = (m4 : Int) := by rw [HM4.out]; omega
      have wm2 : IntKind.i64.wrap (4 - (m4 : Int)) = 4 - (m4 : Int) := i64_in _ (by omega) (by omega)
      have hfe : fa = (4 - m4) % 4 := by rw [HFA.out, HM4.out]; rfl
      have wm3 : (4 - (m4 : Int)).tmod 4 = (fa : Int) := by rw [Int.tmod_eq_emod_of_nonneg (by omega)]; omega
      have wm3b : (4 - (m4 : Int)) % 4 = (fa : Int) := by omega
      have wnx : IntKind.i64.wrap ((e1 : Int) + (fa : Int)) = (nx : Int) := by have := HE1.out; rw [i64_in _ (by omega) (by omega), HNX.out]; omega
      rw [show p1 + (x11 + filN (110 + x11)) = nx by rw [HNX.out, HE1.out, HFA.out, HNA.out]; omega] at HM
      clear hfe
      by_cases hC : nb < nx
      · have t4 : decide ((nb : Int) < (nx : Int)) = true := decide_eq_true (by omega)
        have t4b : decide (nb < nx) = true := decide_eq_true hC
        have HV := Lib.hid (HM.out.trans (if_pos hC))
        clear HM hC HEX
        go_wp2_with fail
        have K := got_set bG (.slice none 0 0) (.string ⟨#[]⟩) (.string ⟨#[]⟩) (.int .i64 0) (.bool false) (.int .i64 2)
        have hq := got_bel hb1 hgH (.slice none 0 0) (.string ⟨#[]⟩) (.string ⟨#[]⟩) (.int .i64 0) (.bool false) (.int .i64 2)
        clear z0 z1 z2 z3 z4 z5 f0 f1 f2 f3 f4 f5 bG
        generalize (((((wr.setCell ⟨gG, 0, none⟩ (.slice none 0 0)).setCell ⟨gG, 1, none⟩ (.string ⟨#[]⟩)).setCell ⟨gG, 2, none⟩ (.string ⟨#[]⟩)).setCell ⟨gG, 3, none⟩ (.int .i64 0)).setCell ⟨gG, 4, none⟩ (.bool false)).setCell ⟨gG, 5, none⟩ (.int .i64 2) = WX at K hq ⊢
        have k0 := K.cell 0
        have k1 := K.cell 1
        have k2 := K.cell 2
        have k3 := K.cell 3
        have k4 := K.cell 4
        have k5 := K.cell 5
        simp at k0 k1 k2 k3 k4 k5
        refine bodyPost_ret (v := .agg #[.slice none 0 0, .string ⟨#[]⟩, .string ⟨#[]⟩, .int .i64 0, .bool false, .int .i64 2]) ?_ ?_ ?_
        · simp [results, Tryd.results30, go_sem, k0, k1, k2, k3, k4, k5]
        · rfl
        exact ⟨hq, by first | (rw [HV.out]; done) | (rw [HV.out]; rfl)⟩
      have t4 : decide ((nb : Int) < (nx : Int)) = false := decide_eq_false (by omega)
      have t4b : decide (nb < nx) = false := decide_eq_false hC
      have HM := Lib.hid (HM.out.trans (if_neg hC))
      have hnl : nx ≤ nb := by omega
      have he1l : e1 ≤ nb := by have := HNX.out; omega
      clear hC
      have hlt0 : e0 < b.length := by rw [HNB.out]; have := HE1.out; have := HE0.out; omega
      have hks0 : (e0 : Int) < (nb : Int) := by have := HE1.out; have := HE0.out; omega
      have hks1 : e0 < nb := by have := HE1.out; have := HE0.out; omega
      have hks2 : e0 < (bs b).size := by rw [bs_size]; exact hlt0
      have hks3 : (0 : Int) ≤ (e0 : Int) := by omega
      obtain ⟨yb, Hyb⟩ : ∃ y, Hid (y = b[e0]'hlt0) := ⟨_, Lib.hid rfl⟩
      have hbb : (bs b)[e0]'hks2 = yb := Hyb.out.symm
      have i1 : (p1 : Int) ≤ (e0 : Int) := by have := HE0.out; omega
      have i2 : (0 : Int) ≤ (p1 : Int) := by omega
      have i3 : (e0 : Int) ≤ (nb : Int) := by omega
      obtain ⟨nm, Hnm⟩ : ∃ nm, Hid (subB b p1 (x11 - 1) = nm) := ⟨_, Lib.hid rfl⟩
      have hext : (bs b).extract p1 e0 = bs nm := by
        rw [← Hnm.out]
        exact HEX.out p1 e0 (x11 - 1) (by have := HE0.out; omega)
      have HNM : Hid (nmOk (subB b p1 x11) = (decide (yb = 0) && !nm.contains 0)) := Lib.hid (by
        rw [← Hnm.out, Hyb.out]
        have := nm_is b p1 x11 h1x (by have := HE0.out; omega)
        have e : p1 + x11 - 1 = e0 := by have := HE0.out; omega
        rw [this]
        simp only [e])
      have HTK : Hid ((subB b p1 x11).take (x11 - 1) = nm) := Lib.hid (by rw [← Hnm.out, subB, List.take_take, Nat.min_eq_left (by omega)]; rfl)
      rw [HTK.out] at HM
      have hnmE : Hid (nmOk (subB b p1 x11) = (decide (yb = 0) && !nm.contains 0)) := HNM
      rw [HNM.out] at HM
      have hnml : nm.length ≤ 1000000000 := by rw [← Hnm.out, subB, List.length_take]; omega
      have hhas : ∀ W, Calls Tryd.prog 42 #[.string (bs nm), .int .u8 0] W fun e w' => e = .returned (.bool (nm.contains 0)) ∧ W = w' := fun W => has_any nm 0 W hnml
      obtain ⟨yn, HYN⟩ : ∃ n, Hid (yb.toNat = n) := ⟨_, Lib.hid rfl⟩
      have hyn : yb.toNat = yn := HYN.out
      clear HNM hnmE HTK Hyb
      by_cases hy : yb = 0
      rotate_left
      · have hyz : ¬ yn = 0 := fun h => hy (by rw [← HYN.out] at h; exact UInt8.toNat_inj.1 h)
        have ty : ((yn : Int) != 0) = true := by simpa using hyz
        have ty2 : ((yn : Int) == 0) = false := by simpa using hyz
        have HV := Lib.hid (HM.out.trans (if_pos (by rw [decide_eq_false hy]; rfl)))
        clear HM hy hyz HYN HEX hhas
        go_wp2_with fail
        have K := got_set bG (.slice none 0 0) (.string ⟨#[]⟩) (.string ⟨#[]⟩) (.int .i64 0) (.bool false) (.int .i64 10)
        have hq := got_bel hb1 hgH (.slice none 0 0) (.string ⟨#[]⟩) (.string ⟨#[]⟩) (.int .i64 0) (.bool false) (.int .i64 10)
        clear z0 z1 z2 z3 z4 z5 f0 f1 f2 f3 f4 f5 bG
        generalize (((((wr.setCell ⟨gG, 0, none⟩ (.slice none 0 0)).setCell ⟨gG, 1, none⟩ (.string ⟨#[]⟩)).setCell ⟨gG, 2, none⟩ (.string ⟨#[]⟩)).setCell ⟨gG, 3, none⟩ (.int .i64 0)).setCell ⟨gG, 4, none⟩ (.bool false)).setCell ⟨gG, 5, none⟩ (.int .i64 10) = WX at K hq ⊢
        have k0 := K.cell 0
        have k1 := K.cell 1
        have k2 := K.cell 2
        have k3 := K.cell 3
        have k4 := K.cell 4
        have k5 := K.cell 5
        simp at k0 k1 k2 k3 k4 k5
        refine bodyPost_ret (v := .agg #[.slice none 0 0, .string ⟨#[]⟩, .string ⟨#[]⟩, .int .i64 0, .bool false, .int .i64 10]) ?_ ?_ ?_
        · simp [results, Tryd.results30, go_sem, k0, k1, k2, k3, k4, k5]
        · rfl
        exact ⟨hq, by first | (rw [HV.out]; done) | (rw [HV.out]; rfl)⟩
      have hyz : yn = 0 := by rw [← HYN.out, hy]; rfl
      rw [decide_eq_true hy, Bool.true_and] at HM
      subst hyz
      clear hy HYN
      cases hct : nm.contains 0 with
      | true =>
        rw [hct] at HM hhas
        have HV := Lib.hid (HM.out.trans (if_pos rfl))
        clear HM HEX hct
        go_wp2_with (go_at_call 42; refine (hhas _).mono ?_; rintro e W5 ⟨rfl, rfl⟩; clear hhas)
        have K := got_set bG (.slice none 0 0) (.string ⟨#[]⟩) (.string ⟨#[]⟩) (.int .i64 0) (.bool false) (.int .i64 10)
        have hq := got_bel hb1 hgH (.slice none 0 0) (.string ⟨#[]⟩) (.string ⟨#[]⟩) (.int .i64 0) (.bool false) (.int .i64 10)
        clear z0 z1 z2 z3 z4 z5 f0 f1 f2 f3 f4 f5 bG
        generalize (((((wr.setCell ⟨gG, 0, none⟩ (.slice none 0 0)).setCell ⟨gG, 1, none⟩ (.string ⟨#[]⟩)).setCell ⟨gG, 2, none⟩ (.string ⟨#[]⟩)).setCell ⟨gG, 3, none⟩ (.int .i64 0)).setCell ⟨gG, 4, none⟩ (.bool false)).setCell ⟨gG, 5, none⟩ (.int .i64 10) = WX at K hq ⊢
        have k0 := K.cell 0
        have k1 := K.cell 1
        have k2 := K.cell 2
        have k3 := K.cell 3
        have k4 := K.cell 4
        have k5 := K.cell 5
        simp at k0 k1 k2 k3 k4 k5
        refine bodyPost_ret (v := .agg #[.slice none 0 0, .string ⟨#[]⟩, .string ⟨#[]⟩, .int .i64 0, .bool false, .int .i64 10]) ?_ ?_ ?_
        · simp [results, Tryd.results30, go_sem, k0, k1, k2, k3, k4, k5]
        · rfl
        exact ⟨hq, by first | (rw [HV.out]; done) | (rw [HV.out]; rfl)⟩
      | false =>
        rw [hct] at HM hhas
        have HM := Lib.hid (HM.out.trans (if_neg (by decide)))
        have hqt := beq_trail nm
        have hqt2 : (nm == [84, 82, 65, 73, 76, 69, 82, 33, 33, 33]) = decide (nm = trailL) := by rw [← hqt, toList_bs]
        clear hct
        by_cases hT : nm = trailL
        · rw [decide_eq_true hT] at hqt hqt2
          have HV := Lib.hid (HM.out.trans (if_pos hT))
          clear HM HEX hT
          go_wp2_with (go_at_call 42; refine (hhas _).mono ?_; rintro e W5 ⟨rfl, rfl⟩; clear hhas)
          have K := got_set bG (.slice none 0 0) (.string ⟨#[]⟩) (.string ⟨#[]⟩) (.int .i64 0) (.bool true) (.int .i64 0)
          have hq := got_bel hb1 hgH (.slice none 0 0) (.string ⟨#[]⟩) (.string ⟨#[]⟩) (.int .i64 0) (.bool true) (.int .i64 0)
          clear z0 z1 z2 z3 z4 z5 f0 f1 f2 f3 f4 f5 bG
          generalize (((((wr.setCell ⟨gG, 0, none⟩ (.slice none 0 0)).setCell ⟨gG, 1, none⟩ (.string ⟨#[]⟩)).setCell ⟨gG, 2, none⟩ (.string ⟨#[]⟩)).setCell ⟨gG, 3, none⟩ (.int .i64 0)).setCell ⟨gG, 4, none⟩ (.bool true)).setCell ⟨gG, 5, none⟩ (.int .i64 0) = WX at K hq ⊢
          have k0 := K.cell 0
          have k1 := K.cell 1
          have k2 := K.cell 2
          have k3 := K.cell 3
          have k4 := K.cell 4
          have k5 := K.cell 5
          simp at k0 k1 k2 k3 k4 k5
          refine bodyPost_ret (v := .agg #[.slice none 0 0, .string ⟨#[]⟩, .string ⟨#[]⟩, .int .i64 0, .bool true, .int .i64 0]) ?_ ?_ ?_
          · simp [results, Tryd.results30, go_sem, k0, k1, k2, k3, k4, k5]
          · rfl
          exact ⟨hq, by first | (rw [HV.out]; done) | (rw [HV.out]; rfl)⟩
        rw [decide_eq_false hT] at hqt hqt2
        have HM := Lib.hid (HM.out.trans (if_neg hT))
        have HM : Hid (M = if b.length < nx + (x6 + filN x6) then .err 2 else if 1048576 < x6 then .err 4 else .mem nt nm (subB b nx x6) (nx + (x6 + filN x6))) := HM
        rw [HNB.out] at HM
        clear hT
        obtain ⟨fb, HFB⟩ : ∃ x, Hid (x = filN x6) := ⟨_, Lib.hid rfl⟩
        have hfb : fb < 4 := by rw [HFB.out]; exact fil_lt x6
        obtain ⟨m5, HM5⟩ : ∃ x, Hid (x = x6 % 4) := ⟨_, Lib.hid rfl⟩
        have hm5 : m5 < 4 := by rw [HM5.out]; exact Nat.mod_lt _ (by omega)
        obtain ⟨d1, HD1⟩ : ∃ x, Hid (x = nx + x6) := ⟨_, Lib.hid rfl⟩
        obtain ⟨st, HST⟩ : ∃ x, Hid (x = d1 + fb) := ⟨_, Lib.hid rfl⟩
        have wd1 : IntKind.i64.wrap ((nx : Int) + (x6 : Int)) = (d1 : Int) := by rw [i64_in _ (by omega) (by omega), HD1.out]; omega
        have wn1 : (x6 : Int).tmod 4 = (m5 : Int) := by rw [Int.tmod_eq_emod_of_nonneg (by omega), HM5.out]; omega
        have wn1b : (x6 : Int) % 4 = (m5 : Int) := by rw [HM5.out]; omega
        have wn2 : IntKind.i64.wrap (4 - (m5 : Int)) = 4 - (m5 : Int) := i64_in _ (by omega) (by omega)
        have hfe : fb = (4 - m5) % 4 := by rw [HFB.out, HM5.out]; rfl
        have wn3 : (4 - (m5 : Int)).tmod 4 = (fb : Int) := by rw [Int.tmod_eq_emod_of_nonneg (by omega)]; omega
        have wn3b : (4 - (m5 : Int)) % 4 = (fb : Int) := by omega
        have wst : IntKind.i64.wrap ((d1 : Int) + (fb : Int)) = (st : Int) := by have := HD1.out; rw [i64_in _ (by omega) (by omega), HST.out]; omega
        rw [show nx + (x6 + filN x6) = st by rw [HST.out, HD1.out, HFB.out]; omega] at HM
        clear hfe
        go_upto_region 24 with (go_at_call 42; refine (hhas _).mono ?_; rintro e W5 ⟨rfl, rfl⟩; clear hhas)
        refine wp_region_plan (fun W => W.cell? ⟨gn, 6, none⟩ = some (.int .i64 x6)) [(false, 0), (false, 1), (false, 2), (false, 3), (false, 4), (false, 5), (false, 6), (false, 7), (false, 8), (false, 9), (false, 10), (false, 11), (false, 12)] (by kernel_rfl) (by kernel_rfl) (c6) ?_
        simp only [planOps, List.map, List.getD_cons_zero, List.getD_cons_succ]
        iterate 13 ((first | refine plan_quiet (v := ?_) rfl rfl (fun w' hw' => ?_) ?_ | refine plan_calm (v := ?_) (tt_of) rfl (fun w' hw' => ?_) ?_); rotate_left; (focus (go_simp <;> (first | with_reducible rfl | (rw [if_neg (by simp [undef])]; try rfl)))); simp only [Act.put, List.setIfInBounds_toArray, List.set_cons_zero, List.set_cons_succ])
        refine plan_end ?_
        have bG := (show Blk wr.drew gG 69 #[.slice none 0 0, .string ⟨#[]⟩, .string ⟨#[]⟩, .int .i64 0, .bool false, .int .i64 0] from bG)
        have hb1 := hb1.drew
        have ho := own_below ho ((Below.refl _ wr).drew)
        have c6 := (show wr.drew.cell? ⟨gn, 6, none⟩ = some (.int .i64 x6) from c6)
        clear z0 z1 z2 z3 z4 z5 f0 f1 f2 f3 f4 f5 c11
        generalize wr.drew = wr at bG hb1 ho c6 ⊢
        have z0 := bG.cell 0
        have z1 := bG.cell 1
        have z2 := bG.cell 2
        have z3 := bG.cell 3
        have z4 := bG.cell 4
        have z5 := bG.cell 5
        simp at z0 z1 z2 z3 z4 z5
        have f0 := bG.frozen 0
        have f1 := bG.frozen 1
        have f2 := bG.frozen 2
        have f3 := bG.frozen 3
        have f4 := bG.frozen 4
        have f5 := bG.frozen 5
        by_cases hD : nb < st
        · have t5 : decide ((nb : Int) < (st : Int)) = true := decide_eq_true (by omega)
          have t5b : decide (nb < st) = true := decide_eq_true hD
          have HV := Lib.hid (HM.out.trans (if_pos hD))
          clear HM hD HEX
          go_wp2_with fail
          have K := got_set bG (.slice none 0 0) (.string ⟨#[]⟩) (.string ⟨#[]⟩) (.int .i64 0) (.bool false) (.int .i64 2)
          have hq := got_bel hb1 hgH (.slice none 0 0) (.string ⟨#[]⟩) (.string ⟨#[]⟩) (.int .i64 0) (.bool false) (.int .i64 2)
          clear z0 z1 z2 z3 z4 z5 f0 f1 f2 f3 f4 f5 bG
          generalize (((((wr.setCell ⟨gG, 0, none⟩ (.slice none 0 0)).setCell ⟨gG, 1, none⟩ (.string ⟨#[]⟩)).setCell ⟨gG, 2, none⟩ (.string ⟨#[]⟩)).setCell ⟨gG, 3, none⟩ (.int .i64 0)).setCell ⟨gG, 4, none⟩ (.bool false)).setCell ⟨gG, 5, none⟩ (.int .i64 2) = WX at K hq ⊢
          have k0 := K.cell 0
          have k1 := K.cell 1
          have k2 := K.cell 2
          have k3 := K.cell 3
          have k4 := K.cell 4
          have k5 := K.cell 5
          simp at k0 k1 k2 k3 k4 k5
          refine bodyPost_ret (v := .agg #[.slice none 0 0, .string ⟨#[]⟩, .string ⟨#[]⟩, .int .i64 0, .bool false, .int .i64 2]) ?_ ?_ ?_
          · simp [results, Tryd.results30, go_sem, k0, k1, k2, k3, k4, k5]
          · rfl
          exact ⟨hq, by first | (rw [HV.out]; done) | (rw [HV.out]; rfl)⟩
        have t5 : decide ((nb : Int) < (st : Int)) = false := decide_eq_false (by omega)
        have t5b : decide (nb < st) = false := decide_eq_false hD
        have HM := Lib.hid (HM.out.trans (if_neg hD))
        have hsl : st ≤ nb := by omega
        clear hD
        by_cases hE : 1048576 < x6
        · have t6 : decide ((1048576 : Int) < (x6 : Int)) = true := decide_eq_true (by omega)
          have t6b : decide (1048576 < x6) = true := decide_eq_true hE
          have HV := Lib.hid (HM.out.trans (if_pos hE))
          clear HM hE HEX
          go_wp2_with fail
          have K := got_set bG (.slice none 0 0) (.string ⟨#[]⟩) (.string ⟨#[]⟩) (.int .i64 0) (.bool false) (.int .i64 4)
          have hq := got_bel hb1 hgH (.slice none 0 0) (.string ⟨#[]⟩) (.string ⟨#[]⟩) (.int .i64 0) (.bool false) (.int .i64 4)
          clear z0 z1 z2 z3 z4 z5 f0 f1 f2 f3 f4 f5 bG
          generalize (((((wr.setCell ⟨gG, 0, none⟩ (.slice none 0 0)).setCell ⟨gG, 1, none⟩ (.string ⟨#[]⟩)).setCell ⟨gG, 2, none⟩ (.string ⟨#[]⟩)).setCell ⟨gG, 3, none⟩ (.int .i64 0)).setCell ⟨gG, 4, none⟩ (.bool false)).setCell ⟨gG, 5, none⟩ (.int .i64 4) = WX at K hq ⊢
          have k0 := K.cell 0
          have k1 := K.cell 1
          have k2 := K.cell 2
          have k3 := K.cell 3
          have k4 := K.cell 4
          have k5 := K.cell 5
          simp at k0 k1 k2 k3 k4 k5
          refine bodyPost_ret (v := .agg #[.slice none 0 0, .string ⟨#[]⟩, .string ⟨#[]⟩, .int .i64 0, .bool false, .int .i64 4]) ?_ ?_ ?_
          · simp [results, Tryd.results30, go_sem, k0, k1, k2, k3, k4, k5]
          · rfl
          exact ⟨hq, by first | (rw [HV.out]; done) | (rw [HV.out]; rfl)⟩
        have t6 : decide ((1048576 : Int) < (x6 : Int)) = false := decide_eq_false (by omega)
        have t6b : decide (1048576 < x6) = false := decide_eq_false hE
        have HM := Lib.hid (HM.out.trans (if_neg hE))
        clear hE
        have i4 : (nx : Int) ≤ (d1 : Int) := by rw [HD1.out]; omega
        have i5 : (d1 : Int) ≤ (nb : Int) := by have := HST.out; omega
        have i6 : (0 : Int) ≤ (nx : Int) := by omega
        obtain ⟨dd, Hdd⟩ : ∃ d, Hid (subB b nx x6 = d) := ⟨_, Lib.hid rfl⟩
        have hext2 : (bs b).extract nx d1 = bs dd := by rw [← Hdd.out]; exact HEX.out nx d1 x6 HD1.out
        rw [Hdd.out] at HM
        clear HEX Hdd
        go_wp2_with fail
        have hoF := got_keep ho bG (.slice (some ⟨gn, 0, none⟩) 13 cn) (.string (bs nm)) (.string (bs dd)) (.int .i64 (st : Int)) (.bool false) (.int .i64 0)
        rw [hl13] at hoF
        have K := got_set bG (.slice (some ⟨gn, 0, none⟩) 13 cn) (.string (bs nm)) (.string (bs dd)) (.int .i64 (st : Int)) (.bool false) (.int .i64 0)
        have hq := got_bel hb1 hgH (.slice (some ⟨gn, 0, none⟩) 13 cn) (.string (bs nm)) (.string (bs dd)) (.int .i64 (st : Int)) (.bool false) (.int .i64 0)
        clear z0 z1 z2 z3 z4 z5 f0 f1 f2 f3 f4 f5 bG
        generalize (((((wr.setCell ⟨gG, 0, none⟩ (.slice (some ⟨gn, 0, none⟩) 13 cn)).setCell ⟨gG, 1, none⟩ (.string (bs nm))).setCell ⟨gG, 2, none⟩ (.string (bs dd))).setCell ⟨gG, 3, none⟩ (.int .i64 (st : Int))).setCell ⟨gG, 4, none⟩ (.bool false)).setCell ⟨gG, 5, none⟩ (.int .i64 0) = WX at K hq hoF ⊢
        have k0 := K.cell 0
        have k1 := K.cell 1
        have k2 := K.cell 2
        have k3 := K.cell 3
        have k4 := K.cell 4
        have k5 := K.cell 5
        simp at k0 k1 k2 k3 k4 k5
        refine bodyPost_ret (v := .agg #[.slice (some ⟨gn, 0, none⟩) 13 cn, .string (bs nm), .string (bs dd), .int .i64 (st : Int), .bool false, .int .i64 0]) ?_ ?_ ?_
        · simp [results, Tryd.results30, go_sem, k0, k1, k2, k3, k4, k5]
        · rfl
        exact ⟨hq, by rw [HM.out]; exact ⟨_, rfl, by rw [hl13]; exact hoF⟩⟩
end Go.Proofs.YtolknddegfcmpaaDoor

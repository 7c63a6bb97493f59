/- The document's Head (tar). Printed by gen_tch.py. -/
import Derived.Test.YtpheifdpjcppdaaGreatDoorTcF
import Derived.Test.YtpheifdpjcppdaaGreatDoorTaZS
import Derived.Test.YtpheifdpjcppdaaGreatDoorTbJK
namespace Go.Proofs.YtpheifdpjcppdaaGreatDoor
open Go.RowKit
section
variable {w W : World} {gR H : Nat}
theorem set13 {t : TypeId} {y0 y1 y2 y3 y4 y5 y6 y7 y8 y9 y10 y11 y12 : Value} (h : Blk W gR t #[y0, y1, y2, y3, y4, y5, y6, y7, y8, y9, y10, y11, y12]) (v0 v1 v2 v3 v4 v5 v6 v7 v8 v9 v10 v11 v12 : Value) :
    Blk (((((((((((((W.setCell ⟨gR, 0, none⟩ (v0)).setCell ⟨gR, 1, none⟩ (v1)).setCell ⟨gR, 2, none⟩ (v2)).setCell ⟨gR, 3, none⟩ (v3)).setCell ⟨gR, 4, none⟩ (v4)).setCell ⟨gR, 5, none⟩ (v5)).setCell ⟨gR, 6, none⟩ (v6)).setCell ⟨gR, 7, none⟩ (v7)).setCell ⟨gR, 8, none⟩ (v8)).setCell ⟨gR, 9, none⟩ (v9)).setCell ⟨gR, 10, none⟩ (v10)).setCell ⟨gR, 11, none⟩ (v11)).setCell ⟨gR, 12, none⟩ (v12)) gR t #[v0, v1, v2, v3, v4, v5, v6, v7, v8, v9, v10, v11, v12] := by
  have := (((((((((((((h.set (u := v0) 0).set (u := v1) 1).set (u := v2) 2).set (u := v3) 3).set (u := v4) 4).set (u := v5) 5).set (u := v6) 6).set (u := v7) 7).set (u := v8) 8).set (u := v9) 9).set (u := v10) 10).set (u := v11) 11).set (u := v12) 12)
  simpa using this
theorem bel13 (h : Below H w W) (hg : H ≤ gR) (v0 v1 v2 v3 v4 v5 v6 v7 v8 v9 v10 v11 v12 : Value) : Below H w (((((((((((((W.setCell ⟨gR, 0, none⟩ (v0)).setCell ⟨gR, 1, none⟩ (v1)).setCell ⟨gR, 2, none⟩ (v2)).setCell ⟨gR, 3, none⟩ (v3)).setCell ⟨gR, 4, none⟩ (v4)).setCell ⟨gR, 5, none⟩ (v5)).setCell ⟨gR, 6, none⟩ (v6)).setCell ⟨gR, 7, none⟩ (v7)).setCell ⟨gR, 8, none⟩ (v8)).setCell ⟨gR, 9, none⟩ (v9)).setCell ⟨gR, 10, none⟩ (v10)).setCell ⟨gR, 11, none⟩ (v11)).setCell ⟨gR, 12, none⟩ (v12)) :=
  (((((((((((((h.setCell (p := ⟨gR, 0, none⟩) hg v0).setCell (p := ⟨gR, 1, none⟩) hg v1).setCell (p := ⟨gR, 2, none⟩) hg v2).setCell (p := ⟨gR, 3, none⟩) hg v3).setCell (p := ⟨gR, 4, none⟩) hg v4).setCell (p := ⟨gR, 5, none⟩) hg v5).setCell (p := ⟨gR, 6, none⟩) hg v6).setCell (p := ⟨gR, 7, none⟩) hg v7).setCell (p := ⟨gR, 8, none⟩) hg v8).setCell (p := ⟨gR, 9, none⟩) hg v9).setCell (p := ⟨gR, 10, none⟩) hg v10).setCell (p := ⟨gR, 11, none⟩) hg v11).setCell (p := ⟨gR, 12, none⟩) hg v12)
end
theorem cellsG {w : World} {g : Nat} {y0 y1 y2 y3 y4 y5 y6 y7 y8 y9 y10 y11 y12 : Value} {t : TypeId} (h : Blk w g t #[y0, y1, y2, y3, y4, y5, y6, y7, y8, y9, y10, y11, y12]) : w.cell? ⟨g, 0, none⟩ = some y0 ∧ w.cell? ⟨g, 1, none⟩ = some y1 ∧ w.cell? ⟨g, 2, none⟩ = some y2 ∧ w.cell? ⟨g, 3, none⟩ = some y3 ∧ w.cell? ⟨g, 4, none⟩ = some y4 ∧ w.cell? ⟨g, 5, none⟩ = some y5 ∧ w.cell? ⟨g, 6, none⟩ = some y6 ∧ w.cell? ⟨g, 7, none⟩ = some y7 ∧ w.cell? ⟨g, 8, none⟩ = some y8 ∧ w.cell? ⟨g, 9, none⟩ = some y9 ∧ w.cell? ⟨g, 10, none⟩ = some y10 ∧ w.cell? ⟨g, 11, none⟩ = some y11 ∧ w.cell? ⟨g, 12, none⟩ = some y12 :=
  ⟨h.cell 0, h.cell 1, h.cell 2, h.cell 3, h.cell 4, h.cell 5, h.cell 6, h.cell 7, h.cell 8, h.cell 9, h.cell 10, h.cell 11, h.cell 12⟩
/-- append of a number to a row of one's own. -/
theorem wpList_num {w : World} {B : Nat} {pv : Value} {l : List Nat} {ops : Array Oper} {rest : List Oper} {o : Oper} {a : Act} {Q : Exit → Act → World → Prop} (hgd : o.guard = none) (s x : Operand)
    (ho : o.op = .call { callee := .builtin .append, args := #[s, x], argTypes := #[56, 56] }) (hs : a.eval s = pv) (hown : w.ownsRow B 3 1 pv l.length (l.map vP)) (p g c : Nat) (hx : a.eval x = .slice (some ⟨g, 0, none⟩) 1 c) (hblk : Blk w g 3 #[.int .i64 (p : Int)]) (hn : l.length ≤ 10000000) (hB : B ≤ w.heap.size)
    (h : ∀ v' w', w'.ownsRow B 3 1 v' (l ++ [p]).length ((l ++ [p]).map vP) → Kept (fun k => pv.ownBlock = some k) w w' → (v'.ownBlock = pv.ownBlock ∨ ∀ k, v'.ownBlock = some k → w.heap.size ≤ k) → wpList Tryz.prog ops Q rest (a.put o.dst v') w') : wpList Tryz.prog ops Q (o :: rest) a w := by
  obtain ⟨i0, hi, hz0, hz1, hz2⟩ := info_parts info_int
  have ht : Tryz.prog.underlying 56 = some (.slice 3) := Tryz.underlying56
  refine wpList_plain hgd fun K hK => ?_
  have hnews : ∀ j u, ([.int .i64 (p : Int)] : List Value)[j]? = some u → w.cell? ((⟨g, 0, none⟩ : Addr).add j) = some u := fun j u hu => by
    rw [Addr.add_lit, Nat.zero_add, hblk.cell]
    simpa using hu
  obtain ⟨v', w', hr, h2, h3, _⟩ := run_append_own (P := Tryz.prog) w B 56 o.type 3 i0 _ 1 8 ht hi hz0 hz1 hz2 rfl (by decide) pv l.length (l.map vP) hown ⟨g, 0, none⟩ 1 c [.int .i64 (p : Int)] rfl hnews (by simp; rfl) (by unfold maxLen; omega) (by omega) hB
  have hob := append_block ht hi hz0 hz1 hz2 rfl (by decide) hown ⟨g, 0, none⟩ 1 c [.int .i64 (p : Int)] rfl hnews (by simp; rfl) (by unfold maxLen; omega) (by omega) hr
  unfold Oper.wp execOp
  simp only [ho, resolve, invoke, builtin, Sem.run_bind, Sem.run_pure, Result.andThen_ok, List.map_toArray, List.map_cons, List.map_nil, hs, hx, hr]
  refine hK _ _ (h v' w' ?_ (Kept.grown h3) hob)
  rw [List.length_append, List.length_singleton, List.map_append]
  exact h2
def typR (u : UInt8) : UInt8 := if u = 0 then 48 else u
/-- What Head answers. -/
def gotV : HR → Value
  | .bad c => .agg #[.string ⟨#[]⟩, .int .i64 0, .int .i64 0, .int .i64 0, .int .i64 0, .string ⟨#[]⟩, .string ⟨#[]⟩, .int .i64 0, .string ⟨#[]⟩, .slice none 0 0, .int .u8 0, .int .i64 0, .int .i64 c]
  | .ok d => .agg #[.string (bs (nameR d)), .int .i64 0, .int .i64 (d.mode : Int), .int .i64 (d.uid : Int), .int .i64 (d.gid : Int), .string (bs d.owner), .string (bs d.group), .int .i64 (d.mtime : Int), .string (bs d.link), .slice none 0 0, .int .u8 ((typR d.kind).toNat : Int), .int .i64 (d.size : Int), .int .i64 0]
/-- The places of the five numbers. -/
def atV : Array Value := #[.int .i64 100, .int .i64 108, .int .i64 116, .int .i64 124, .int .i64 136, .int .i64 148]
theorem at_facts (h : List UInt8) (k : Nat) (hk : k < 5) : ∃ a b : Nat, atV[k]? = some (.int .i64 (a : Int)) ∧ atV[k + 1]? = some (.int .i64 (b : Int)) ∧ a ≤ b ∧ b ≤ 148 ∧ (numsL h)[k]? = some (fldB h a (b - a)) := by
  have : k = 0 ∨ k = 1 ∨ k = 2 ∨ k = 3 ∨ k = 4 := by omega
  rcases this with rfl | rfl | rfl | rfl | rfl
  · exact ⟨100, 108, rfl, rfl, by decide, by decide, rfl⟩
  · exact ⟨108, 116, rfl, rfl, by decide, by decide, rfl⟩
  · exact ⟨116, 124, rfl, rfl, by decide, by decide, rfl⟩
  · exact ⟨124, 136, rfl, rfl, by decide, by decide, rfl⟩
  · exact ⟨136, 148, rfl, rfl, by decide, by decide, rfl⟩
theorem fst_at : ∀ (l : List (List UInt8)) (k : Nat) (s : List UInt8), (∀ j, j < k → ∀ x, l[j]? = some x → octCode x = 0) → l[k]? = some s → octCode s ≠ 0 → fstBad l = octCode s
  | [], _, _, _, h, _ => by simp at h
  | x :: l, 0, s, _, h, hn => by
    simp at h
    subst h
    rw [fstBad, if_neg hn]
  | x :: l, k + 1, s, h1, h, hn => by
    rw [fstBad, if_pos (h1 0 (by omega) x rfl)]
    exact fst_at l k s (fun j hj y hy => h1 (j + 1) (by omega) y (by simpa using hy)) (by simpa using h) hn
theorem fst_none : ∀ (l : List (List UInt8)), (∀ j, j < l.length → ∀ x, l[j]? = some x → octCode x = 0) → fstBad l = 0
  | [], _ => rfl
  | x :: l, h1 => by
    rw [fstBad, if_pos (h1 0 (by simp) x rfl)]
    exact fst_none l fun j hj y hy => h1 (j + 1) (by simpa using hj) y (by simpa using hy)
theorem gset3 {w : World} {g : Nat} {t : TypeId} {a b c : Value} (h : Blk w g t #[a, b, c]) (a' b' c' : Value) : Blk (((w.setCell ⟨g, 0, none⟩ a').setCell ⟨g, 1, none⟩ b').setCell ⟨g, 2, none⟩ c') g t #[a', b', c'] := by
  have := ((h.set (u := a') 0).set (u := b') 1).set (u := c') 2
  simpa using this
theorem octN_of {l : List UInt8} (h : octCode l = 0) : octNum l = (ocN l : Int) := by rw [octNum, if_pos h]; rfl
set_option maxRecDepth 20000 in
set_option maxHeartbeats 32000000 in
theorem rhead_any (h : List UInt8) (hl : h.length = 512) (w : World) :
    Calls Tryz.prog 26 #[.string (bs h)] w fun r w' => r = .returned (gotV (headS h)) ∧ Below w.heap.size w w' := by
  obtain ⟨R, HR⟩ : ∃ R, Hid (headS h = R) := ⟨_, Lib.hid rfl⟩
  have HR0 : Hid (R = if octCode (fldB h 148 8) ≠ 0 ∨ ocN (fldB h 148 8) ≠ sumT h then .bad 5
  else if fldB h 257 8 ≠ magicB false ∧ fldB h 257 8 ≠ magicB true then .bad 3
  else if fstBad (numsL h) ≠ 0 then .bad (fstBad (numsL h))
  else .ok (hdR h)) := Lib.hid (by rw [← HR.out]; rfl)
  rw [HR.out]
  clear HR
  have hsz : (bs h).size = 512 := by rw [bs_size, hl]
  have hx1 : (bs h).extract 148 156 = bs (fldB h 148 8) := ext_fld h 148 156
  have hx2 : (bs h).extract 257 265 = bs (fldB h 257 8) := ext_fld h 257 265
  go_enter Tryz.func26, Tryz.ntmps26
  go_upto_region 1 with fail
  have hb1 := (Below.refl w.heap.size w).alloc (Nat.le_refl _) (.cells #[.string ⟨#[]⟩, .int .i64 0, .int .i64 0, .int .i64 0, .int .i64 0, .string ⟨#[]⟩, .string ⟨#[]⟩, .int .i64 0, .string ⟨#[]⟩, .slice none 0 0, .int .u8 0, .int .i64 0, .int .i64 0] 64)
  have bR := Blk.new w 64 #[.string ⟨#[]⟩, .int .i64 0, .int .i64 0, .int .i64 0, .int .i64 0, .string ⟨#[]⟩, .string ⟨#[]⟩, .int .i64 0, .string ⟨#[]⟩, .slice none 0 0, .int .u8 0, .int .i64 0, .int .i64 0]
  generalize w.alloc (.cells #[.string ⟨#[]⟩, .int .i64 0, .int .i64 0, .int .i64 0, .int .i64 0, .string ⟨#[]⟩, .string ⟨#[]⟩, .int .i64 0, .string ⟨#[]⟩, .slice none 0 0, .int .u8 0, .int .i64 0, .int .i64 0] 64) = W1 at hb1 bR ⊢
  generalize hgr : w.heap.size = gR at bR ⊢
  have hgR : w.heap.size ≤ gR := by omega
  clear hgr
  have hO := fun W => runoctal_any (bs (fldB h 148 8)) W (by rw [bs_size, fldB, List.length_take, List.length_drop]; omega)
  rw [bs_list] at hO
  have HN : Hid (octCode (fldB h 148 8) = 0 → octNum (fldB h 148 8) = (ocN (fldB h 148 8) : Int)) := Lib.hid fun e => octN_of e
  generalize fldB h 148 8 = fs at hO hx1 HN HR0
  generalize octCode fs = sc at hO HN HR0
  generalize octNum fs = sn at hO HN
  generalize ocN fs = on at HN HR0
  go_upto_region 2 with (go_at_call 49; refine (hO _).mono ?_; clear hO; rintro r W2 ⟨rfl, hb2⟩)
  have bS := Blk.new W2 95 #[.slice none 0 0, .int .i64 sn, .int .i64 sc]
  have hq3 := hb2.alloc hb2.size (.cells #[.slice none 0 0, .int .i64 sn, .int .i64 sc] 95)
  have bR := bR.below hq3 bR.lt
  have hb := hb1.trans (hq3.mono hb1.size)
  clear hb1 hb2 hq3
  generalize W2.alloc (.cells #[.slice none 0 0, .int .i64 sn, .int .i64 sc] 95) = W3 at bS bR hb ⊢
  generalize W2.heap.size = gS at bS ⊢
  have x1 := bS.cell 1
  have x2 := bS.cell 2
  simp at x1 x2
  have hsum := fun W => rsum_any h W hl
  generalize sumT h = sm at hsum HR0
  by_cases hc : sc = 0
  rotate_left
  · have q1 : (sc != 0) = true := by simpa using hc
    have HV : Hid (R = .bad 5) := Lib.hid (by rw [HR0.out, if_pos (.inl hc)])
    clear HR0 HN hc
    refine wp_region_plan (fun W => W.cell? ⟨gS, 2, none⟩ = some (.int .i64 sc) ∧ W.cell? ⟨gS, 1, none⟩ = some (.int .i64 sn)) [(false, 0), (false, 1), (false, 2), (false, 3), (false, 4), (false, 5), (false, 6), (false, 7), (false, 8), (false, 9)] (by kernel_rfl) (by kernel_rfl) (⟨x2, x1⟩) ?_
    simp only [planOps, List.map, List.getD_cons_zero, List.getD_cons_succ]
    iterate 10 ((first | refine plan_quiet_guarded (v := ?_) rfl (fun w' hw' => ?_) ?_ | refine plan_calm_guarded (v := ?_) (tt_of) (fun w' hw' => ?_) ?_); rotate_left; (focus (go_simp <;> (first | with_reducible rfl | (rw [if_neg (by simp [undef])]; try rfl) | (refine (hsum _).mono ?_; rintro e w2 ⟨rfl, rfl⟩; constructor <;> with_reducible rfl)))); simp only [Act.put, List.setIfInBounds_toArray, List.set_cons_zero, List.set_cons_succ])
    refine plan_end ?_
    have bR : Blk W3.drew gR 64 #[.string ⟨#[]⟩, .int .i64 0, .int .i64 0, .int .i64 0, .int .i64 0, .string ⟨#[]⟩, .string ⟨#[]⟩, .int .i64 0, .string ⟨#[]⟩, .slice none 0 0, .int .u8 0, .int .i64 0, .int .i64 0] := bR
    have hb := hb.drew
    clear x1 x2 bS
    generalize W3.drew = W4 at bR hb ⊢
    obtain ⟨z0, z1, z2, z3, z4, z5, z6, z7, z8, z9, z10, z11, z12⟩ := (cellsG bR)
    have f0 := bR.frozen 0
    have f1 := bR.frozen 1
    have f2 := bR.frozen 2
    have f3 := bR.frozen 3
    have f4 := bR.frozen 4
    have f5 := bR.frozen 5
    have f6 := bR.frozen 6
    have f7 := bR.frozen 7
    have f8 := bR.frozen 8
    have f9 := bR.frozen 9
    have f10 := bR.frozen 10
    have f11 := bR.frozen 11
    have f12 := bR.frozen 12
    go_wp2_with fail
    have K := set13 bR (.string ⟨#[]⟩) (.int .i64 0) (.int .i64 0) (.int .i64 0) (.int .i64 0) (.string ⟨#[]⟩) (.string ⟨#[]⟩) (.int .i64 0) (.string ⟨#[]⟩) (.slice none 0 0) (.int .u8 0) (.int .i64 0) (.int .i64 5)
    have hq := bel13 hb hgR (.string ⟨#[]⟩) (.int .i64 0) (.int .i64 0) (.int .i64 0) (.int .i64 0) (.string ⟨#[]⟩) (.string ⟨#[]⟩) (.int .i64 0) (.string ⟨#[]⟩) (.slice none 0 0) (.int .u8 0) (.int .i64 0) (.int .i64 5)
    clear z0 z1 z2 z3 z4 z5 z6 z7 z8 z9 z10 z11 z12 f0 f1 f2 f3 f4 f5 f6 f7 f8 f9 f10 f11 f12
    generalize ((((((((((((W4.setCell ⟨gR, 0, none⟩ (.string ⟨#[]⟩)).setCell ⟨gR, 1, none⟩ (.int .i64 0)).setCell ⟨gR, 2, none⟩ (.int .i64 0)).setCell ⟨gR, 3, none⟩ (.int .i64 0)).setCell ⟨gR, 4, none⟩ (.int .i64 0)).setCell ⟨gR, 5, none⟩ (.string ⟨#[]⟩)).setCell ⟨gR, 6, none⟩ (.string ⟨#[]⟩)).setCell ⟨gR, 7, none⟩ (.int .i64 0)).setCell ⟨gR, 8, none⟩ (.string ⟨#[]⟩)).setCell ⟨gR, 9, none⟩ (.slice none 0 0)).setCell ⟨gR, 10, none⟩ (.int .u8 0)).setCell ⟨gR, 11, none⟩ (.int .i64 0)).setCell ⟨gR, 12, none⟩ (.int .i64 5) = WX at K hq ⊢
    obtain ⟨k0, k1, k2, k3, k4, k5, k6, k7, k8, k9, k10, k11, k12⟩ := (cellsG K)
    refine bodyPost_ret (v := .agg #[.string ⟨#[]⟩, .int .i64 0, .int .i64 0, .int .i64 0, .int .i64 0, .string ⟨#[]⟩, .string ⟨#[]⟩, .int .i64 0, .string ⟨#[]⟩, .slice none 0 0, .int .u8 0, .int .i64 0, .int .i64 5]) ?_ ?_ ?_
    · simp [results, Tryz.results26, go_sem, k0, k1, k2, k3, k4, k5, k6, k7, k8, k9, k10, k11, k12]
    · rfl
    · exact ⟨by rw [HV.out]; rfl, hq⟩
  have q1 : (sc != 0) = false := by simpa using hc
  have hsn := HN.out hc
  subst hsn
  by_cases hs : on = sm
  rotate_left
  · have q2 : ((on : Int) != (sm : Int)) = true := by simp; omega
    have q2b : ¬ on = sm := hs
    have HV : Hid (R = .bad 5) := Lib.hid (by rw [HR0.out, if_pos (.inr hs)])
    clear HR0 HN
    refine wp_region_plan (fun W => W.cell? ⟨gS, 2, none⟩ = some (.int .i64 sc) ∧ W.cell? ⟨gS, 1, none⟩ = some (.int .i64 (on : Int))) [(false, 0), (false, 1), (false, 2), (false, 3), (false, 4), (false, 5), (false, 6), (false, 7), (false, 8), (false, 9)] (by kernel_rfl) (by kernel_rfl) (⟨x2, x1⟩) ?_
    simp only [planOps, List.map, List.getD_cons_zero, List.getD_cons_succ]
    iterate 10 ((first | refine plan_quiet_guarded (v := ?_) rfl (fun w' hw' => ?_) ?_ | refine plan_calm_guarded (v := ?_) (tt_of) (fun w' hw' => ?_) ?_); rotate_left; (focus (go_simp <;> (first | with_reducible rfl | (rw [if_neg (by simp [undef])]; try rfl) | (refine (hsum _).mono ?_; rintro e w2 ⟨rfl, rfl⟩; constructor <;> with_reducible rfl)))); simp only [Act.put, List.setIfInBounds_toArray, List.set_cons_zero, List.set_cons_succ])
    refine plan_end ?_
    have bR : Blk W3.drew gR 64 #[.string ⟨#[]⟩, .int .i64 0, .int .i64 0, .int .i64 0, .int .i64 0, .string ⟨#[]⟩, .string ⟨#[]⟩, .int .i64 0, .string ⟨#[]⟩, .slice none 0 0, .int .u8 0, .int .i64 0, .int .i64 0] := bR
    have hb := hb.drew
    clear x1 x2 bS
    generalize W3.drew = W4 at bR hb ⊢
    obtain ⟨z0, z1, z2, z3, z4, z5, z6, z7, z8, z9, z10, z11, z12⟩ := (cellsG bR)
    have f0 := bR.frozen 0
    have f1 := bR.frozen 1
    have f2 := bR.frozen 2
    have f3 := bR.frozen 3
    have f4 := bR.frozen 4
    have f5 := bR.frozen 5
    have f6 := bR.frozen 6
    have f7 := bR.frozen 7
    have f8 := bR.frozen 8
    have f9 := bR.frozen 9
    have f10 := bR.frozen 10
    have f11 := bR.frozen 11
    have f12 := bR.frozen 12
    go_wp2_with fail
    have K := set13 bR (.string ⟨#[]⟩) (.int .i64 0) (.int .i64 0) (.int .i64 0) (.int .i64 0) (.string ⟨#[]⟩) (.string ⟨#[]⟩) (.int .i64 0) (.string ⟨#[]⟩) (.slice none 0 0) (.int .u8 0) (.int .i64 0) (.int .i64 5)
    have hq := bel13 hb hgR (.string ⟨#[]⟩) (.int .i64 0) (.int .i64 0) (.int .i64 0) (.int .i64 0) (.string ⟨#[]⟩) (.string ⟨#[]⟩) (.int .i64 0) (.string ⟨#[]⟩) (.slice none 0 0) (.int .u8 0) (.int .i64 0) (.int .i64 5)
    clear z0 z1 z2 z3 z4 z5 z6 z7 z8 z9 z10 z11 z12 f0 f1 f2 f3 f4 f5 f6 f7 f8 f9 f10 f11 f12
    generalize ((((((((((((W4.setCell ⟨gR, 0, none⟩ (.string ⟨#[]⟩)).setCell ⟨gR, 1, none⟩ (.int .i64 0)).setCell ⟨gR, 2, none⟩ (.int .i64 0)).setCell ⟨gR, 3, none⟩ (.int .i64 0)).setCell ⟨gR, 4, none⟩ (.int .i64 0)).setCell ⟨gR, 5, none⟩ (.string ⟨#[]⟩)).setCell ⟨gR, 6, none⟩ (.string ⟨#[]⟩)).setCell ⟨gR, 7, none⟩ (.int .i64 0)).setCell ⟨gR, 8, none⟩ (.string ⟨#[]⟩)).setCell ⟨gR, 9, none⟩ (.slice none 0 0)).setCell ⟨gR, 10, none⟩ (.int .u8 0)).setCell ⟨gR, 11, none⟩ (.int .i64 0)).setCell ⟨gR, 12, none⟩ (.int .i64 5) = WX at K hq ⊢
    obtain ⟨k0, k1, k2, k3, k4, k5, k6, k7, k8, k9, k10, k11, k12⟩ := (cellsG K)
    refine bodyPost_ret (v := .agg #[.string ⟨#[]⟩, .int .i64 0, .int .i64 0, .int .i64 0, .int .i64 0, .string ⟨#[]⟩, .string ⟨#[]⟩, .int .i64 0, .string ⟨#[]⟩, .slice none 0 0, .int .u8 0, .int .i64 0, .int .i64 5]) ?_ ?_ ?_
    · simp [results, Tryz.results26, go_sem, k0, k1, k2, k3, k4, k5, k6, k7, k8, k9, k10, k11, k12]
    · rfl
    · exact ⟨by rw [HV.out]; rfl, hq⟩
  have q2 : ((on : Int) != (sm : Int)) = false := by simp [hs]
  have HR1 : Hid (R = if fldB h 257 8 ≠ magicB false ∧ fldB h 257 8 ≠ magicB true then .bad 3
  else if fstBad (numsL h) ≠ 0 then .bad (fstBad (numsL h))
  else .ok (hdR h)) := Lib.hid (by rw [HR0.out, if_neg (by rintro (e | e); exact e hc; exact e hs)])
  clear HR0 HN hc hs
  refine wp_region_plan (fun W => W.cell? ⟨gS, 2, none⟩ = some (.int .i64 sc) ∧ W.cell? ⟨gS, 1, none⟩ = some (.int .i64 (on : Int))) [(false, 0), (false, 1), (false, 2), (false, 3), (false, 4), (false, 5), (false, 6), (false, 7), (false, 8), (false, 9)] (by kernel_rfl) (by kernel_rfl) (⟨x2, x1⟩) ?_
  simp only [planOps, List.map, List.getD_cons_zero, List.getD_cons_succ]
  iterate 10 ((first | refine plan_quiet_guarded (v := ?_) rfl (fun w' hw' => ?_) ?_ | refine plan_calm_guarded (v := ?_) (tt_of) (fun w' hw' => ?_) ?_); rotate_left; (focus (go_simp <;> (first | with_reducible rfl | (rw [if_neg (by simp [undef])]; try rfl) | (refine (hsum _).mono ?_; rintro e w2 ⟨rfl, rfl⟩; constructor <;> with_reducible rfl)))); simp only [Act.put, List.setIfInBounds_toArray, List.set_cons_zero, List.set_cons_succ])
  refine plan_end ?_
  have bR : Blk W3.drew gR 64 #[.string ⟨#[]⟩, .int .i64 0, .int .i64 0, .int .i64 0, .int .i64 0, .string ⟨#[]⟩, .string ⟨#[]⟩, .int .i64 0, .string ⟨#[]⟩, .slice none 0 0, .int .u8 0, .int .i64 0, .int .i64 0] := bR
  have hb := hb.drew
  clear x1 x2 bS hsum
  generalize W3.drew = W4 at bR hb ⊢
  clear hx1
  obtain ⟨BM, HBM⟩ : ∃ b, Hid ((!decide (fldB h 257 8 = magicB false) && !decide (fldB h 257 8 = magicB true)) = b) := ⟨_, Lib.hid rfl⟩
  have HD : Hid (hdR h = ⟨upZ (fldB h 0 100), upZ (fldB h 345 155), upZ (fldB h 157 100), ocN (fldB h 100 8), ocN (fldB h 108 8), ocN (fldB h 116 8), ocN (fldB h 124 12), ocN (fldB h 136 12), h.getD 156 0, upZ (fldB h 265 32), upZ (fldB h 297 32), decide (fldB h 257 8 = magicB true)⟩) := Lib.hid rfl
  generalize fldB h 257 8 = mg at hx2 HR1 HBM HD
  go_upto_region 5 with fail
  go_cut [33] (fun s33 wx => s33 = .bool BM ∧ W4 = wx)
  case first =>
    clear HR1 HD
    by_cases h0 : mg = magicB false
    · have e0 : ((bs mg).toList == [117, 115, 116, 97, 114, 0, 48, 48]) = true := by rw [beq_bytes, h0]; rfl
      have e0b : ((bs mg).toList != [117, 115, 116, 97, 114, 0, 48, 48]) = false := by simp only [bne, e0]; rfl
      have HV : Hid (BM = false) := Lib.hid (by rw [← HBM.out, h0]; rfl)
      clear h0 HBM
      go_wp2_with fail
      go_meet
      exact ⟨by rw [HV.out], rfl⟩
    have e0 : ((bs mg).toList == [117, 115, 116, 97, 114, 0, 48, 48]) = false := by rw [beq_bytes]; exact decide_eq_false h0
    have e0b : ((bs mg).toList != [117, 115, 116, 97, 114, 0, 48, 48]) = true := by simp only [bne, e0]; rfl
    by_cases h1 : mg = magicB true
    · have e1 : ((bs mg).toList == [117, 115, 116, 97, 114, 32, 32, 0]) = true := by rw [beq_bytes, h1]; rfl
      have e1b : ((bs mg).toList != [117, 115, 116, 97, 114, 32, 32, 0]) = false := by simp only [bne, e1]; rfl
      have HV : Hid (BM = false) := Lib.hid (by rw [← HBM.out, h1]; rfl)
      clear h0 h1 HBM
      go_wp2_with fail
      go_meet
      exact ⟨by rw [HV.out], rfl⟩
    have e1 : ((bs mg).toList == [117, 115, 116, 97, 114, 32, 32, 0]) = false := by rw [beq_bytes]; exact decide_eq_false h1
    have e1b : ((bs mg).toList != [117, 115, 116, 97, 114, 32, 32, 0]) = true := by simp only [bne, e1]; rfl
    have HV : Hid (BM = true) := Lib.hid (by rw [← HBM.out, decide_eq_false h0, decide_eq_false h1]; rfl)
    clear h0 h1 HBM
    go_wp2_with fail
    go_meet
    exact ⟨by rw [HV.out], rfl⟩
  case rest =>
  obtain ⟨rfl, rfl⟩ := hcut
  cases BM with
  | true =>
    have HV : Hid (R = .bad 3) := Lib.hid (by
      have := HBM.out
      simp only [Bool.and_eq_true, Bool.not_eq_true', decide_eq_false_iff_not] at this
      rw [HR1.out, if_pos this])
    clear HR1 HBM HD
    obtain ⟨z0, z1, z2, z3, z4, z5, z6, z7, z8, z9, z10, z11, z12⟩ := (cellsG bR)
    have f0 := bR.frozen 0
    have f1 := bR.frozen 1
    have f2 := bR.frozen 2
    have f3 := bR.frozen 3
    have f4 := bR.frozen 4
    have f5 := bR.frozen 5
    have f6 := bR.frozen 6
    have f7 := bR.frozen 7
    have f8 := bR.frozen 8
    have f9 := bR.frozen 9
    have f10 := bR.frozen 10
    have f11 := bR.frozen 11
    have f12 := bR.frozen 12
    go_wp2_with fail
    have K := set13 bR (.string ⟨#[]⟩) (.int .i64 0) (.int .i64 0) (.int .i64 0) (.int .i64 0) (.string ⟨#[]⟩) (.string ⟨#[]⟩) (.int .i64 0) (.string ⟨#[]⟩) (.slice none 0 0) (.int .u8 0) (.int .i64 0) (.int .i64 3)
    have hq := bel13 hb hgR (.string ⟨#[]⟩) (.int .i64 0) (.int .i64 0) (.int .i64 0) (.int .i64 0) (.string ⟨#[]⟩) (.string ⟨#[]⟩) (.int .i64 0) (.string ⟨#[]⟩) (.slice none 0 0) (.int .u8 0) (.int .i64 0) (.int .i64 3)
    clear z0 z1 z2 z3 z4 z5 z6 z7 z8 z9 z10 z11 z12 f0 f1 f2 f3 f4 f5 f6 f7 f8 f9 f10 f11 f12
    generalize ((((((((((((W4.setCell ⟨gR, 0, none⟩ (.string ⟨#[]⟩)).setCell ⟨gR, 1, none⟩ (.int .i64 0)).setCell ⟨gR, 2, none⟩ (.int .i64 0)).setCell ⟨gR, 3, none⟩ (.int .i64 0)).setCell ⟨gR, 4, none⟩ (.int .i64 0)).setCell ⟨gR, 5, none⟩ (.string ⟨#[]⟩)).setCell ⟨gR, 6, none⟩ (.string ⟨#[]⟩)).setCell ⟨gR, 7, none⟩ (.int .i64 0)).setCell ⟨gR, 8, none⟩ (.string ⟨#[]⟩)).setCell ⟨gR, 9, none⟩ (.slice none 0 0)).setCell ⟨gR, 10, none⟩ (.int .u8 0)).setCell ⟨gR, 11, none⟩ (.int .i64 0)).setCell ⟨gR, 12, none⟩ (.int .i64 3) = WX at K hq ⊢
    obtain ⟨k0, k1, k2, k3, k4, k5, k6, k7, k8, k9, k10, k11, k12⟩ := (cellsG K)
    refine bodyPost_ret (v := .agg #[.string ⟨#[]⟩, .int .i64 0, .int .i64 0, .int .i64 0, .int .i64 0, .string ⟨#[]⟩, .string ⟨#[]⟩, .int .i64 0, .string ⟨#[]⟩, .slice none 0 0, .int .u8 0, .int .i64 0, .int .i64 3]) ?_ ?_ ?_
    · simp [results, Tryz.results26, go_sem, k0, k1, k2, k3, k4, k5, k6, k7, k8, k9, k10, k11, k12]
    · rfl
    · exact ⟨by rw [HV.out]; rfl, hq⟩
  | false =>
  have HMG : Hid (mg = magicB false ∨ mg = magicB true) := Lib.hid (by
    have := HBM.out
    by_cases h0 : mg = magicB false
    · exact .inl h0
    · rw [decide_eq_false h0] at this
      simp at this
      exact .inr this)
  have HR2 : Hid (R = if fstBad (numsL h) ≠ 0 then .bad (fstBad (numsL h)) else .ok (hdR h)) := Lib.hid (by
    rw [HR1.out, if_neg (fun e => HMG.out.elim e.1 e.2)])
  clear HR1 HBM
  go_upto_region 9 with fail
  have hbA := hb.alloc hb.size (.cells atV 3)
  have bA := Blk.new W4 3 atV
  have bR2 := bR.below ((Below.refl _ W4).alloc (Nat.le_refl _) (.cells atV 3)) bR.lt
  have hgA : w.heap.size ≤ W4.heap.size := hb.size
  have hat : atV = #[.int .i64 100, .int .i64 108, .int .i64 116, .int .i64 124, .int .i64 136, .int .i64 148] := rfl
  rw [hat] at hbA bA bR2
  clear hb bR
  generalize W4.alloc (.cells #[.int .i64 100, .int .i64 108, .int .i64 116, .int .i64 124, .int .i64 136, .int .i64 148] 3) = W5 at hbA bA bR2 ⊢
  generalize W4.heap.size = gA at bA hgA ⊢
  rw [← hat] at bA
  clear hat
  have hRA : gR ≠ gA := Blk.apartT bR2 bA (by decide)
  go_wp2_with fail
  go_loopg [5, 7] 5 (fun G s5 s7 wr => ∃ (k : Nat) (l : List Nat), G = 5 - k ∧ k ≤ 5 ∧ s7 = .int .i64 (k : Int) ∧ Hid (l = ((numsL h).take k).map ocN) ∧ l.length ≤ 5 ∧ wr.ownsRow w.heap.size 3 1 s5 l.length (l.map vP) ∧ Blk wr gA 3 atV ∧ Blk wr gR 64 #[.string ⟨#[]⟩, .int .i64 0, .int .i64 0, .int .i64 0, .int .i64 0, .string ⟨#[]⟩, .string ⟨#[]⟩, .int .i64 0, .string ⟨#[]⟩, .slice none 0 0, .int .u8 0, .int .i64 0, .int .i64 0] ∧ Below w.heap.size w wr ∧ s5.ownBlock ≠ some gA ∧ Hid (∀ j, j < k → ∀ x, (numsL h)[j]? = some x → octCode x = 0))
  case atStart => exact ⟨0, [], rfl, by omega, rfl, Lib.hid rfl, by simp, World.ownsRow_nil _ _ _ _, bA, bR2, hbA, (fun e => by cases e), Lib.hid (fun j hj => absurd hj (Nat.not_lt_zero _))⟩
  case round =>
   clear bA bR2 hbA
   obtain ⟨k, l, hG, hk, rfl, HL, hll, ho, bA, bR, hb, hne, HC⟩ := hrel
   subst hG
   by_cases hlt : k < 5
   · have t5 : decide ((k : Int) < 5) = true := decide_eq_true (by omega)
     obtain ⟨a, b, ha, hb', hab, hb148, hnum⟩ := at_facts h k hlt
     obtain ⟨k1, HK1⟩ : ∃ k1, Hid (k1 = k + 1) := ⟨_, Lib.hid rfl⟩
     have wk : IntKind.i64.wrap ((k : Int) + 1) = (k1 : Int) := by rw [i64_in _ (by omega) (by omega), HK1.out]; omega
     have c0 : wr.cell? ⟨gA, k, none⟩ = some (.int .i64 (a : Int)) := by rw [bA.cell k, ha]
     have c1 : wr.cell? ⟨gA, k1, none⟩ = some (.int .i64 (b : Int)) := by rw [HK1.out, bA.cell (k + 1), hb']
     have k6 : (k : Int) < 6 := by omega
     have k16 : (k1 : Int) < 6 := by rw [HK1.out]; omega
     have k0 : (0 : Int) ≤ (k : Int) := by omega
     have k10 : (0 : Int) ≤ (k1 : Int) := by omega
     have m1 : (a : Int) ≤ (b : Int) := by omega
     have m2 : (b : Int) ≤ 512 := by omega
     have m3 : (0 : Int) ≤ (a : Int) := by omega
     have hx : (bs h).extract a b = bs (fldB h a (b - a)) := ext_fld h a b
     have Hnum := Lib.hid hnum
     have hfl : (fldB h a (b - a)).length ≤ 512 := by rw [fldB, List.length_take, List.length_drop]; omega
     clear ha hb' hnum
     generalize fldB h a (b - a) = fs at hx Hnum hfl
     have hO := fun W => runoctal_any (bs fs) W (by rw [bs_size]; omega)
     rw [bs_list] at hO
     have HN : Hid (octCode fs = 0 → octNum fs = (ocN fs : Int)) := Lib.hid fun e => octN_of e
     obtain ⟨oc, Hoc⟩ : ∃ c, Hid (octCode fs = c) := ⟨_, Lib.hid rfl⟩
     rw [Hoc.out] at HN hO
     generalize octNum fs = sn at hO HN
     go_upto_region 12 with fail
     go_cut [8] (fun s8 wx => ∃ g8, s8 = .pointer (some ⟨g8, 0, none⟩) ∧ Blk wx g8 95 #[.slice none 0 0, .int .i64 sn, .int .i64 oc] ∧ Below wr.heap.size wr wx)
     case first =>
       clear HN Hoc HL HC Hnum HD HR2 HMG
       have hbd := (Below.refl wr.heap.size wr).drew
       refine wp_region_tree (fun W => W.cell? ⟨gA, k, none⟩ = some (.int .i64 (a : Int)) ∧ W.cell? ⟨gA, k1, none⟩ = some (.int .i64 (b : Int))) (.q 0 (.q 1 (.q 2 (.q 3 (.q 4 (.q 5 (.q 6 (.q 7 (.q 8 (.q 9 (.q 10 (.f 11 (.l 12 (.l 13 .nil)) 12 (.l 11 (.l 13 .nil)))))))))))))) (by kernel_rfl) (by kernel_rfl) ⟨c0, c1⟩ ?_
       iterate 11 ((refine tree_q (v := ?_) rfl rfl (fun w' hw' => ?_) ?_); rotate_left; (focus (go_simp <;> (first | with_reducible rfl | omega))); simp only [Act.put, List.setIfInBounds_toArray])
       refine tree_f rfl rfl (fun K hK => ?_) rfl rfl (fun K hK => ?_)
       · go_simp
         refine (hO _).mono ?_
         rintro r W6 ⟨rfl, hb6⟩
         have hbc := hbd.trans (hb6.mono hbd.size)
         refine hK _ _ ⟨(Kept.of_below hbc nowhere).cell c0 (fun h => h), (Kept.of_below hbc nowhere).cell c1 (fun h => h)⟩ ?_
         clear hK K
         (try simp only [Act.put, List.setIfInBounds_toArray, List.set_cons_zero, List.set_cons_succ])
         refine tree_l rfl rfl (fun K hK => ?_)
         go_simp
         have bX := Blk.new W6 95 #[.slice none 0 0, .int .i64 0, .int .i64 0]
         have hbe := hbc.alloc hbc.size (.cells #[.slice none 0 0, .int .i64 0, .int .i64 0] 95)
         have hgX : wr.heap.size ≤ W6.heap.size := hbc.size
         generalize W6.alloc (.cells #[.slice none 0 0, .int .i64 0, .int .i64 0] 95) = W7 at bX hbe hK ⊢
         generalize W6.heap.size = gX at bX hgX hK ⊢
         refine hK _ _ ⟨(Kept.of_below hbe nowhere).cell c0 (fun h => h), (Kept.of_below hbe nowhere).cell c1 (fun h => h)⟩ ?_
         clear hK K
         (try simp only [Act.put, List.setIfInBounds_toArray, List.set_cons_zero, List.set_cons_succ])
         have x0 := bX.cell 0
         have x1 := bX.cell 1
         have x2 := bX.cell 2
         simp at x0 x1 x2
         have f0 := bX.frozen 0
         have f1 := bX.frozen 1
         have f2 := bX.frozen 2
         refine tree_l rfl rfl (fun K hK => ?_)
         go_simp
         have K3 := gset3 bX (.slice none 0 0) (.int .i64 sn) (.int .i64 oc)
         have hbf := ((hbe.setCell (p := ⟨gX, 0, none⟩) hgX (.slice none 0 0)).setCell (p := ⟨gX, 1, none⟩) hgX (.int .i64 sn)).setCell (p := ⟨gX, 2, none⟩) hgX (.int .i64 oc)
         refine hK _ _ ⟨(Kept.of_below hbf nowhere).cell c0 (fun h => h), (Kept.of_below hbf nowhere).cell c1 (fun h => h)⟩ ?_
         clear hK K
         (try simp only [Act.put, List.setIfInBounds_toArray, List.set_cons_zero, List.set_cons_succ])
         refine tree_end ?_
         go_wp2_with fail
         go_meet
         exact ⟨gX, rfl, K3, hbf⟩
       · go_simp
         have bX : Blk (wr.alloc (.cells #[.slice none 0 0, .int .i64 0, .int .i64 0] 95)).drew wr.heap.size 95 #[.slice none 0 0, .int .i64 0, .int .i64 0] := Blk.new wr 95 #[.slice none 0 0, .int .i64 0, .int .i64 0]
         have hbc := ((Below.refl wr.heap.size wr).alloc (Nat.le_refl _) (.cells #[.slice none 0 0, .int .i64 0, .int .i64 0] 95)).drew
         generalize (wr.alloc (.cells #[.slice none 0 0, .int .i64 0, .int .i64 0] 95)).drew = W6 at bX hbc hK ⊢
         generalize hgx : wr.heap.size = gX at bX hK ⊢
         have hgX : wr.heap.size ≤ gX := by omega
         clear hgx
         refine hK _ _ ⟨(Kept.of_below hbc nowhere).cell c0 (fun h => h), (Kept.of_below hbc nowhere).cell c1 (fun h => h)⟩ ?_
         clear hK K
         (try simp only [Act.put, List.setIfInBounds_toArray, List.set_cons_zero, List.set_cons_succ])
         refine tree_l rfl rfl (fun K hK => ?_)
         go_simp
         refine (hO _).mono ?_
         rintro r W7 ⟨rfl, hb7⟩
         have hbe := hbc.trans (hb7.mono hbc.size)
         have bX := bX.below hb7 bX.lt
         refine hK _ _ ⟨(Kept.of_below hbe nowhere).cell c0 (fun h => h), (Kept.of_below hbe nowhere).cell c1 (fun h => h)⟩ ?_
         clear hK K
         (try simp only [Act.put, List.setIfInBounds_toArray, List.set_cons_zero, List.set_cons_succ])
         have x0 := bX.cell 0
         have x1 := bX.cell 1
         have x2 := bX.cell 2
         simp at x0 x1 x2
         have f0 := bX.frozen 0
         have f1 := bX.frozen 1
         have f2 := bX.frozen 2
         refine tree_l rfl rfl (fun K hK => ?_)
         go_simp
         have K3 := gset3 bX (.slice none 0 0) (.int .i64 sn) (.int .i64 oc)
         have hbf := ((hbe.setCell (p := ⟨gX, 0, none⟩) hgX (.slice none 0 0)).setCell (p := ⟨gX, 1, none⟩) hgX (.int .i64 sn)).setCell (p := ⟨gX, 2, none⟩) hgX (.int .i64 oc)
         refine hK _ _ ⟨(Kept.of_below hbf nowhere).cell c0 (fun h => h), (Kept.of_below hbf nowhere).cell c1 (fun h => h)⟩ ?_
         clear hK K
         (try simp only [Act.put, List.setIfInBounds_toArray, List.set_cons_zero, List.set_cons_succ])
         refine tree_end ?_
         go_wp2_with fail
         go_meet
         exact ⟨gX, rfl, K3, hbf⟩
     case rest =>
     clear c0 c1
     obtain ⟨g8, rfl, bX, hbx⟩ := hcut
     have ho := own_below ho hbx
     have bA := bA.below hbx bA.lt
     have bR := bR.below hbx bR.lt
     have hb := hb.trans (hbx.mono hb.size)
     have x1 := bX.cell 1
     have x2 := bX.cell 2
     simp at x1 x2
     clear hbx
     by_cases hcz : oc = 0
     rotate_left
     · have q5 : (oc != 0) = true := by simpa using hcz
       have HV : Hid (R = .bad oc) := Lib.hid (by
         have e : fstBad (numsL h) = oc := by rw [fst_at (numsL h) k fs HC.out Hnum.out (by rw [Hoc.out]; exact hcz), Hoc.out]
         rw [HR2.out, e, if_pos hcz])
       clear HR2 HC Hnum Hoc HL HN HD HMG hcz hO
       obtain ⟨z0, z1, z2, z3, z4, z5, z6, z7, z8, z9, z10, z11, z12⟩ := (cellsG bR)
       have f0 := bR.frozen 0
       have f1 := bR.frozen 1
       have f2 := bR.frozen 2
       have f3 := bR.frozen 3
       have f4 := bR.frozen 4
       have f5 := bR.frozen 5
       have f6 := bR.frozen 6
       have f7 := bR.frozen 7
       have f8 := bR.frozen 8
       have f9 := bR.frozen 9
       have f10 := bR.frozen 10
       have f11 := bR.frozen 11
       have f12 := bR.frozen 12
       go_wp2_with fail
       have K := set13 bR (.string ⟨#[]⟩) (.int .i64 0) (.int .i64 0) (.int .i64 0) (.int .i64 0) (.string ⟨#[]⟩) (.string ⟨#[]⟩) (.int .i64 0) (.string ⟨#[]⟩) (.slice none 0 0) (.int .u8 0) (.int .i64 0) (.int .i64 oc)
       have hq := bel13 hb hgR (.string ⟨#[]⟩) (.int .i64 0) (.int .i64 0) (.int .i64 0) (.int .i64 0) (.string ⟨#[]⟩) (.string ⟨#[]⟩) (.int .i64 0) (.string ⟨#[]⟩) (.slice none 0 0) (.int .u8 0) (.int .i64 0) (.int .i64 oc)
       clear z0 z1 z2 z3 z4 z5 z6 z7 z8 z9 z10 z11 z12 f0 f1 f2 f3 f4 f5 f6 f7 f8 f9 f10 f11 f12
       generalize ((((((((((((wc.setCell ⟨gR, 0, none⟩ (.string ⟨#[]⟩)).setCell ⟨gR, 1, none⟩ (.int .i64 0)).setCell ⟨gR, 2, none⟩ (.int .i64 0)).setCell ⟨gR, 3, none⟩ (.int .i64 0)).setCell ⟨gR, 4, none⟩ (.int .i64 0)).setCell ⟨gR, 5, none⟩ (.string ⟨#[]⟩)).setCell ⟨gR, 6, none⟩ (.string ⟨#[]⟩)).setCell ⟨gR, 7, none⟩ (.int .i64 0)).setCell ⟨gR, 8, none⟩ (.string ⟨#[]⟩)).setCell ⟨gR, 9, none⟩ (.slice none 0 0)).setCell ⟨gR, 10, none⟩ (.int .u8 0)).setCell ⟨gR, 11, none⟩ (.int .i64 0)).setCell ⟨gR, 12, none⟩ (.int .i64 oc) = WX at K hq ⊢
       obtain ⟨k0, k1, k2, k3, k4, k5, k6, k7, k8, k9, k10, k11, k12⟩ := (cellsG K)
       refine bodyPost_ret (v := .agg #[.string ⟨#[]⟩, .int .i64 0, .int .i64 0, .int .i64 0, .int .i64 0, .string ⟨#[]⟩, .string ⟨#[]⟩, .int .i64 0, .string ⟨#[]⟩, .slice none 0 0, .int .u8 0, .int .i64 0, .int .i64 oc]) ?_ ?_ ?_
       · simp [results, Tryz.results26, go_sem, k0, k1, k2, k3, k4, k5, k6, k7, k8, k9, k10, k11, k12]
       · rfl
       · exact ⟨by rw [HV.out]; rfl, hq⟩
     have q5 : (oc != 0) = false := by simpa using hcz
     have hsn := HN.out hcz
     subst hsn
     have HL2 : Hid (l ++ [ocN fs] = ((numsL h).take (k + 1)).map ocN) := Lib.hid (by
       have hkl : k < (numsL h).length := hlt
       rw [List.take_succ_eq_append_getElem hkl, List.map_append, ← HL.out]
       have := Hnum.out
       rw [List.getElem?_eq_getElem hkl] at this
       injection this with this
       rw [this]
       rfl)
     have HC2 : Hid (∀ j, j < k + 1 → ∀ x, (numsL h)[j]? = some x → octCode x = 0) := Lib.hid (by
       intro j hj x hx
       rcases Nat.lt_or_ge j k with h1 | h1
       · exact HC.out j h1 x hx
       · obtain rfl : j = k := by omega
         rw [Hnum.out] at hx
         injection hx with hx
         rw [← hx, Hoc.out, hcz])
     clear HC HL Hnum Hoc HN hO
     generalize ocN fs = xn at HL2 x1 bX
     have hbP : Below wc.heap.size wc (wc.alloc (.cells #[.int .i64 (xn : Int)] 3)) := (Below.refl _ wc).alloc (Nat.le_refl _) _
     have ho7 := own_below ho hbP
     have bP := Blk.new wc 3 #[.int .i64 (xn : Int)]
     have bA7 := bA.below hbP bA.lt
     have bR7 := bR.below hbP bR.lt
     have hb7 := hb.trans (hbP.mono hb.size)
     clear hbP
     go_wp2_with (at_builtin; refine wpList_num rfl _ _ rfl rfl ho7 xn _ 1 rfl bP (by omega) hb7.size ?_; intro v' W8 ho8 hk8 hob8; have bA8 := hk8.blk bA7 hne; have bR8 := hk8.blk bR7 (own_notblk ho7 bR7 (by decide)); have hb8 := hb7.trans (hk8.below hb7.size fun k _ h => (ho7.lt k h).1); have hne8 : v'.ownBlock ≠ some gA := (fun e => by rcases hob8 with h1 | h1; exact hne (h1 ▸ e); have := h1 gA e; have := bA7.lt; omega); clear ho ho7 bP bA bA7 bR bR7 hb hb7 x1 x2 bX hob8 hk8)
     go_roundg (5 - (k + 1))
     case measure => omega
     case rel => exact ⟨k + 1, l ++ [xn], rfl, by omega, by rw [HK1.out], HL2, by have := congrArg List.length HL2.out; rw [List.length_map, List.length_take] at this; rw [this]; omega, ho8, bA8, bR8, hb8, hne8, HC2⟩
   have t5 : decide ((k : Int) < 5) = false := decide_eq_false (by omega)
   have HV : Hid (R = .ok (hdR h)) := Lib.hid (by
     rw [HR2.out, if_neg]
     intro e
     exact e (fst_none _ fun j hj => HC.out j (by have : (numsL h).length = 5 := rfl; omega)))
   have HL5 : Hid (l = [(hdR h).mode, (hdR h).uid, (hdR h).gid, (hdR h).size, (hdR h).mtime]) := Lib.hid (by
     rw [HL.out, List.take_of_length_le (by have : (numsL h).length = 5 := rfl; omega)]
     rfl)
   have hbb : ∃ hk : 156 < (bs h).size, (bs h)[156]'hk = (hdR h).kind := ⟨by rw [hsz]; omega, by
     show _ = h.getD 156 0
     rw [List.getD_eq_getElem?_getD, List.getElem?_eq_getElem (by omega)]
     rfl⟩
   have HGN : Hid ((hdR h).gnu = decide (mg = magicB true)) := Lib.hid (by rw [HD.out])
   have hU : ∀ (a b : Nat) (W : World), Calls Tryz.prog 51 #[.string (bs (fldB h a b))] W fun e w' => e = .returned (.string (bs (upZ (fldB h a b)))) ∧ W = w' := fun a b W => by
     have := rupto_any (bs (fldB h a b)) W (by rw [bs_size, fldB, List.length_take, List.length_drop]; omega)
     rw [bs_list] at this
     exact this
   have hU0 : ∀ W, Calls Tryz.prog 51 #[.string (bs (fldB h 0 100))] W fun e w' => e = .returned (.string (bs (hdR h).name)) ∧ W = w' := hU 0 100
   have hU1 : ∀ W, Calls Tryz.prog 51 #[.string (bs (fldB h 157 100))] W fun e w' => e = .returned (.string (bs (hdR h).link)) ∧ W = w' := hU 157 100
   have hU2 : ∀ W, Calls Tryz.prog 51 #[.string (bs (fldB h 265 32))] W fun e w' => e = .returned (.string (bs (hdR h).owner)) ∧ W = w' := hU 265 32
   have hU3 : ∀ W, Calls Tryz.prog 51 #[.string (bs (fldB h 297 32))] W fun e w' => e = .returned (.string (bs (hdR h).group)) ∧ W = w' := hU 297 32
   have hU4 : ∀ W, Calls Tryz.prog 51 #[.string (bs (fldB h 345 155))] W fun e w' => e = .returned (.string (bs (hdR h).pfx)) ∧ W = w' := hU 345 155
   have e0 : (bs h).extract 0 100 = bs (fldB h 0 100) := ext_fld h 0 100
   have e1 : (bs h).extract 157 257 = bs (fldB h 157 100) := ext_fld h 157 257
   have e2 : (bs h).extract 265 297 = bs (fldB h 265 32) := ext_fld h 265 297
   have e3 : (bs h).extract 297 329 = bs (fldB h 297 32) := ext_fld h 297 329
   have e4 : (bs h).extract 345 500 = bs (fldB h 345 155) := ext_fld h 345 500
   have hpl : (hdR h).pfx.length ≤ 155 := Nat.le_trans (upZ_le _) (by rw [fldB, List.length_take]; omega)
   have hnl : (hdR h).name.length ≤ 100 := Nat.le_trans (upZ_le _) (by rw [fldB, List.length_take]; omega)
   clear hU HR2 HC HL HD hx2 bA hne
   generalize hdR h = d at HV HL5 hbb HGN hU0 hU1 hU2 hU3 hU4 hpl hnl
   generalize fldB h 0 100 = z0 at hU0 e0
   generalize fldB h 157 100 = z1 at hU1 e1
   generalize fldB h 265 32 = z2 at hU2 e2
   generalize fldB h 297 32 = z3 at hU3 e3
   generalize fldB h 345 155 = z4 at hU4 e4
   have hl5 : l.length = 5 := by rw [HL5.out]; rfl
   obtain ⟨A5, cn, rfl⟩ := own_form ho
   rw [hl5] at ho ⊢
   obtain ⟨gn, rfl⟩ : ∃ gn, A5 = some ⟨gn, 0, none⟩ := by
     rcases ho.2 with ⟨h0, _⟩ | ⟨g, cap, cur, h, _⟩
     · injection h0 with _ e _; omega
     · injection h with h1; exact ⟨g, h1⟩
   rw [HL5.out] at ho
   have n0 : wr.cell? ⟨gn, 0, none⟩ = some (.int .i64 (d.mode : Int)) := ho.cellAt 0 (by omega)
   have n1 : wr.cell? ⟨gn, 1, none⟩ = some (.int .i64 (d.uid : Int)) := ho.cellAt 1 (by omega)
   have n2 : wr.cell? ⟨gn, 2, none⟩ = some (.int .i64 (d.gid : Int)) := ho.cellAt 2 (by omega)
   have n3 : wr.cell? ⟨gn, 3, none⟩ = some (.int .i64 (d.size : Int)) := ho.cellAt 3 (by omega)
   have n4 : wr.cell? ⟨gn, 4, none⟩ = some (.int .i64 (d.mtime : Int)) := ho.cellAt 4 (by omega)
   go_upto_region 16 with fail
   refine wp_region_plan (fun W => W.cell? ⟨gn, 0, none⟩ = some (.int .i64 (d.mode : Int)) ∧ W.cell? ⟨gn, 1, none⟩ = some (.int .i64 (d.uid : Int)) ∧ W.cell? ⟨gn, 2, none⟩ = some (.int .i64 (d.gid : Int)) ∧ W.cell? ⟨gn, 4, none⟩ = some (.int .i64 (d.mtime : Int))) [(false, 0), (false, 1), (false, 2), (false, 3), (false, 4), (false, 5), (false, 6), (false, 7), (false, 8), (false, 9), (false, 10), (false, 11), (false, 12), (false, 13), (false, 14), (false, 15), (false, 16), (false, 17), (false, 18), (false, 19), (false, 20), (false, 21), (false, 22), (false, 23), (false, 24), (true, 25), (true, 26)] (by kernel_rfl) (by kernel_rfl) (⟨n0, n1, n2, n4⟩) ?_
   simp only [planOps, List.map, List.getD_cons_zero, List.getD_cons_succ]
   iterate 25 ((first | refine plan_quiet (v := ?_) rfl rfl (fun w' hw' => ?_) ?_ | refine plan_calm (v := ?_) (tt_of) rfl (fun w' hw' => ?_) ?_); rotate_left; (focus (go_simp <;> (first | with_reducible rfl | (rw [if_neg (by simp [undef])]; try rfl) | (with_reducible refine (hU0 _).mono ?_; rintro e w2 ⟨rfl, rfl⟩; constructor <;> with_reducible rfl) | (with_reducible refine (hU1 _).mono ?_; rintro e w2 ⟨rfl, rfl⟩; constructor <;> with_reducible rfl) | (with_reducible refine (hU2 _).mono ?_; rintro e w2 ⟨rfl, rfl⟩; constructor <;> with_reducible rfl) | (with_reducible refine (hU3 _).mono ?_; rintro e w2 ⟨rfl, rfl⟩; constructor <;> with_reducible rfl)))); simp only [Act.put, List.setIfInBounds_toArray, List.set_cons_zero, List.set_cons_succ])
   refine plan_loud rfl (fun K hK => ?_)
   go_simp
   have bE : Blk (wr.alloc (.cells #[.string ⟨#[]⟩, .int .i64 0, .int .i64 0, .int .i64 0, .int .i64 0, .string ⟨#[]⟩, .string ⟨#[]⟩, .int .i64 0, .string ⟨#[]⟩, .slice none 0 0] tE)).drew wr.heap.size tE #[.string ⟨#[]⟩, .int .i64 0, .int .i64 0, .int .i64 0, .int .i64 0, .string ⟨#[]⟩, .string ⟨#[]⟩, .int .i64 0, .string ⟨#[]⟩, .slice none 0 0] := Blk.new wr tE #[.string ⟨#[]⟩, .int .i64 0, .int .i64 0, .int .i64 0, .int .i64 0, .string ⟨#[]⟩, .string ⟨#[]⟩, .int .i64 0, .string ⟨#[]⟩, .slice none 0 0]
   have hbx := ((Below.refl wr.heap.size wr).alloc (Nat.le_refl _) (.cells #[.string ⟨#[]⟩, .int .i64 0, .int .i64 0, .int .i64 0, .int .i64 0, .string ⟨#[]⟩, .string ⟨#[]⟩, .int .i64 0, .string ⟨#[]⟩, .slice none 0 0] tE)).drew
   have bR6 := bR.below hbx bR.lt
   have hb6 := hb.trans (hbx.mono hb.size)
   have hER : gR ≠ wr.heap.size := fun e => by have := bR.lt; omega
   have hgE : w.heap.size ≤ wr.heap.size := hb.size
   have hkx := Kept.of_below hbx nowhere
   have m0 := hkx.cell n0 (fun h => h)
   have m1 := hkx.cell n1 (fun h => h)
   have m2 := hkx.cell n2 (fun h => h)
   have m3 := hkx.cell n3 (fun h => h)
   have m4 := hkx.cell n4 (fun h => h)
   have hgn : gn ≠ wr.heap.size := fun e => by
     have := (ho.lt gn rfl).2
     omega
   clear hbx hkx bR hb ho n0 n1 n2 n3 n4
   generalize (wr.alloc (.cells #[.string ⟨#[]⟩, .int .i64 0, .int .i64 0, .int .i64 0, .int .i64 0, .string ⟨#[]⟩, .string ⟨#[]⟩, .int .i64 0, .string ⟨#[]⟩, .slice none 0 0] tE)).drew = W6 at bE bR6 hb6 m0 m1 m2 m3 m4 hK ⊢
   generalize wr.heap.size = gE at bE hER hgE hgn hK ⊢
   refine hK _ _ (⟨m0, m1, m2, m4⟩) ?_
   clear hK K
   (try simp only [Act.put, List.setIfInBounds_toArray, List.set_cons_zero, List.set_cons_succ])
   refine plan_loud rfl (fun K hK => ?_)
   obtain ⟨c0, c1, c2, c3, c4, c5, c6, c7, c8, c9⟩ := bE.cells10
   have f0 := bE.frozen 0
   have f1 := bE.frozen 1
   have f2 := bE.frozen 2
   have f3 := bE.frozen 3
   have f4 := bE.frozen 4
   have f5 := bE.frozen 5
   have f6 := bE.frozen 6
   have f7 := bE.frozen 7
   have f8 := bE.frozen 8
   have f9 := bE.frozen 9
   go_simp
   have KE := entT_set bE (.string (bs d.name)) (.int .i64 0) (.int .i64 (d.mode : Int)) (.int .i64 (d.uid : Int)) (.int .i64 (d.gid : Int)) (.string (bs d.owner)) (.string (bs d.group)) (.int .i64 (d.mtime : Int)) (.string (bs d.link)) (.slice none 0 0)
   have hb7 := entT_bel hb6 hgE (.string (bs d.name)) (.int .i64 0) (.int .i64 (d.mode : Int)) (.int .i64 (d.uid : Int)) (.int .i64 (d.gid : Int)) (.string (bs d.owner)) (.string (bs d.group)) (.int .i64 (d.mtime : Int)) (.string (bs d.link)) (.slice none 0 0)
   have hk7 : Kept (fun k => k = gE) W6 ((((((((((W6.setCell ⟨gE, 0, none⟩ (.string (bs d.name))).setCell ⟨gE, 1, none⟩ (.int .i64 0)).setCell ⟨gE, 2, none⟩ (.int .i64 (d.mode : Int))).setCell ⟨gE, 3, none⟩ (.int .i64 (d.uid : Int))).setCell ⟨gE, 4, none⟩ (.int .i64 (d.gid : Int))).setCell ⟨gE, 5, none⟩ (.string (bs d.owner))).setCell ⟨gE, 6, none⟩ (.string (bs d.group))).setCell ⟨gE, 7, none⟩ (.int .i64 (d.mtime : Int))).setCell ⟨gE, 8, none⟩ (.string (bs d.link))).setCell ⟨gE, 9, none⟩ (.slice none 0 0)) := (((((((((((Kept.refl (fun k => k = gE) W6).setCell (p := ⟨gE, 0, none⟩) (.string (bs d.name)) fun _ => rfl).setCell (p := ⟨gE, 1, none⟩) (.int .i64 0) fun _ => rfl).setCell (p := ⟨gE, 2, none⟩) (.int .i64 (d.mode : Int)) fun _ => rfl).setCell (p := ⟨gE, 3, none⟩) (.int .i64 (d.uid : Int)) fun _ => rfl).setCell (p := ⟨gE, 4, none⟩) (.int .i64 (d.gid : Int)) fun _ => rfl).setCell (p := ⟨gE, 5, none⟩) (.string (bs d.owner)) fun _ => rfl).setCell (p := ⟨gE, 6, none⟩) (.string (bs d.group)) fun _ => rfl).setCell (p := ⟨gE, 7, none⟩) (.int .i64 (d.mtime : Int)) fun _ => rfl).setCell (p := ⟨gE, 8, none⟩) (.string (bs d.link)) fun _ => rfl).setCell (p := ⟨gE, 9, none⟩) (.slice none 0 0) fun _ => rfl)
   have bR7 := hk7.blk bR6 hER
   have m0 := hk7.cell m0 hgn
   have m1 := hk7.cell m1 hgn
   have m2 := hk7.cell m2 hgn
   have m3 := hk7.cell m3 hgn
   have m4 := hk7.cell m4 hgn
   clear bE hb6 hk7 bR6 c0 c1 c2 c3 c4 c5 c6 c7 c8 c9 f0 f1 f2 f3 f4 f5 f6 f7 f8 f9
   generalize ((((((((((W6.setCell ⟨gE, 0, none⟩ (.string (bs d.name))).setCell ⟨gE, 1, none⟩ (.int .i64 0)).setCell ⟨gE, 2, none⟩ (.int .i64 (d.mode : Int))).setCell ⟨gE, 3, none⟩ (.int .i64 (d.uid : Int))).setCell ⟨gE, 4, none⟩ (.int .i64 (d.gid : Int))).setCell ⟨gE, 5, none⟩ (.string (bs d.owner))).setCell ⟨gE, 6, none⟩ (.string (bs d.group))).setCell ⟨gE, 7, none⟩ (.int .i64 (d.mtime : Int))).setCell ⟨gE, 8, none⟩ (.string (bs d.link))).setCell ⟨gE, 9, none⟩ (.slice none 0 0)) = W7 at KE hb7 bR7 m0 m1 m2 m3 m4 hK ⊢
   refine hK _ _ (⟨m0, m1, m2, m4⟩) ?_
   clear hK K
   (try simp only [Act.put, List.setIfInBounds_toArray, List.set_cons_zero, List.set_cons_succ])
   refine plan_end ?_
   clear m0 m1 m2 m4 hU0 hU1 hU2 hU3 e0 e1 e2 e3
   obtain ⟨PB, HPB⟩ : ∃ b, Hid ((decide (mg = magicB false) && !decide (d.pfx = [])) = b) := ⟨_, Lib.hid rfl⟩
   have HNR : Hid (nameR d = if PB = true then d.pfx ++ [47] ++ d.name else d.name) := Lib.hid (by
     rw [← HPB.out, nameR, HGN.out]
     have hx : ¬ magicB false = magicB true := by decide
     rcases HMG.out with e | e
     · rw [e, decide_eq_true (rfl : magicB false = magicB false), decide_eq_false hx]
       by_cases hp : d.pfx = []
       · simp [hp]
       · simp [hp]
     · rw [e, decide_eq_true (rfl : magicB true = magicB true), decide_eq_false (fun q => hx q.symm)]
       simp)
   go_upto_region 18 with (go_at_call 51; refine (hU4 _).mono ?_; clear hU4; rintro r W8 ⟨rfl, rfl⟩)
   clear e4
   go_cut [96] (fun s96 wx => s96 = .bool PB ∧ W7 = wx)
   case first =>
     clear HV HNR HGN
     by_cases h0 : mg = magicB false
     · have e0 : ((bs mg).toList == [117, 115, 116, 97, 114, 0, 48, 48]) = true := by rw [beq_bytes, h0]; rfl
       by_cases hp : d.pfx = []
       · have hemp2 : (bs d.pfx).toList = [] := by rw [hp]; simp [bs]
         have hemp : (bs d.pfx).toList.isEmpty = true := by rw [hemp2]; rfl
         have HV : Hid (PB = false) := Lib.hid (by rw [← HPB.out, decide_eq_true h0, decide_eq_true hp]; rfl)
         clear h0 hp HPB HMG
         go_wp2_with fail
         go_meet
         exact ⟨by rw [HV.out], rfl⟩
       · have hne2 : ¬ (bs d.pfx).toList = [] := toList_ne (bs d.pfx) (by rw [bs_size]; exact List.length_pos_iff.2 hp)
         have hne : (bs d.pfx).toList.isEmpty = false := by simpa using hne2
         have HV : Hid (PB = true) := Lib.hid (by rw [← HPB.out, decide_eq_true h0, decide_eq_false hp]; rfl)
         clear h0 hp HPB HMG
         go_wp2_with fail
         go_meet
         exact ⟨by rw [HV.out], rfl⟩
     · have e0 : ((bs mg).toList == [117, 115, 116, 97, 114, 0, 48, 48]) = false := by rw [beq_bytes]; exact decide_eq_false h0
       have HV : Hid (PB = false) := Lib.hid (by rw [← HPB.out, decide_eq_false h0]; rfl)
       clear h0 HPB HMG
       go_wp2_with fail
       go_meet
       exact ⟨by rw [HV.out], rfl⟩
   case rest =>
   obtain ⟨rfl, rfl⟩ := hcut
   clear HPB HMG HGN
   have c0 := KE.cell 0
   have f0 := KE.frozen 0
   simp at c0
   go_upto_if 96 with fail
   go_cut [] (fun wx => Blk wx gE tE #[.string (bs (nameR d)), .int .i64 0, .int .i64 (d.mode : Int), .int .i64 (d.uid : Int), .int .i64 (d.gid : Int), .string (bs d.owner), .string (bs d.group), .int .i64 (d.mtime : Int), .string (bs d.link), .slice none 0 0] ∧ wx.cell? ⟨gn, 3, none⟩ = some (.int .i64 (d.size : Int)) ∧ Blk wx gR 64 #[.string ⟨#[]⟩, .int .i64 0, .int .i64 0, .int .i64 0, .int .i64 0, .string ⟨#[]⟩, .string ⟨#[]⟩, .int .i64 0, .string ⟨#[]⟩, .slice none 0 0, .int .u8 0, .int .i64 0, .int .i64 0] ∧ Below w.heap.size w wx)
   case first =>
     clear HV
     cases PB with
     | true =>
       have hap1 : bs d.pfx ++ (⟨#[47]⟩ : ByteArray) = bs (d.pfx ++ [47]) := bs_app d.pfx [47]
       have hap2 : bs (d.pfx ++ [47]) ++ bs d.name = bs (nameR d) := by rw [bs_app, HNR.out]; rfl
       have hkE : Kept (fun k => k = gE) W7 (W7.setCell ⟨gE, 0, none⟩ (.string (bs (nameR d)))) := (Kept.refl (fun k => k = gE) W7).setCell (p := ⟨gE, 0, none⟩) _ fun _ => rfl
       have HKE := Lib.hid hkE
       have HNE : Hid (Blk (W7.setCell ⟨gE, 0, none⟩ (.string (bs (nameR d)))) gE tE #[.string (bs (nameR d)), .int .i64 0, .int .i64 (d.mode : Int), .int .i64 (d.uid : Int), .int .i64 (d.gid : Int), .string (bs d.owner), .string (bs d.group), .int .i64 (d.mtime : Int), .string (bs d.link), .slice none 0 0]) := Lib.hid (by
         have := KE.set (u := .string (bs (nameR d))) 0
         simpa using this)
       have zs1 : (bs d.pfx).size ≤ 155 := by rw [bs_size]; exact hpl
       have zs2 : (bs d.name).size ≤ 100 := by rw [bs_size]; exact hnl
       have zs3 : (bs (d.pfx ++ [47])).size ≤ 156 := by rw [bs_size, List.length_append]; simp; omega
       clear HNR hkE
       go_wp2_with fail
       go_meet
       exact ⟨HNE.out, HKE.out.cell m3 hgn, HKE.out.blk bR7 hER, hb7.setCell (p := ⟨gE, 0, none⟩) hgE _⟩
     | false =>
       have HN2 : Hid (nameR d = d.name) := Lib.hid (by rw [HNR.out]; rfl)
       clear HNR
       go_wp2_with fail
       go_meet
       exact ⟨by rw [HN2.out]; exact KE, m3, bR7, hb7⟩
   case rest =>
   clear KE c0 f0 m3 bR7 hb7 HNR
   obtain ⟨KE, m3, bR7, hb7⟩ := hcut
   obtain ⟨hk156, hbb⟩ := hbb
   have i1 : (156 : Int) < 512 := by omega
   obtain ⟨tv, HTV⟩ : ∃ u, Hid (typR d.kind = u) := ⟨_, Lib.hid rfl⟩
   go_upto_if 106 with fail
   go_cut [11] (fun s11 wx => s11 = .int .u8 (tv.toNat : Int) ∧ wc = wx)
   case first =>
     clear HV
     by_cases hk0 : d.kind = 0
     · have q0 : ((d.kind.toNat : Int) == 0) = true := by rw [hk0]; rfl
       have q0b : (d.kind.toNat : Int) = 0 := by rw [hk0]; rfl
       have HV : Hid (tv = 48) := Lib.hid (by rw [← HTV.out, typR, if_pos hk0])
       have HKK := Lib.hid hk0
       clear hk0 HTV
       go_wp2_with fail
       go_meet
       exact ⟨by rw [HV.out]; rfl, rfl⟩
     · have q0 : ((d.kind.toNat : Int) == 0) = false := by rw [show (0 : Int) = (((0 : UInt8).toNat : Nat) : Int) from rfl, beq_byteT]; exact decide_eq_false hk0
       have HV : Hid (tv = d.kind) := Lib.hid (by rw [← HTV.out, typR, if_neg hk0])
       clear hk0 HTV
       go_wp2_with fail
       go_meet
       exact ⟨by rw [HV.out], rfl⟩
   case rest =>
   obtain ⟨rfl, rfl⟩ := hcut
   obtain ⟨c0, c1, c2, c3, c4, c5, c6, c7, c8, c9⟩ := KE.cells10
   go_upto_region 23 with fail
   refine wp_region_plan (fun W => W.cell? ⟨gn, 3, none⟩ = some (.int .i64 (d.size : Int)) ∧ W.cell? ⟨gE, 0, none⟩ = some (.string (bs (nameR d))) ∧ W.cell? ⟨gE, 1, none⟩ = some (.int .i64 0) ∧ W.cell? ⟨gE, 2, none⟩ = some (.int .i64 (d.mode : Int)) ∧ W.cell? ⟨gE, 3, none⟩ = some (.int .i64 (d.uid : Int)) ∧ W.cell? ⟨gE, 4, none⟩ = some (.int .i64 (d.gid : Int)) ∧ W.cell? ⟨gE, 5, none⟩ = some (.string (bs d.owner)) ∧ W.cell? ⟨gE, 6, none⟩ = some (.string (bs d.group)) ∧ W.cell? ⟨gE, 7, none⟩ = some (.int .i64 (d.mtime : Int)) ∧ W.cell? ⟨gE, 8, none⟩ = some (.string (bs d.link)) ∧ W.cell? ⟨gE, 9, none⟩ = some (.slice none 0 0)) [(false, 0), (false, 1), (false, 2), (false, 3), (false, 4), (false, 5), (true, 6)] (by kernel_rfl) (by kernel_rfl) (⟨m3, c0, c1, c2, c3, c4, c5, c6, c7, c8, c9⟩) ?_
   simp only [planOps, List.map, List.getD_cons_zero, List.getD_cons_succ]
   iterate 6 ((first | refine plan_quiet (v := ?_) rfl rfl (fun w' hw' => ?_) ?_ | refine plan_calm (v := ?_) (tt_of) rfl (fun w' hw' => ?_) ?_); rotate_left; (focus (go_simp <;> (first | with_reducible rfl | (rw [if_neg (by simp [undef])]; try rfl) | omega))); simp only [Act.put, List.setIfInBounds_toArray, List.set_cons_zero, List.set_cons_succ])
   refine plan_last rfl (by kernel_rfl) (by kernel_rfl) (fun K hK => ?_)
   have bR8 : Blk wc.drew gR 64 #[.string ⟨#[]⟩, .int .i64 0, .int .i64 0, .int .i64 0, .int .i64 0, .string ⟨#[]⟩, .string ⟨#[]⟩, .int .i64 0, .string ⟨#[]⟩, .slice none 0 0, .int .u8 0, .int .i64 0, .int .i64 0] := bR7
   have hb8 := hb7.drew
   clear bR7 hb7 KE c0 c1 c2 c3 c4 c5 c6 c7 c8 c9 m3
   generalize wc.drew = W9 at bR8 hb8 hK ⊢
   obtain ⟨z0, z1, z2, z3, z4, z5, z6, z7, z8, z9, z10, z11, z12⟩ := (cellsG bR8)
   have f0 := bR8.frozen 0
   have f1 := bR8.frozen 1
   have f2 := bR8.frozen 2
   have f3 := bR8.frozen 3
   have f4 := bR8.frozen 4
   have f5 := bR8.frozen 5
   have f6 := bR8.frozen 6
   have f7 := bR8.frozen 7
   have f8 := bR8.frozen 8
   have f9 := bR8.frozen 9
   have f10 := bR8.frozen 10
   have f11 := bR8.frozen 11
   have f12 := bR8.frozen 12
   go_simp
   refine hK _ _ (trivial) ?_
   clear hK K
   (try simp only [Act.put, List.setIfInBounds_toArray, List.set_cons_zero, List.set_cons_succ])
   refine plan_end ?_
   have K := set13 bR8 (.string (bs (nameR d))) (.int .i64 0) (.int .i64 (d.mode : Int)) (.int .i64 (d.uid : Int)) (.int .i64 (d.gid : Int)) (.string (bs d.owner)) (.string (bs d.group)) (.int .i64 (d.mtime : Int)) (.string (bs d.link)) (.slice none 0 0) (.int .u8 (tv.toNat : Int)) (.int .i64 (d.size : Int)) (.int .i64 0)
   have hq := bel13 hb8 hgR (.string (bs (nameR d))) (.int .i64 0) (.int .i64 (d.mode : Int)) (.int .i64 (d.uid : Int)) (.int .i64 (d.gid : Int)) (.string (bs d.owner)) (.string (bs d.group)) (.int .i64 (d.mtime : Int)) (.string (bs d.link)) (.slice none 0 0) (.int .u8 (tv.toNat : Int)) (.int .i64 (d.size : Int)) (.int .i64 0)
   clear z0 z1 z2 z3 z4 z5 z6 z7 z8 z9 z10 z11 z12 bR8 hb8
   go_wp2_with fail
   generalize (((((((((((((W9.setCell ⟨gR, 0, none⟩ (.string (bs (nameR d)))).setCell ⟨gR, 1, none⟩ (.int .i64 0)).setCell ⟨gR, 2, none⟩ (.int .i64 (d.mode : Int))).setCell ⟨gR, 3, none⟩ (.int .i64 (d.uid : Int))).setCell ⟨gR, 4, none⟩ (.int .i64 (d.gid : Int))).setCell ⟨gR, 5, none⟩ (.string (bs d.owner))).setCell ⟨gR, 6, none⟩ (.string (bs d.group))).setCell ⟨gR, 7, none⟩ (.int .i64 (d.mtime : Int))).setCell ⟨gR, 8, none⟩ (.string (bs d.link))).setCell ⟨gR, 9, none⟩ (.slice none 0 0)).setCell ⟨gR, 10, none⟩ (.int .u8 (tv.toNat : Int))).setCell ⟨gR, 11, none⟩ (.int .i64 (d.size : Int))).setCell ⟨gR, 12, none⟩ (.int .i64 0)) = WX at K hq ⊢
   obtain ⟨k0, k1, k2, k3, k4, k5, k6, k7, k8, k9, k10, k11, k12⟩ := (cellsG K)
   refine bodyPost_ret (v := .agg #[.string (bs (nameR d)), .int .i64 0, .int .i64 (d.mode : Int), .int .i64 (d.uid : Int), .int .i64 (d.gid : Int), .string (bs d.owner), .string (bs d.group), .int .i64 (d.mtime : Int), .string (bs d.link), .slice none 0 0, .int .u8 (tv.toNat : Int), .int .i64 (d.size : Int), .int .i64 0]) ?_ ?_ ?_
   · simp [results, Tryz.results26, go_sem, k0, k1, k2, k3, k4, k5, k6, k7, k8, k9, k10, k11, k12]
   · rfl
   · exact ⟨by rw [HV.out, ← HTV.out]; rfl, hq⟩
end Go.Proofs.YtpheifdpjcppdaaGreatDoor

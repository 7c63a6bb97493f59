/- The walks of ar.Read at the one archive that awake reads, and awake. -/
import Derived.Test.YtolknddegfcmpaaDoorArT
namespace Go.Proofs.YtolknddegfcmpaaDoor
open Go.RowKit
def awF0 : List UInt8 := [97, 32, 32, 32, 32, 32, 32, 32, 32, 32, 32, 32, 32, 32, 32, 32]
def awF1 : List UInt8 := [49, 32, 32, 32, 32, 32, 32, 32, 32, 32, 32, 32]
def awF2 : List UInt8 := [48, 32, 32, 32, 32, 32]
def awF5 : List UInt8 := [49, 32, 32, 32, 32, 32, 32, 32, 32, 32]
theorem aw_x0 : (bs awH).extract 0 16 = bs awF0 := by decide +kernel
theorem aw_x1 : (bs awH).extract 16 28 = bs awF1 := by decide +kernel
theorem aw_x2 : (bs awH).extract 28 34 = bs awF2 := by decide +kernel
theorem aw_x3 : (bs awH).extract 34 40 = bs awF2 := by decide +kernel
theorem aw_x4 : (bs awH).extract 40 48 = bs awF4 := by decide +kernel
theorem aw_x5 : (bs awH).extract 48 58 = bs awF5 := by decide +kernel
theorem aw_x6 : (bs awH).extract 58 60 = ⟨#[96, 10]⟩ := by decide +kernel
theorem aw_sz : (bs awH).size = 60 := by decide +kernel
theorem aw_t0 (w : World) : Calls Tryd.prog 89 #[.string (bs awF0), .string ⟨#[32]⟩] w fun e w' => e = .returned (.string ⟨#[97]⟩) ∧ w = w' :=
  (Tryd.strings_TrimRight_one (bs awF0) 32 (by decide) w (by decide)).mono fun e w' h => ⟨by rw [h.1, bs_list, show Lib.trimRightB awF0 32 = [97] by decide +kernel], h.2.symm⟩
theorem info_item : (Tryd.prog.info? 46).map (fun i => (i.zero, i.size, i.bytes)) = some (some (.agg #[.string ⟨#[]⟩, .int .i64 0, .int .i64 0, .int .i64 0, .int .i64 0, .slice none 0 0]), 6, 72) := by kernel_rfl
/-- append(nil, an item). -/
theorem wp_first_item {o : Oper} {a : Act} {K : Act → World → Prop} {Q : Exit → Act → World → Prop} (s x : Operand) {w : World}
    (ho : o.op = .call { callee := .builtin .append, args := #[s, x], argTypes := #[41, 41] }) (hs : a.eval s = .slice none 0 0) {g : Nat} {cs : List Value} (hx : a.eval x = .slice (some ⟨g, 0, none⟩) 1 1)
    (hb : Blk w g 46 cs.toArray) (hl : cs.length = 6) (h1 : ∀ u ∈ cs, u.oneCell' = true)
    (hK : ∀ g' c' w', w'.ownsRow w.heap.size 46 6 (.slice (some ⟨g', 0, none⟩) 1 c') 1 cs → Below w.heap.size w w' → K (a.put o.dst (.slice (some ⟨g', 0, none⟩) 1 c')) w') : o.wp Tryd.prog a w K Q := by
  obtain ⟨i0, hi, hz0, hz1, hz2⟩ := info_parts info_item
  have ht : Tryd.prog.underlying 41 = some (.slice 46) := Tryd.underlying41
  have hnews : ∀ j u, cs[j]? = some u → w.cell? ((⟨g, 0, none⟩ : Addr).add j) = some u := fun j u hu => by
    rw [Addr.add_lit, Nat.zero_add, hb.cell, List.getElem?_toArray]
    exact hu
  obtain ⟨v', w', hr, h2, h3, h4⟩ := run_append_own (P := Tryd.prog) w w.heap.size 41 o.type 46 i0 _ 6 72 ht hi hz0 hz1 hz2 rfl (by decide) (.slice none 0 0) 0 [] (World.ownsRow_nil _ _ _ _) ⟨g, 0, none⟩ 1 1 cs (by omega) hnews h1 (by unfold maxLen; omega) (by omega) (Nat.le_refl _)
  unfold Oper.wp execOp
  simp only [ho, resolve, invoke, builtin, Sem.run_bind, Sem.run_pure, Result.andThen_ok, List.map_toArray, List.map_cons, List.map_nil, hs, hx, hr]
  have hne : v' ≠ .slice none 0 0 := fun e => by have := (h4.1 e).2; omega
  rcases h2.2 with ⟨e, _⟩ | ⟨g', cap, cur, e, rest⟩
  · exact absurd e hne
  · subst e
    exact hK g' cap w' ⟨h2.1, .inr ⟨g', cap, cur, rfl, rest⟩⟩ ((Below.refl _ _).grown h3 (Nat.le_refl _) (fun k hk => by simp [Value.ownBlock] at hk))
set_option maxRecDepth 20000 in
set_option maxHeartbeats 8000000 in
theorem item_aw (gr : Nat) (bv : Value) (W : World) (hB : Blk W gr 108 #[bv, .slice none 0 0, .slice none 0 0, .bool false]) (A : Option Addr) (c : Nat) (hd : Sl 1 Rbyte nowhere W (.slice A 1 c) [120]) :
    Calls Tryd.prog 90 #[.pointer (some ⟨gr, 0, none⟩), .string (bs awH), .slice A 1 c] W fun e w' => e = .returned (.int .i64 0) ∧ ∃ gi ci, Blk w' gr 108 #[bv, .slice (some ⟨gi, 0, none⟩) 1 ci, .slice none 0 0, .bool false] ∧ w'.cell? ⟨gi, 0, none⟩ = some (.string ⟨#[97]⟩) ∧ w'.cell? ⟨gi, 4, none⟩ = some (.int .i64 64) ∧ Kept (fun k => k = gr) W w' := by
  have x0 := aw_x0
  have x1 := aw_x1
  have x2 := aw_x2
  have x3 := aw_x3
  have x4 := aw_x4
  have xs := aw_sz
  have hn1 := fun W => number_at awF1 [49] 1 W (by decide +kernel) (by decide) (by decide) (by decide +kernel) (by decide +kernel)
  have hn2 := fun W => number_at awF2 [48] 0 W (by decide +kernel) (by decide) (by decide) (by decide +kernel) (by decide +kernel)
  have ho := octal_aw
  have ht := aw_t0
  have hnm := name_aw gr A 1 c
  have hck : ∀ W, Calls Tryd.prog 21 #[.agg #[.string ⟨#[97]⟩, .int .i64 1, .int .i64 0, .int .i64 0, .int .i64 64, .slice A 1 c]] W fun r w' => r = .returned (.int .i64 0) ∧ Below W.heap.size W w' := fun W => by
    have := icheck_any awI A c W (by decide)
    rw [show chkI awI = 0 by decide +kernel] at this
    exact this
  go_enter Tryd.func90, Tryd.ntmps90
  go_upto_region 7 with (first
    | (go_at_call 88; with_reducible refine (hn1 _).mono ?_; rintro r W1 ⟨rfl, rfl⟩)
    | (go_at_call 88; with_reducible refine (hn2 _).mono ?_; rintro r W1 ⟨rfl, rfl⟩)
    | (go_at_call 117; refine (ho _).mono ?_; rintro r W2 ⟨rfl, hb2⟩))
  go_upto_region 11 with (first
    | (go_at_call 89; refine (ht _).mono ?_; rintro r W3 ⟨rfl, rfl⟩)
    | (go_at_call 118; refine (hnm _).mono ?_; rintro r W3 ⟨rfl, rfl⟩))
  have bE := Blk.new W2 46 #[.string ⟨#[97]⟩, .int .i64 1, .int .i64 0, .int .i64 0, .int .i64 64, .slice A 1 c]
  have hq : Below W.heap.size W (W2.alloc (.cells #[.string ⟨#[97]⟩, .int .i64 1, .int .i64 0, .int .i64 0, .int .i64 64, .slice A 1 c] 46)) := hb2.alloc hb2.size _
  have hgE : W.heap.size ≤ W2.heap.size := hb2.size
  clear hb2 hn1 hn2 ho ht hnm x0 x1 x2 x3 x4 xs
  generalize W2.alloc (.cells #[.string ⟨#[97]⟩, .int .i64 1, .int .i64 0, .int .i64 0, .int .i64 64, .slice A 1 c] 46) = W3 at bE hq ⊢
  generalize W2.heap.size = gE at bE hgE ⊢
  have d0 := bE.cell 0
  have d1 := bE.cell 1
  have d2 := bE.cell 2
  have d3 := bE.cell 3
  have d4 := bE.cell 4
  have d5 := bE.cell 5
  simp at d0 d1 d2 d3 d4 d5
  go_upto_region 14 with (go_at_call 21; refine (hck _).mono ?_; rintro r W4 ⟨rfl, hb4⟩)
  have bE4 := bE.below hb4 bE.lt
  have hq4 := hq.trans (hb4.mono hq.size)
  have hcl := bclone_any [120] (.slice A 1 c) _ W4 (Below.sl good_byte hq4 hd) (by decide)
  clear bE hb4 hq hck d0 d1 d2 d3 d4 d5
  go_upto_region 15 with (go_at_call 81; refine hcl.mono ?_; rintro r W5 ⟨⟨vd, rfl, how⟩, hb5⟩; obtain ⟨Av, cv, rfl⟩ := how.form; have bE5 := bE4.below hb5 bE4.lt; have g5 := bE5.cell 5; have f5 := bE5.frozen 5; simp at g5)
  have bE6 : Blk (W5.setCell ⟨gE, 5, none⟩ (.slice Av ([120] : List UInt8).length cv)) gE 46 #[.string ⟨#[97]⟩, .int .i64 1, .int .i64 0, .int .i64 0, .int .i64 64, .slice Av ([120] : List UInt8).length cv] := bE5.set (u := .slice Av ([120] : List UInt8).length cv) 5
  have hq5 := hq4.trans (hb5.mono hq4.size)
  have hq6 := hq5.setCell (p := ⟨gE, 5, none⟩) hgE (.slice Av ([120] : List UInt8).length cv)
  have hz : ([120] : List UInt8).length = 1 := rfl
  rw [hz] at bE6 hq6
  clear hcl how hb5 bE5 g5 f5 hq5 bE4 hq4 hz
  generalize W5.setCell ⟨gE, 5, none⟩ (.slice Av 1 cv) = W6 at bE6 hq6 ⊢
  have d0 := bE6.cell 0
  have d1 := bE6.cell 1
  have d2 := bE6.cell 2
  have d3 := bE6.cell 3
  have d4 := bE6.cell 4
  have d5 := bE6.cell 5
  simp at d0 d1 d2 d3 d4 d5
  have bR := hB.below hq6 hB.lt
  have r1 := bR.cell 1
  simp at r1
  refine wp_region_plan2 (wkD [93]) (fun W => W.cell? ⟨gr, 1, none⟩ = some (.slice none 0 0) ∧ W.cell? ⟨gE, 0, none⟩ = some (.string ⟨#[97]⟩) ∧ W.cell? ⟨gE, 1, none⟩ = some (.int .i64 1) ∧ W.cell? ⟨gE, 2, none⟩ = some (.int .i64 0) ∧ W.cell? ⟨gE, 3, none⟩ = some (.int .i64 0) ∧ W.cell? ⟨gE, 4, none⟩ = some (.int .i64 64) ∧ W.cell? ⟨gE, 5, none⟩ = some (.slice Av 1 cv)) (fun _ => True) (fun _ _ => trivial) [(false, 0), (false, 1), (false, 2), (false, 3), (false, 4), (false, 5), (true, 6), (true, 7), (false, 8), (false, 9), (true, 10)] (by kernel_rfl) (by kernel_rfl) (⟨r1, d0, d1, d2, d3, d4, d5⟩) ?_
  simp only [planOps, List.map, List.getD_cons_zero, List.getD_cons_succ]
  iterate 6 ((first | refine plan_quiet (v := ?_) rfl rfl (fun w' hw' => ?_) ?_ | refine plan_calm (v := ?_) (fun _ _ => trivial) rfl (fun w' hw' => ?_) ?_); rotate_left; (focus (go_simp <;> (first | with_reducible rfl | (rw [if_neg (by simp [undef])]; try rfl) | omega))); simp only [Act.put, List.setIfInBounds_toArray, List.set_cons_zero, List.set_cons_succ])
  refine plan_loud rfl (fun K hK => ?_)
  go_simp
  have hbA : Below W6.heap.size W6 (W6.alloc (.cells #[.string ⟨#[97]⟩, .int .i64 1, .int .i64 0, .int .i64 0, .int .i64 64, .slice Av 1 cv] 46)).drew := ((Below.refl _ W6).alloc (Nat.le_refl _) _).drew
  have KK := Kept.of_below hbA nowhere
  refine hK _ _ (⟨KK.cell r1 (fun h => h), KK.cell d0 (fun h => h), KK.cell d1 (fun h => h), KK.cell d2 (fun h => h), KK.cell d3 (fun h => h), KK.cell d4 (fun h => h), KK.cell d5 (fun h => h)⟩) ?_
  clear hK K
  (try simp only [Act.put, List.setIfInBounds_toArray, List.set_cons_zero, List.set_cons_succ])
  refine plan_loud rfl (fun K hK => ?_)
  have bS : Blk (W6.alloc (.cells #[.string ⟨#[97]⟩, .int .i64 1, .int .i64 0, .int .i64 0, .int .i64 64, .slice Av 1 cv] 46)).drew W6.heap.size 46 ([.string ⟨#[97]⟩, .int .i64 1, .int .i64 0, .int .i64 0, .int .i64 64, .slice Av 1 cv] : List Value).toArray := Blk.new W6 _ _
  have hqA := hq6.trans (hbA.mono hq6.size)
  have bEA := bE6.below hbA bE6.lt
  clear KK r1 d0 d1 d2 d3 d4 d5 bE6 hbA hq6 bR
  generalize (W6.alloc (.cells #[.string ⟨#[97]⟩, .int .i64 1, .int .i64 0, .int .i64 0, .int .i64 64, .slice Av 1 cv] 46)).drew = WA at bS hqA bEA ⊢
  generalize W6.heap.size = gS at bS ⊢
  have d0 := bEA.cell 0
  have d1 := bEA.cell 1
  have d2 := bEA.cell 2
  have d3 := bEA.cell 3
  have d4 := bEA.cell 4
  have d5 := bEA.cell 5
  simp at d0 d1 d2 d3 d4 d5
  have bR := hB.below hqA hB.lt
  have r1 := bR.cell 1
  simp at r1
  refine wp_first_item _ _ rfl rfl rfl bS rfl (fun u hu => by simp at hu; rcases hu with rfl | rfl | rfl | rfl | rfl | rfl <;> rfl) ?_
  intro gi ci W' how hbN
  have KK := Kept.of_below hbN nowhere
  refine hK _ _ (⟨KK.cell r1 (fun h => h), KK.cell d0 (fun h => h), KK.cell d1 (fun h => h), KK.cell d2 (fun h => h), KK.cell d3 (fun h => h), KK.cell d4 (fun h => h), KK.cell d5 (fun h => h)⟩) ?_
  clear hK K
  (try simp only [Act.put, List.setIfInBounds_toArray, List.set_cons_zero, List.set_cons_succ])
  iterate 2 ((first | refine plan_quiet (v := ?_) rfl rfl (fun w' hw' => ?_) ?_ | refine plan_calm (v := ?_) (fun _ _ => trivial) rfl (fun w' hw' => ?_) ?_); rotate_left; (focus (go_simp <;> (first | with_reducible rfl | (rw [if_neg (by simp [undef])]; try rfl) | omega))); simp only [Act.put, List.setIfInBounds_toArray, List.set_cons_zero, List.set_cons_succ])
  refine plan_last rfl (by kernel_rfl) (by kernel_rfl) (fun K hK => ?_)
  have hqN := hqA.trans (hbN.mono hqA.size)
  have bR2 := hB.below hqN hB.lt
  have r1' := bR2.cell 1
  have fr1 := bR2.frozen 1
  simp at r1'
  have e0 := how.cellAt 0 (by decide)
  have e4 := how.cellAt 4 (by decide)
  simp at e0 e4
  have hgi : gi ≠ gr := fun e => by have := (how.lt gi rfl).1; have := hqA.size; have := hB.lt; omega
  have bR3 : Blk (W'.setCell ⟨gr, 1, none⟩ (.slice (some ⟨gi, 0, none⟩) 1 ci)) gr 108 #[bv, .slice (some ⟨gi, 0, none⟩) 1 ci, .slice none 0 0, .bool false] := bR2.set (u := .slice (some ⟨gi, 0, none⟩) 1 ci) 1
  have hkF : Kept (fun k => k = gr) W (W'.setCell ⟨gr, 1, none⟩ (.slice (some ⟨gi, 0, none⟩) 1 ci)) := (Kept.of_below hqN _).setCell _ fun _ => rfl
  have hk1 : Kept (fun k => k = gr) W' (W'.setCell ⟨gr, 1, none⟩ (.slice (some ⟨gi, 0, none⟩) 1 ci)) := (Kept.refl _ _).setCell _ fun _ => rfl
  have e0' := hk1.cell e0 hgi
  have e4' := hk1.cell e4 hgi
  clear KK
  go_simp
  refine hK _ _ (trivial) ?_
  clear hK K
  (try simp only [Act.put, List.setIfInBounds_toArray, List.set_cons_zero, List.set_cons_succ])
  refine plan_end ?_
  clear r1' fr1 bR2 r1 d0 d1 d2 d3 d4 d5 how hbN e0 e4 hk1
  go_wp2_with fail
  go_ret
  exact ⟨rfl, gi, ci, bR3, e0', e4', hkF⟩
end Go.Proofs.YtolknddegfcmpaaDoor

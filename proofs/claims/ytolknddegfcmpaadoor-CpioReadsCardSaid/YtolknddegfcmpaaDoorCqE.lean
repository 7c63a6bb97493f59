/- The walks of the document's Of and first (cpio). Printed by gen_cqe.py. -/
import Derived.Test.YtolknddegfcmpaaDoorCqD
namespace Go.Proofs.YtolknddegfcmpaaDoor
open Go.RowKit
/-- The entry that a member is, by the document. -/
def ofD (nm d : List UInt8) (q m x3 x4 x5 : Nat) : Int × En :=
  if q = 8 then (0, entM nm 1 m x3 x4 x5 [] d)
  else if q = 4 then (if d = [] then 0 else 3, entM nm 2 m x3 x4 x5 [] [])
  else if q = 10 then (0, entM nm 3 m x3 x4 x5 d [])
  else (9, entM nm 0 m x3 x4 x5 [] [])
theorem ofD_step (L : List En) (ns : List Nat) (nm d : List UInt8) : stepM L ns nm d = if (ofD nm d (ns.getD 1 0 / 4096) (ns.getD 1 0 % 4096) (ns.getD 3 0) (ns.getD 4 0) (ns.getD 5 0)).1 = 0 then (0, L ++ [(ofD nm d (ns.getD 1 0 / 4096) (ns.getD 1 0 % 4096) (ns.getD 3 0) (ns.getD 4 0) (ns.getD 5 0)).2]) else ((ofD nm d (ns.getD 1 0 / 4096) (ns.getD 1 0 % 4096) (ns.getD 3 0) (ns.getD 4 0) (ns.getD 5 0)).1, L) := by
  unfold stepM ofD
  by_cases h8 : ns.getD 1 0 / 4096 = 8
  · simp only [if_pos h8, if_true]
  simp only [if_neg h8]
  by_cases h4 : ns.getD 1 0 / 4096 = 4
  · simp only [if_pos h4]
    by_cases hd : d = []
    · simp only [if_pos hd, if_true]
    · simp only [if_neg hd]; rfl
  simp only [if_neg h4]
  by_cases h10 : ns.getD 1 0 / 4096 = 10
  · simp only [if_pos h10, if_true]
  · simp only [if_neg h10]; rfl
section
variable {w W : World} {gR H : Nat}
theorem ent_set {t : TypeId} {y0 y1 y2 y3 y4 y5 y6 y7 y8 y9 : Value} (h : Blk W gR t #[y0, y1, y2, y3, y4, y5, y6, y7, y8, y9]) (v0 v1 v2 v3 v4 v5 v6 v7 v8 v9 : Value) :
    Blk ((((((((((W.setCell ⟨gR, 0, none⟩ v0).setCell ⟨gR, 1, none⟩ v1).setCell ⟨gR, 2, none⟩ v2).setCell ⟨gR, 3, none⟩ v3).setCell ⟨gR, 4, none⟩ v4).setCell ⟨gR, 5, none⟩ v5).setCell ⟨gR, 6, none⟩ v6).setCell ⟨gR, 7, none⟩ v7).setCell ⟨gR, 8, none⟩ v8).setCell ⟨gR, 9, none⟩ v9) gR t #[v0, v1, v2, v3, v4, v5, v6, v7, v8, v9] := by
  have := ((((((((((h.set (u := v0) 0).set (u := v1) 1).set (u := v2) 2).set (u := v3) 3).set (u := v4) 4).set (u := v5) 5).set (u := v6) 6).set (u := v7) 7).set (u := v8) 8).set (u := v9) 9)
  simpa using this
theorem ent_bel (h : Below H w W) (hg : H ≤ gR) (v0 v1 v2 v3 v4 v5 v6 v7 v8 v9 : Value) : Below H w ((((((((((W.setCell ⟨gR, 0, none⟩ v0).setCell ⟨gR, 1, none⟩ v1).setCell ⟨gR, 2, none⟩ v2).setCell ⟨gR, 3, none⟩ v3).setCell ⟨gR, 4, none⟩ v4).setCell ⟨gR, 5, none⟩ v5).setCell ⟨gR, 6, none⟩ v6).setCell ⟨gR, 7, none⟩ v7).setCell ⟨gR, 8, none⟩ v8).setCell ⟨gR, 9, none⟩ v9) :=
  (((((((((h.setCell (p := ⟨gR, 0, none⟩) hg v0).setCell (p := ⟨gR, 1, none⟩) hg v1).setCell (p := ⟨gR, 2, none⟩) hg v2).setCell (p := ⟨gR, 3, none⟩) hg v3).setCell (p := ⟨gR, 4, none⟩) hg v4).setCell (p := ⟨gR, 5, none⟩) hg v5).setCell (p := ⟨gR, 6, none⟩) hg v6).setCell (p := ⟨gR, 7, none⟩) hg v7).setCell (p := ⟨gR, 8, none⟩) hg v8).setCell (p := ⟨gR, 9, none⟩) hg v9
theorem ent_oth (W : World) (gR : Nat) (v0 v1 v2 v3 v4 v5 v6 v7 v8 v9 : Value) : Kept (fun k => k = gR) W ((((((((((W.setCell ⟨gR, 0, none⟩ v0).setCell ⟨gR, 1, none⟩ v1).setCell ⟨gR, 2, none⟩ v2).setCell ⟨gR, 3, none⟩ v3).setCell ⟨gR, 4, none⟩ v4).setCell ⟨gR, 5, none⟩ v5).setCell ⟨gR, 6, none⟩ v6).setCell ⟨gR, 7, none⟩ v7).setCell ⟨gR, 8, none⟩ v8).setCell ⟨gR, 9, none⟩ v9) :=
  ((((((((((Kept.refl (fun k => k = gR) W).setCell (p := ⟨gR, 0, none⟩) v0 fun _ => rfl).setCell (p := ⟨gR, 1, none⟩) v1 fun _ => rfl).setCell (p := ⟨gR, 2, none⟩) v2 fun _ => rfl).setCell (p := ⟨gR, 3, none⟩) v3 fun _ => rfl).setCell (p := ⟨gR, 4, none⟩) v4 fun _ => rfl).setCell (p := ⟨gR, 5, none⟩) v5 fun _ => rfl).setCell (p := ⟨gR, 6, none⟩) v6 fun _ => rfl).setCell (p := ⟨gR, 7, none⟩) v7 fun _ => rfl).setCell (p := ⟨gR, 8, none⟩) v8 fun _ => rfl).setCell (p := ⟨gR, 9, none⟩) v9 fun _ => rfl
theorem ent_sl {v : Value} {d : List UInt8} {X : Nat → Prop} (h : Sl 1 Rbyte (fun k => X k ∨ k = gR) W v d) (v0 v1 v2 v3 v4 v5 v6 v7 v8 v9 : Value) : Sl 1 Rbyte X ((((((((((W.setCell ⟨gR, 0, none⟩ v0).setCell ⟨gR, 1, none⟩ v1).setCell ⟨gR, 2, none⟩ v2).setCell ⟨gR, 3, none⟩ v3).setCell ⟨gR, 4, none⟩ v4).setCell ⟨gR, 5, none⟩ v5).setCell ⟨gR, 6, none⟩ v6).setCell ⟨gR, 7, none⟩ v7).setCell ⟨gR, 8, none⟩ v8).setCell ⟨gR, 9, none⟩ v9) v d :=
  (h.keep good_byte ((ent_oth W gR v0 v1 v2 v3 v4 v5 v6 v7 v8 v9).mono fun _ _ e => .inr e)).mono good_byte (by omega) fun _ _ hx => .inl hx
end
/-- What Of answers. -/
def OfR (w : World) (d : List UInt8) (x : Int × En) (r : Ending) (w' : World) : Prop :=
  Below w.heap.size w w' ∧ ∃ dv, r = .returned (.tuple #[entV x.2 dv, .int .i64 x.1]) ∧ ∀ X : Nat → Prop, (∀ k, w.heap.size ≤ k → ¬ X k) → Sl 1 Rbyte X w' dv x.2.data
set_option maxRecDepth 20000 in
set_option maxHeartbeats 16000000 in
theorem of10_any (nm d : List UInt8) (gn cn : Nat) (nx : Int) (w : World) (x1 x3 x4 x5 : Nat) (h1 : x1 ≤ 4294967295) (a1 : w.cell? ⟨gn, 1, none⟩ = some (.int .i64 (x1 : Int))) (a3 : w.cell? ⟨gn, 3, none⟩ = some (.int .i64 (x3 : Int))) (a4 : w.cell? ⟨gn, 4, none⟩ = some (.int .i64 (x4 : Int))) (a5 : w.cell? ⟨gn, 5, none⟩ = some (.int .i64 (x5 : Int))) (hdl : d.length ≤ 1000000000) :
    Calls Tryd.prog 31 #[.agg #[.slice (some ⟨gn, 0, none⟩) 13 cn, .string (bs nm), .string (bs d), .int .i64 nx, .bool false, .int .i64 0]] w (OfR w d (ofD nm d (x1 / 4096) (x1 % 4096) x3 x4 x5)) := by
  have HO : Hid (ofD nm d (x1 / 4096) (x1 % 4096) x3 x4 x5 = if x1 / 4096 = 8 then (0, entM nm 1 (x1 % 4096) x3 x4 x5 [] d) else if x1 / 4096 = 4 then (if d = [] then 0 else 3, entM nm 2 (x1 % 4096) x3 x4 x5 [] []) else if x1 / 4096 = 10 then (0, entM nm 3 (x1 % 4096) x3 x4 x5 d []) else (9, entM nm 0 (x1 % 4096) x3 x4 x5 [] [])) := Lib.hid rfl
  obtain ⟨R, HR⟩ : ∃ R, Hid (ofD nm d (x1 / 4096) (x1 % 4096) x3 x4 x5 = R) := ⟨_, Lib.hid rfl⟩
  rw [HR.out] at HO ⊢
  obtain ⟨m, HM⟩ : ∃ x, Hid (x = x1 % 4096) := ⟨_, Lib.hid rfl⟩
  obtain ⟨q, HQ⟩ : ∃ x, Hid (x = x1 / 4096) := ⟨_, Lib.hid rfl⟩
  have wm : (x1 : Int).tmod 4096 = (m : Int) := by rw [Int.tmod_eq_emod_of_nonneg (by omega), HM.out]; omega
  have wmb : (x1 : Int) % 4096 = (m : Int) := by rw [HM.out]; omega
  have wq : (x1 : Int).tdiv 4096 = (q : Int) := by rw [Int.tdiv_eq_ediv_of_nonneg (by omega), HQ.out]; omega
  have wqb : (x1 : Int) / 4096 = (q : Int) := by rw [HQ.out]; omega
  rw [← HM.out, ← HQ.out] at HO
  go_enter Tryd.func31, Tryd.ntmps31
  have hb1 := (Below.refl w.heap.size w).alloc (Nat.le_refl _) (.cells #[.slice (some ⟨gn, 0, none⟩) 13 cn, .string (bs nm), .string (bs d), .int .i64 nx, .bool false, .int .i64 0] 69)
  have bB := Blk.new w 69 #[.slice (some ⟨gn, 0, none⟩) 13 cn, .string (bs nm), .string (bs d), .int .i64 nx, .bool false, .int .i64 0]
  have hs1 : (w.alloc (.cells #[.slice (some ⟨gn, 0, none⟩) 13 cn, .string (bs nm), .string (bs d), .int .i64 nx, .bool false, .int .i64 0] 69)).heap.size = w.heap.size + 1 := by
    show (w.heap.push _).size = _
    rw [Array.size_push]
  go_upto_region 1 with fail
  generalize w.alloc (.cells #[.slice (some ⟨gn, 0, none⟩) 13 cn, .string (bs nm), .string (bs d), .int .i64 nx, .bool false, .int .i64 0] 69) = W1 at hb1 bB hs1 ⊢
  have hbA : Below W1.heap.size W1 (W1.alloc (.cells #[.string ⟨#[]⟩, .int .i64 0, .int .i64 0, .int .i64 0, .int .i64 0, .string ⟨#[]⟩, .string ⟨#[]⟩, .int .i64 0, .string ⟨#[]⟩, .slice none 0 0] tE)) := (Below.refl _ W1).alloc (Nat.le_refl _) _
  have hb2 := hb1.trans (hbA.mono hb1.size)
  have bR := Blk.new W1 tE #[.string ⟨#[]⟩, .int .i64 0, .int .i64 0, .int .i64 0, .int .i64 0, .string ⟨#[]⟩, .string ⟨#[]⟩, .int .i64 0, .string ⟨#[]⟩, .slice none 0 0]
  have bB2 := bB.below hbA bB.lt
  have hgR : w.heap.size ≤ W1.heap.size := hb1.size
  rw [hs1] at bR hgR
  clear hbA hb1 bB hs1
  generalize W1.alloc (.cells #[.string ⟨#[]⟩, .int .i64 0, .int .i64 0, .int .i64 0, .int .i64 0, .string ⟨#[]⟩, .string ⟨#[]⟩, .int .i64 0, .string ⟨#[]⟩, .slice none 0 0] tE) = W2 at hb2 bR bB2 ⊢
  generalize hg1 : w.heap.size + 1 = gR at bR hgR ⊢
  generalize hg0 : w.heap.size = gB at bB2
  have q0 := bB2.cell 0
  have q1 := bB2.cell 1
  have q2 := bB2.cell 2
  simp at q0 q1 q2
  have a1 := (Kept.of_below hb2 nowhere).cell a1 (fun h => h)
  have a3 := (Kept.of_below hb2 nowhere).cell a3 (fun h => h)
  have a4 := (Kept.of_below hb2 nowhere).cell a4 (fun h => h)
  have a5 := (Kept.of_below hb2 nowhere).cell a5 (fun h => h)
  subst hg0
  refine wp_region_plan (fun W => W.cell? ⟨w.heap.size, 0, none⟩ = some (.slice (some ⟨gn, 0, none⟩) 13 cn) ∧ W.cell? ⟨w.heap.size, 1, none⟩ = some (.string (bs nm)) ∧ W.cell? ⟨gn, 1, none⟩ = some (.int .i64 x1) ∧ W.cell? ⟨gn, 3, none⟩ = some (.int .i64 x3) ∧ W.cell? ⟨gn, 4, none⟩ = some (.int .i64 x4) ∧ W.cell? ⟨gn, 5, none⟩ = some (.int .i64 x5)) [(false, 0), (false, 1), (false, 2), (false, 3), (false, 4), (false, 5), (false, 6), (false, 7), (false, 8), (false, 9), (false, 10), (false, 11), (false, 12), (false, 13), (false, 14), (false, 15), (false, 16), (false, 17), (false, 18), (false, 19), (true, 20), (true, 21)] (by kernel_rfl) (by kernel_rfl) (⟨q0, q1, a1, a3, a4, a5⟩) ?_
  simp only [planOps, List.map, List.getD_cons_zero, List.getD_cons_succ]
  iterate 20 ((first | refine plan_quiet (v := ?_) rfl rfl (fun w' hw' => ?_) ?_ | refine plan_calm (v := ?_) (tt_of) rfl (fun w' hw' => ?_) ?_); rotate_left; (focus (go_simp <;> (first | with_reducible rfl | (rw [if_neg (by simp [undef])]; try rfl)))); simp only [Act.put, List.setIfInBounds_toArray, List.set_cons_zero, List.set_cons_succ])
  refine plan_loud rfl (fun K hK => ?_)
  go_simp
  have hbA : Below W2.heap.size W2 (W2.alloc (.cells #[.string ⟨#[]⟩, .int .i64 0, .int .i64 0, .int .i64 0, .int .i64 0, .string ⟨#[]⟩, .string ⟨#[]⟩, .int .i64 0, .string ⟨#[]⟩, .slice none 0 0] tE)).drew := ((Below.refl _ W2).alloc (Nat.le_refl _) _).drew
  have KK := Kept.of_below hbA nowhere
  have bE := Blk.new W2 tE #[.string ⟨#[]⟩, .int .i64 0, .int .i64 0, .int .i64 0, .int .i64 0, .string ⟨#[]⟩, .string ⟨#[]⟩, .int .i64 0, .string ⟨#[]⟩, .slice none 0 0]
  have bE : Blk (W2.alloc (.cells #[.string ⟨#[]⟩, .int .i64 0, .int .i64 0, .int .i64 0, .int .i64 0, .string ⟨#[]⟩, .string ⟨#[]⟩, .int .i64 0, .string ⟨#[]⟩, .slice none 0 0] tE)).drew W2.heap.size tE #[.string ⟨#[]⟩, .int .i64 0, .int .i64 0, .int .i64 0, .int .i64 0, .string ⟨#[]⟩, .string ⟨#[]⟩, .int .i64 0, .string ⟨#[]⟩, .slice none 0 0] := bE
  have bR3 := bR.below hbA bR.lt
  have bB3 := bB2.below hbA bB2.lt
  have hb3 := hb2.trans (hbA.mono hb2.size)
  refine hK _ _ (⟨KK.cell q0 (fun h => h), KK.cell q1 (fun h => h), KK.cell a1 (fun h => h), KK.cell a3 (fun h => h), KK.cell a4 (fun h => h), KK.cell a5 (fun h => h)⟩) ?_
  clear hK K
  (try simp only [Act.put, List.setIfInBounds_toArray, List.set_cons_zero, List.set_cons_succ])
  refine plan_last rfl (by kernel_rfl) (by kernel_rfl) (fun K hK => ?_)
  have a1_0 := a1
  have a1 := KK.cell a1 (fun h => h)
  have hgE : w.heap.size ≤ W2.heap.size := hb2.size
  have hne : W2.heap.size ≠ gR := fun e => by have := bR.lt; omega
  have hneB : W2.heap.size ≠ w.heap.size := fun e => by have := bB2.lt; omega
  have hgnE : gn ≠ W2.heap.size := fun e => by
    have h : gn < W2.heap.size := block_lt_of_cell a1_0
    omega
  clear KK hbA bR bB2 hb2 q0 q1 q2 a3 a4 a5 a1_0
  generalize (W2.alloc (.cells #[.string ⟨#[]⟩, .int .i64 0, .int .i64 0, .int .i64 0, .int .i64 0, .string ⟨#[]⟩, .string ⟨#[]⟩, .int .i64 0, .string ⟨#[]⟩, .slice none 0 0] tE)).drew = W3 at bE bR3 bB3 hb3 a1 ⊢
  generalize W2.heap.size = gE at bE hgE hne hneB hgnE ⊢
  obtain ⟨c0, c1, c2, c3, c4, c5, c6, c7, c8, c9⟩ := bE.cells10
  have f0 := bE.frozen 0
  have f1 := bE.frozen 1
  have f2 := bE.frozen 2
  have f3 := bE.frozen 3
  have f4 := bE.frozen 4
  have f5 := bE.frozen 5
  have f6 := bE.frozen 6
  have f7 := bE.frozen 7
  have f8 := bE.frozen 8
  have f9 := bE.frozen 9
  go_simp
  refine hK _ _ (trivial) ?_
  clear hK K
  (try simp only [Act.put, List.setIfInBounds_toArray, List.set_cons_zero, List.set_cons_succ])
  refine plan_end ?_
  have K4 := ent_set bE (.string (bs nm)) (.int .i64 0) (.int .i64 m) (.int .i64 x3) (.int .i64 x4) (.string ⟨#[]⟩) (.string ⟨#[]⟩) (.int .i64 x5) (.string ⟨#[]⟩) (.slice none 0 0)
  have hb4 := ent_bel hb3 hgE (.string (bs nm)) (.int .i64 0) (.int .i64 m) (.int .i64 x3) (.int .i64 x4) (.string ⟨#[]⟩) (.string ⟨#[]⟩) (.int .i64 x5) (.string ⟨#[]⟩) (.slice none 0 0)
  have KO := ent_oth W3 gE (.string (bs nm)) (.int .i64 0) (.int .i64 m) (.int .i64 x3) (.int .i64 x4) (.string ⟨#[]⟩) (.string ⟨#[]⟩) (.int .i64 x5) (.string ⟨#[]⟩) (.slice none 0 0)
  have bR4 := KO.blk bR3 (fun e => hne e.symm)
  have bB4 := KO.blk bB3 (fun e => hneB e.symm)
  have a1 := KO.cell a1 hgnE
  clear KO bE bR3 bB3 hb3 c0 c1 c2 c3 c4 c5 c6 c7 c8 c9 f0 f1 f2 f3 f4 f5 f6 f7 f8 f9
  generalize (((((((((W3.setCell ⟨gE, 0, none⟩ (.string (bs nm))).setCell ⟨gE, 1, none⟩ (.int .i64 0)).setCell ⟨gE, 2, none⟩ (.int .i64 m)).setCell ⟨gE, 3, none⟩ (.int .i64 x3)).setCell ⟨gE, 4, none⟩ (.int .i64 x4)).setCell ⟨gE, 5, none⟩ (.string ⟨#[]⟩)).setCell ⟨gE, 6, none⟩ (.string ⟨#[]⟩)).setCell ⟨gE, 7, none⟩ (.int .i64 x5)).setCell ⟨gE, 8, none⟩ (.string ⟨#[]⟩)).setCell ⟨gE, 9, none⟩ (.slice none 0 0) = W4 at K4 hb4 bR4 bB4 a1 ⊢
  have q0 := bB4.cell 0
  have q2 := bB4.cell 2
  simp at q0 q2
  obtain ⟨c0, c1, c2, c3, c4, c5, c6, c7, c8, c9⟩ := K4.cells10
  have f0 := K4.frozen 0
  have f1 := K4.frozen 1
  have f2 := K4.frozen 2
  have f3 := K4.frozen 3
  have f4 := K4.frozen 4
  have f5 := K4.frozen 5
  have f6 := K4.frozen 6
  have f7 := K4.frozen 7
  have f8 := K4.frozen 8
  have f9 := K4.frozen 9
  by_cases h8 : q = 8
  · have t8 : ((q : Int) == 8) = true := by rw [beq_iff_eq]; omega
    have HV := Lib.hid (HO.out.trans (if_pos h8))
    clear HO h8
    go_upto_region 6 with fail
    have K5 : Blk (W4.setCell ⟨gE, 1, none⟩ (.int .i64 1)) gE tE #[.string (bs nm), .int .i64 1, .int .i64 m, .int .i64 x3, .int .i64 x4, .string ⟨#[]⟩, .string ⟨#[]⟩, .int .i64 x5, .string ⟨#[]⟩, .slice none 0 0] := K4.set (u := .int .i64 1) 1
    have hb5 := hb4.setCell (p := ⟨gE, 1, none⟩) hgE (.int .i64 1)
    have bR5 := bR4.other (a := ⟨gE, 1, none⟩) (.int .i64 1) (fun e => hne e.symm)
    have bB5 := bB4.other (a := ⟨gE, 1, none⟩) (.int .i64 1) (fun e => hneB e.symm)
    clear K4 hb4 bR4 bB4 q0 q2 a1 c0 c1 c2 c3 c4 c5 c6 c7 c8 c9 f0 f1 f2 f3 f4 f5 f6 f7 f8 f9
    generalize W4.setCell ⟨gE, 1, none⟩ (.int .i64 1) = W5 at K5 hb5 bR5 bB5 ⊢
    have q2 := bB5.cell 2
    simp at q2
    obtain ⟨gc, cap, W6, hcv, hbc, hgc, hsl⟩ := conv_sl2 (P := Tryd.prog) W5 9 26 5 d Tryd.underlying9 Tryd.underlying26 Tryd.underlying5 hdl
    have K6 := K5.below hbc K5.lt
    have bR6 := bR5.below hbc bR5.lt
    have hb6 := hb5.trans (hbc.mono hb5.size)
    have hgcR : gc ≠ gR := fun e => by have := bR5.lt; omega
    have hgcE : gc ≠ gE := fun e => by have := K5.lt; omega
    have hgcH : w.heap.size ≤ gc := by have := hb5.size; omega
    obtain ⟨c0, c1, c2, c3, c4, c5, c6, c7, c8, c9⟩ := K6.cells10
    have f0 := K6.frozen 0
    have f1 := K6.frozen 1
    have f2 := K6.frozen 2
    have f3 := K6.frozen 3
    have f4 := K6.frozen 4
    have f5 := K6.frozen 5
    have f6 := K6.frozen 6
    have f7 := K6.frozen 7
    have f8 := K6.frozen 8
    have f9 := K6.frozen 9
    go_upto_region 14 with fail
    have K7 : Blk (W6.setCell ⟨gE, 9, none⟩ (.slice (some ⟨gc, 0, none⟩) d.length cap)) gE tE #[.string (bs nm), .int .i64 1, .int .i64 m, .int .i64 x3, .int .i64 x4, .string ⟨#[]⟩, .string ⟨#[]⟩, .int .i64 x5, .string ⟨#[]⟩, .slice (some ⟨gc, 0, none⟩) d.length cap] := K6.set (u := .slice (some ⟨gc, 0, none⟩) d.length cap) 9
    have hb7 := hb6.setCell (p := ⟨gE, 9, none⟩) hgE (.slice (some ⟨gc, 0, none⟩) d.length cap)
    have bR7 := bR6.other (a := ⟨gE, 9, none⟩) (.slice (some ⟨gc, 0, none⟩) d.length cap) (fun e => hne e.symm)
    have hsl7 : ∀ X : Nat → Prop, ¬ X gc → Sl 1 Rbyte X (W6.setCell ⟨gE, 9, none⟩ (.slice (some ⟨gc, 0, none⟩) d.length cap)) (.slice (some ⟨gc, 0, none⟩) d.length cap) d := fun X hX =>
      ((hsl (fun k => X k ∨ k = gE) (fun h => h.elim hX hgcE)).keep good_byte ((Kept.refl (fun k => X k ∨ k = gE) W6).setCell (p := ⟨gE, 9, none⟩) _ fun _ => .inr rfl)).mono good_byte (by omega) fun _ _ h => .inl h
    clear hsl hcv hbc K5 hb5 bR5 bB5 K6 hb6 bR6 q2 c0 c1 c2 c3 c4 c5 c6 c7 c8 c9 f0 f1 f2 f3 f4 f5 f6 f7 f8 f9
    generalize W6.setCell ⟨gE, 9, none⟩ (.slice (some ⟨gc, 0, none⟩) d.length cap) = W7 at K7 hb7 bR7 hsl7 ⊢
    obtain ⟨c0, c1, c2, c3, c4, c5, c6, c7, c8, c9⟩ := K7.cells10
    obtain ⟨z0, z1, z2, z3, z4, z5, z6, z7, z8, z9⟩ := bR7.cells10
    have f0 := bR7.frozen 0
    have f1 := bR7.frozen 1
    have f2 := bR7.frozen 2
    have f3 := bR7.frozen 3
    have f4 := bR7.frozen 4
    have f5 := bR7.frozen 5
    have f6 := bR7.frozen 6
    have f7 := bR7.frozen 7
    have f8 := bR7.frozen 8
    have f9 := bR7.frozen 9
    go_wp2_with fail
    have K := ent_set bR7 (.string (bs nm)) (.int .i64 1) (.int .i64 m) (.int .i64 x3) (.int .i64 x4) (.string ⟨#[]⟩) (.string ⟨#[]⟩) (.int .i64 x5) (.string ⟨#[]⟩) (.slice (some ⟨gc, 0, none⟩) d.length cap)
    have hq := ent_bel hb7 hgR (.string (bs nm)) (.int .i64 1) (.int .i64 m) (.int .i64 x3) (.int .i64 x4) (.string ⟨#[]⟩) (.string ⟨#[]⟩) (.int .i64 x5) (.string ⟨#[]⟩) (.slice (some ⟨gc, 0, none⟩) d.length cap)
    have hfin : ∀ X : Nat → Prop, (∀ k, w.heap.size ≤ k → ¬ X k) → Sl 1 Rbyte X ((((((((((W7.setCell ⟨gR, 0, none⟩ (.string (bs nm))).setCell ⟨gR, 1, none⟩ (.int .i64 1)).setCell ⟨gR, 2, none⟩ (.int .i64 m)).setCell ⟨gR, 3, none⟩ (.int .i64 x3)).setCell ⟨gR, 4, none⟩ (.int .i64 x4)).setCell ⟨gR, 5, none⟩ (.string ⟨#[]⟩)).setCell ⟨gR, 6, none⟩ (.string ⟨#[]⟩)).setCell ⟨gR, 7, none⟩ (.int .i64 x5)).setCell ⟨gR, 8, none⟩ (.string ⟨#[]⟩)).setCell ⟨gR, 9, none⟩ (.slice (some ⟨gc, 0, none⟩) d.length cap)) (.slice (some ⟨gc, 0, none⟩) d.length cap) d := fun X hX => ent_sl (hsl7 (fun k => X k ∨ k = gR) (fun h => h.elim (hX gc hgcH) hgcR)) (.string (bs nm)) (.int .i64 1) (.int .i64 m) (.int .i64 x3) (.int .i64 x4) (.string ⟨#[]⟩) (.string ⟨#[]⟩) (.int .i64 x5) (.string ⟨#[]⟩) (.slice (some ⟨gc, 0, none⟩) d.length cap)
    clear c0 c1 c2 c3 c4 c5 c6 c7 c8 c9 z0 z1 z2 z3 z4 z5 z6 z7 z8 z9 f0 f1 f2 f3 f4 f5 f6 f7 f8 f9
    generalize (((((((((W7.setCell ⟨gR, 0, none⟩ (.string (bs nm))).setCell ⟨gR, 1, none⟩ (.int .i64 1)).setCell ⟨gR, 2, none⟩ (.int .i64 m)).setCell ⟨gR, 3, none⟩ (.int .i64 x3)).setCell ⟨gR, 4, none⟩ (.int .i64 x4)).setCell ⟨gR, 5, none⟩ (.string ⟨#[]⟩)).setCell ⟨gR, 6, none⟩ (.string ⟨#[]⟩)).setCell ⟨gR, 7, none⟩ (.int .i64 x5)).setCell ⟨gR, 8, none⟩ (.string ⟨#[]⟩)).setCell ⟨gR, 9, none⟩ (.slice (some ⟨gc, 0, none⟩) d.length cap) = WX at K hq hfin ⊢
    obtain ⟨k0, k1, k2, k3, k4, k5, k6, k7, k8, k9⟩ := K.cells10
    refine bodyPost_ret (v := .tuple #[.agg #[.string (bs nm), .int .i64 1, .int .i64 m, .int .i64 x3, .int .i64 x4, .string ⟨#[]⟩, .string ⟨#[]⟩, .int .i64 x5, .string ⟨#[]⟩, .slice (some ⟨gc, 0, none⟩) d.length cap], .int .i64 0]) ?_ ?_ ?_
    · simp [results, Tryd.results31, go_sem, k0, k1, k2, k3, k4, k5, k6, k7, k8, k9]
    · rfl
    exact ⟨hq, by rw [HV.out]; exact ⟨.slice (some ⟨gc, 0, none⟩) d.length cap, rfl, hfin⟩⟩
  have t8 : ((q : Int) == 8) = false := by simp; omega
  have HO2 := Lib.hid (HO.out.trans (if_neg h8))
  clear HO h8
  by_cases h4 : q = 4
  · have t4 : ((q : Int) == 4) = true := by rw [beq_iff_eq]; omega
    have HV := Lib.hid (HO2.out.trans (if_pos h4))
    clear HO2 h4
    go_upto_region 9 with fail
    have K5 : Blk (W4.setCell ⟨gE, 1, none⟩ (.int .i64 2)) gE tE #[.string (bs nm), .int .i64 2, .int .i64 m, .int .i64 x3, .int .i64 x4, .string ⟨#[]⟩, .string ⟨#[]⟩, .int .i64 x5, .string ⟨#[]⟩, .slice none 0 0] := K4.set (u := .int .i64 2) 1
    have hb5 := hb4.setCell (p := ⟨gE, 1, none⟩) hgE (.int .i64 2)
    have bR5 := bR4.other (a := ⟨gE, 1, none⟩) (.int .i64 2) (fun e => hne e.symm)
    have bB5 := bB4.other (a := ⟨gE, 1, none⟩) (.int .i64 2) (fun e => hneB e.symm)
    clear K4 hb4 bR4 bB4 q0 q2 a1 c0 c1 c2 c3 c4 c5 c6 c7 c8 c9 f0 f1 f2 f3 f4 f5 f6 f7 f8 f9
    generalize W4.setCell ⟨gE, 1, none⟩ (.int .i64 2) = W5 at K5 hb5 bR5 bB5 ⊢
    have q2 := bB5.cell 2
    simp at q2
    cases d with
    | nil =>
      have tq : (bs ([] : List UInt8)).toList = [] := toList_bs _
      have tq2 : bs ([] : List UInt8) = ⟨#[]⟩ := rfl
      obtain ⟨c0, c1, c2, c3, c4, c5, c6, c7, c8, c9⟩ := K5.cells10
      obtain ⟨z0, z1, z2, z3, z4, z5, z6, z7, z8, z9⟩ := bR5.cells10
      have f0 := bR5.frozen 0
      have f1 := bR5.frozen 1
      have f2 := bR5.frozen 2
      have f3 := bR5.frozen 3
      have f4 := bR5.frozen 4
      have f5 := bR5.frozen 5
      have f6 := bR5.frozen 6
      have f7 := bR5.frozen 7
      have f8 := bR5.frozen 8
      have f9 := bR5.frozen 9
      go_wp2_with fail
      have K := ent_set bR5 (.string (bs nm)) (.int .i64 2) (.int .i64 m) (.int .i64 x3) (.int .i64 x4) (.string ⟨#[]⟩) (.string ⟨#[]⟩) (.int .i64 x5) (.string ⟨#[]⟩) (.slice none 0 0)
      have hq := ent_bel hb5 hgR (.string (bs nm)) (.int .i64 2) (.int .i64 m) (.int .i64 x3) (.int .i64 x4) (.string ⟨#[]⟩) (.string ⟨#[]⟩) (.int .i64 x5) (.string ⟨#[]⟩) (.slice none 0 0)
      clear c0 c1 c2 c3 c4 c5 c6 c7 c8 c9 z0 z1 z2 z3 z4 z5 z6 z7 z8 z9 f0 f1 f2 f3 f4 f5 f6 f7 f8 f9
      generalize (((((((((W5.setCell ⟨gR, 0, none⟩ (.string (bs nm))).setCell ⟨gR, 1, none⟩ (.int .i64 2)).setCell ⟨gR, 2, none⟩ (.int .i64 m)).setCell ⟨gR, 3, none⟩ (.int .i64 x3)).setCell ⟨gR, 4, none⟩ (.int .i64 x4)).setCell ⟨gR, 5, none⟩ (.string ⟨#[]⟩)).setCell ⟨gR, 6, none⟩ (.string ⟨#[]⟩)).setCell ⟨gR, 7, none⟩ (.int .i64 x5)).setCell ⟨gR, 8, none⟩ (.string ⟨#[]⟩)).setCell ⟨gR, 9, none⟩ (.slice none 0 0) = WX at K hq ⊢
      obtain ⟨k0, k1, k2, k3, k4, k5, k6, k7, k8, k9⟩ := K.cells10
      refine bodyPost_ret (v := .tuple #[.agg #[.string (bs nm), .int .i64 2, .int .i64 m, .int .i64 x3, .int .i64 x4, .string ⟨#[]⟩, .string ⟨#[]⟩, .int .i64 x5, .string ⟨#[]⟩, .slice none 0 0], .int .i64 0]) ?_ ?_ ?_
      · simp [results, Tryd.results31, go_sem, k0, k1, k2, k3, k4, k5, k6, k7, k8, k9]
      · rfl
      exact ⟨hq, by rw [HV.out]; exact ⟨.slice none 0 0, rfl, fun X _ => Sl.nil _ _ _ _⟩⟩
    | cons dc dt =>
      have hne1 : ¬ (dc :: dt) = [] := by simp
      have tq : (bs (dc :: dt)).toList = dc :: dt := toList_bs _
      rw [if_neg hne1] at HV
      obtain ⟨c0, c1, c2, c3, c4, c5, c6, c7, c8, c9⟩ := K5.cells10
      obtain ⟨z0, z1, z2, z3, z4, z5, z6, z7, z8, z9⟩ := bR5.cells10
      have f0 := bR5.frozen 0
      have f1 := bR5.frozen 1
      have f2 := bR5.frozen 2
      have f3 := bR5.frozen 3
      have f4 := bR5.frozen 4
      have f5 := bR5.frozen 5
      have f6 := bR5.frozen 6
      have f7 := bR5.frozen 7
      have f8 := bR5.frozen 8
      have f9 := bR5.frozen 9
      go_wp2_with fail
      have K := ent_set bR5 (.string (bs nm)) (.int .i64 2) (.int .i64 m) (.int .i64 x3) (.int .i64 x4) (.string ⟨#[]⟩) (.string ⟨#[]⟩) (.int .i64 x5) (.string ⟨#[]⟩) (.slice none 0 0)
      have hq := ent_bel hb5 hgR (.string (bs nm)) (.int .i64 2) (.int .i64 m) (.int .i64 x3) (.int .i64 x4) (.string ⟨#[]⟩) (.string ⟨#[]⟩) (.int .i64 x5) (.string ⟨#[]⟩) (.slice none 0 0)
      clear c0 c1 c2 c3 c4 c5 c6 c7 c8 c9 z0 z1 z2 z3 z4 z5 z6 z7 z8 z9 f0 f1 f2 f3 f4 f5 f6 f7 f8 f9
      generalize (((((((((W5.setCell ⟨gR, 0, none⟩ (.string (bs nm))).setCell ⟨gR, 1, none⟩ (.int .i64 2)).setCell ⟨gR, 2, none⟩ (.int .i64 m)).setCell ⟨gR, 3, none⟩ (.int .i64 x3)).setCell ⟨gR, 4, none⟩ (.int .i64 x4)).setCell ⟨gR, 5, none⟩ (.string ⟨#[]⟩)).setCell ⟨gR, 6, none⟩ (.string ⟨#[]⟩)).setCell ⟨gR, 7, none⟩ (.int .i64 x5)).setCell ⟨gR, 8, none⟩ (.string ⟨#[]⟩)).setCell ⟨gR, 9, none⟩ (.slice none 0 0) = WX at K hq ⊢
      obtain ⟨k0, k1, k2, k3, k4, k5, k6, k7, k8, k9⟩ := K.cells10
      refine bodyPost_ret (v := .tuple #[.agg #[.string (bs nm), .int .i64 2, .int .i64 m, .int .i64 x3, .int .i64 x4, .string ⟨#[]⟩, .string ⟨#[]⟩, .int .i64 x5, .string ⟨#[]⟩, .slice none 0 0], .int .i64 3]) ?_ ?_ ?_
      · simp [results, Tryd.results31, go_sem, k0, k1, k2, k3, k4, k5, k6, k7, k8, k9]
      · rfl
      exact ⟨hq, by rw [HV.out]; exact ⟨.slice none 0 0, rfl, fun X _ => Sl.nil _ _ _ _⟩⟩
  have t4 : ((q : Int) == 4) = false := by simp; omega
  have HO3 := Lib.hid (HO2.out.trans (if_neg h4))
  clear HO2 h4
  by_cases h10 : q = 10
  · have t10 : ((q : Int) == 10) = true := by rw [beq_iff_eq]; omega
    have HV := Lib.hid (HO3.out.trans (if_pos h10))
    clear HO3 h10
    go_upto_region 14 with fail
    have K5 : Blk (W4.setCell ⟨gE, 1, none⟩ (.int .i64 3)) gE tE #[.string (bs nm), .int .i64 3, .int .i64 m, .int .i64 x3, .int .i64 x4, .string ⟨#[]⟩, .string ⟨#[]⟩, .int .i64 x5, .string ⟨#[]⟩, .slice none 0 0] := K4.set (u := .int .i64 3) 1
    have K6 : Blk ((W4.setCell ⟨gE, 1, none⟩ (.int .i64 3)).setCell ⟨gE, 8, none⟩ (.string (bs d))) gE tE #[.string (bs nm), .int .i64 3, .int .i64 m, .int .i64 x3, .int .i64 x4, .string ⟨#[]⟩, .string ⟨#[]⟩, .int .i64 x5, .string (bs d), .slice none 0 0] := K5.set (u := .string (bs d)) 8
    have hb6 := (hb4.setCell (p := ⟨gE, 1, none⟩) hgE (.int .i64 3)).setCell (p := ⟨gE, 8, none⟩) hgE (.string (bs d))
    have bR6 := (bR4.other (a := ⟨gE, 1, none⟩) (.int .i64 3) (fun e => hne e.symm)).other (a := ⟨gE, 8, none⟩) (.string (bs d)) (fun e => hne e.symm)
    clear K5 K4 hb4 bR4 bB4 q0 q2 a1 c0 c1 c2 c3 c4 c5 c6 c7 c8 c9 f0 f1 f2 f3 f4 f5 f6 f7 f8 f9
    generalize (W4.setCell ⟨gE, 1, none⟩ (.int .i64 3)).setCell ⟨gE, 8, none⟩ (.string (bs d)) = W6 at K6 hb6 bR6 ⊢
    obtain ⟨c0, c1, c2, c3, c4, c5, c6, c7, c8, c9⟩ := K6.cells10
    obtain ⟨z0, z1, z2, z3, z4, z5, z6, z7, z8, z9⟩ := bR6.cells10
    have f0 := bR6.frozen 0
    have f1 := bR6.frozen 1
    have f2 := bR6.frozen 2
    have f3 := bR6.frozen 3
    have f4 := bR6.frozen 4
    have f5 := bR6.frozen 5
    have f6 := bR6.frozen 6
    have f7 := bR6.frozen 7
    have f8 := bR6.frozen 8
    have f9 := bR6.frozen 9
    go_wp2_with fail
    have K := ent_set bR6 (.string (bs nm)) (.int .i64 3) (.int .i64 m) (.int .i64 x3) (.int .i64 x4) (.string ⟨#[]⟩) (.string ⟨#[]⟩) (.int .i64 x5) (.string (bs d)) (.slice none 0 0)
    have hq := ent_bel hb6 hgR (.string (bs nm)) (.int .i64 3) (.int .i64 m) (.int .i64 x3) (.int .i64 x4) (.string ⟨#[]⟩) (.string ⟨#[]⟩) (.int .i64 x5) (.string (bs d)) (.slice none 0 0)
    clear c0 c1 c2 c3 c4 c5 c6 c7 c8 c9 z0 z1 z2 z3 z4 z5 z6 z7 z8 z9 f0 f1 f2 f3 f4 f5 f6 f7 f8 f9
    generalize (((((((((W6.setCell ⟨gR, 0, none⟩ (.string (bs nm))).setCell ⟨gR, 1, none⟩ (.int .i64 3)).setCell ⟨gR, 2, none⟩ (.int .i64 m)).setCell ⟨gR, 3, none⟩ (.int .i64 x3)).setCell ⟨gR, 4, none⟩ (.int .i64 x4)).setCell ⟨gR, 5, none⟩ (.string ⟨#[]⟩)).setCell ⟨gR, 6, none⟩ (.string ⟨#[]⟩)).setCell ⟨gR, 7, none⟩ (.int .i64 x5)).setCell ⟨gR, 8, none⟩ (.string (bs d))).setCell ⟨gR, 9, none⟩ (.slice none 0 0) = WX at K hq ⊢
    obtain ⟨k0, k1, k2, k3, k4, k5, k6, k7, k8, k9⟩ := K.cells10
    refine bodyPost_ret (v := .tuple #[.agg #[.string (bs nm), .int .i64 3, .int .i64 m, .int .i64 x3, .int .i64 x4, .string ⟨#[]⟩, .string ⟨#[]⟩, .int .i64 x5, .string (bs d), .slice none 0 0], .int .i64 0]) ?_ ?_ ?_
    · simp [results, Tryd.results31, go_sem, k0, k1, k2, k3, k4, k5, k6, k7, k8, k9]
    · rfl
    exact ⟨hq, by rw [HV.out]; exact ⟨.slice none 0 0, rfl, fun X _ => Sl.nil _ _ _ _⟩⟩
  have t10 : ((q : Int) == 10) = false := by simp; omega
  have HV := Lib.hid (HO3.out.trans (if_neg h10))
  clear HO3 h10 c0 c1 c2 c3 c4 c5 c6 c7 c8 c9 f0 f1 f2 f3 f4 f5 f6 f7 f8 f9
  obtain ⟨c0, c1, c2, c3, c4, c5, c6, c7, c8, c9⟩ := K4.cells10
  obtain ⟨z0, z1, z2, z3, z4, z5, z6, z7, z8, z9⟩ := bR4.cells10
  have f0 := bR4.frozen 0
  have f1 := bR4.frozen 1
  have f2 := bR4.frozen 2
  have f3 := bR4.frozen 3
  have f4 := bR4.frozen 4
  have f5 := bR4.frozen 5
  have f6 := bR4.frozen 6
  have f7 := bR4.frozen 7
  have f8 := bR4.frozen 8
  have f9 := bR4.frozen 9
  go_wp2_with fail
  have K := ent_set bR4 (.string (bs nm)) (.int .i64 0) (.int .i64 m) (.int .i64 x3) (.int .i64 x4) (.string ⟨#[]⟩) (.string ⟨#[]⟩) (.int .i64 x5) (.string ⟨#[]⟩) (.slice none 0 0)
  have hq := ent_bel hb4 hgR (.string (bs nm)) (.int .i64 0) (.int .i64 m) (.int .i64 x3) (.int .i64 x4) (.string ⟨#[]⟩) (.string ⟨#[]⟩) (.int .i64 x5) (.string ⟨#[]⟩) (.slice none 0 0)
  clear c0 c1 c2 c3 c4 c5 c6 c7 c8 c9 z0 z1 z2 z3 z4 z5 z6 z7 z8 z9 f0 f1 f2 f3 f4 f5 f6 f7 f8 f9
  generalize (((((((((W4.setCell ⟨gR, 0, none⟩ (.string (bs nm))).setCell ⟨gR, 1, none⟩ (.int .i64 0)).setCell ⟨gR, 2, none⟩ (.int .i64 m)).setCell ⟨gR, 3, none⟩ (.int .i64 x3)).setCell ⟨gR, 4, none⟩ (.int .i64 x4)).setCell ⟨gR, 5, none⟩ (.string ⟨#[]⟩)).setCell ⟨gR, 6, none⟩ (.string ⟨#[]⟩)).setCell ⟨gR, 7, none⟩ (.int .i64 x5)).setCell ⟨gR, 8, none⟩ (.string ⟨#[]⟩)).setCell ⟨gR, 9, none⟩ (.slice none 0 0) = WX at K hq ⊢
  obtain ⟨k0, k1, k2, k3, k4, k5, k6, k7, k8, k9⟩ := K.cells10
  refine bodyPost_ret (v := .tuple #[.agg #[.string (bs nm), .int .i64 0, .int .i64 m, .int .i64 x3, .int .i64 x4, .string ⟨#[]⟩, .string ⟨#[]⟩, .int .i64 x5, .string ⟨#[]⟩, .slice none 0 0], .int .i64 9]) ?_ ?_ ?_
  · simp [results, Tryd.results31, go_sem, k0, k1, k2, k3, k4, k5, k6, k7, k8, k9]
  · rfl
  exact ⟨hq, by rw [HV.out]; exact ⟨.slice none 0 0, rfl, fun X _ => Sl.nil _ _ _ _⟩⟩
end Go.Proofs.YtolknddegfcmpaaDoor

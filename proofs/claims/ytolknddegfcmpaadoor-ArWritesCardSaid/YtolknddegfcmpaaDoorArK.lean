/- The first field and the first member, put behind a constant's bytes. Printed by gen_ark.py. -/
import Derived.Test.YtolknddegfcmpaaDoorArJ
namespace Go.Proofs.YtolknddegfcmpaaDoor
open Go.RowKit
section
variable {P : Program} {w : World} {e : TypeId} {l : List UInt8} {base : Nat}
theorem run_lit_text (w : World) (t u ty : TypeId) (ht : P.underlying t = some (.slice e)) (hu : P.underlying u = some .string)
    (hinfo : (P.info? e).map (fun i => (i.zero, i.size, i.bytes)) = some (some (.int .u8 0), 1, 1)) {g0 : Nat} (hlit : ∀ j (h : j < l.length), w.cell? ⟨g0, j, none⟩ = some (.int .u8 (l[j].toNat : Int))) (s : List UInt8) (hs0 : 0 < s.length)
    (hl : l.length ≤ 1000000000) (hsl : s.length ≤ 1000000) (hb : base ≤ w.heap.size) (R0 : Option Nat) :
    ∃ v' w', (Builtin.append_ #[t, u] ty #[.slice (some ⟨g0, 0, none⟩) l.length l.length, .string (bs s)]).run P w = .ok v' w' ∧ Row8 w R0 base e w' v' (l ++ s) := by
  obtain ⟨i0, hi, hz0, hz1, hz2⟩ := info_parts hinfo
  have hss := bs_size s
  have hr := Lib.run_append_grow_string (P := P) w t u ty e i0 _ ht hu hi hz0 ⟨g0, 0, none⟩ l.length l.length (bvs l) (by rw [hz1, bvs_length, Nat.mul_one]) (fun j v hv => by
    have hj : j < l.length := by have := (List.getElem?_eq_some_iff.1 hv).1; rwa [bvs_length] at this
    rw [bvs_get l j hj] at hv
    rw [Addr.add_lit, Nat.zero_add, hlit j hj]
    exact hv) (bs s) (by omega) (by omega) (by rw [hz2]; exact growslice_fits (by omega) (by omega))
  have hlen : l.length + (bs s).size = (l ++ s).length := by rw [List.length_append, hss]
  rw [hlen] at hr
  have hge := grownCap_ge w (l ++ s).length l.length e
  have hcm : grownCap w (l ++ s).length l.length e ≤ maxLen := grownCap_le_maxLen w (l ++ s).length l.length e (by unfold maxLen; omega)
  have hblk := heap_alloc_new w.drew (.cells ((bvs l).toArray ++ (Lib.strCells (bs s)).toArray ++ Builtin.zeroCells (Value.int IntKind.u8 0).cells (grownCap w (l ++ s).length l.length e - (l ++ s).length)) e)
  have hxs : (bvs l).toArray ++ (Lib.strCells (bs s)).toArray = (bvs (l ++ s)).toArray := by rw [bvs_str, bvs_append]; simp
  rw [hxs] at hr hblk
  refine ⟨_, _, hr, ⟨⟨by rw [bvs_length, Nat.mul_one], .inr ⟨w.heap.size, _, _, rfl, hb, hblk, hge, hcm, ?_, ?_⟩⟩, (fun k hk => ?_), (Kept.of_below (((Below.refl _ w).drew).alloc (Nat.le_refl _) _) _), hb⟩⟩
  · have hz1 : (Value.int IntKind.u8 0).cells.size = 1 := rfl
    simp only [Array.size_append, List.size_toArray, size_zeroCells, hz1, bvs_length]
    omega
  · simp only [Array.toList_append]
    rw [List.take_append_of_le_length (by rw [bvs_length]; omega), List.take_of_length_le (by rw [bvs_length]; omega)]
  · refine .inr ?_
    simp only [Value.ownBlock, Option.some.injEq] at hk
    omega
theorem wpList_lit_text {ops : Array Oper} {rest : List Oper} {o : Oper} {a : Act} {Q : Exit → Act → World → Prop} (hgd : o.guard = none) (sl x : Operand) (t u : TypeId)
    (ho : o.op = .call { callee := .builtin .append, args := #[sl, x], argTypes := #[t, u] }) (ht : P.underlying t = some (.slice e)) (hu : P.underlying u = some .string)
    (hinfo : (P.info? e).map (fun i => (i.zero, i.size, i.bytes)) = some (some (.int .u8 0), 1, 1)) {g0 : Nat} (hs : a.eval sl = .slice (some ⟨g0, 0, none⟩) l.length l.length) (hlit : ∀ j (h : j < l.length), w.cell? ⟨g0, j, none⟩ = some (.int .u8 (l[j].toNat : Int))) {n : Nat} (hs0 : 0 < n) (s : List UInt8) (hsn : s.length = n) (hx : a.eval x = .string (bs s))
    (hl : l.length ≤ 1000000000) (hsl : s.length ≤ 1000000) (hb : base ≤ w.heap.size) (R0 : Option Nat)
    (h : ∀ v' w', Row8 w R0 base e w' v' (l ++ s) → wpList P ops Q rest (a.put o.dst v') w') : wpList P ops Q (o :: rest) a w := by
  refine wpList_plain hgd fun K hK => ?_
  obtain ⟨v', w', hr, hrow⟩ := run_lit_text (P := P) w t u o.type ht hu hinfo hlit s (by omega) hl hsl hb R0
  unfold Oper.wp execOp
  simp only [ho, resolve, invoke, builtin, Sem.run_bind, Sem.run_pure, Result.andThen_ok, List.map_toArray, List.map_cons, List.map_nil, hs, hx, hr]
  exact hK _ _ (h v' w' hrow)
end
set_option maxRecDepth 20000 in
set_option maxHeartbeats 8000000 in
theorem iput1_any (s : List UInt8) (wd : Nat) (hs : s.length ≤ wd) (hwd : wd ≤ 1000) (w : World) (gx base g0 : Nat) (R0 : Option Nat) (hRN : ∀ k, R0 ≠ some k) (l : List UInt8) (hbox : Blk w gx 26 #[.slice (some ⟨g0, 0, none⟩) l.length l.length]) (hlit : ∀ j (h : j < l.length), w.cell? ⟨g0, j, none⟩ = some (.int .u8 (l[j].toNat : Int))) (hs0 : 0 < s.length) (hbase : base ≤ w.heap.size) (hl : l.length ≤ 1000000000) :
    Calls Tryd.prog 61 #[.string (bs s), .int .i64 (wd : Int), .pointer (some ⟨gx, 0, none⟩)] w fun r w' => r = .returned (.tuple #[]) ∧ ∃ v', Blk w' gx 26 #[v'] ∧ w'.ownsRow base 5 1 v' (l ++ (s ++ List.replicate (wd - s.length) 32)).length (bvs (l ++ (s ++ List.replicate (wd - s.length) 32))) ∧ Kept (fun k => k = gx ∨ R0 = some k) w w' ∧ (∀ k, v'.ownBlock = some k → R0 = some k ∨ w.heap.size ≤ k) := by
  have hns := bs_size s
  have z0 := hbox.cell 0
  simp at z0
  have hnb : R0 ≠ some gx := hRN gx
  obtain ⟨nf, HNF⟩ : ∃ n, Hid (n = wd - s.length) := ⟨_, Lib.hid rfl⟩
  have wnf : IntKind.i64.wrap ((wd : Int) - (s.length : Int)) = (nf : Int) := by rw [i64_in _ (by omega) (by omega), HNF.out]; omega
  have hnf : nf ≤ 1000 := by rw [HNF.out]; omega
  rw [← HNF.out]
  go_enter Tryd.func61, Tryd.ntmps61
  go_upto_region 1 with (at_builtin; refine wpList_lit_text rfl _ _ 26 9 rfl Tryd.underlying26 Tryd.underlying9 u8info rfl hlit hs0 s rfl rfl hl (by omega) hbase R0 ?_; intro v1 w1 hr1; obtain ⟨A1, c1, rfl⟩ := own_form hr1.own; have hbx1 := hr1.kept.blk hbox hnb; have y0 := hbx1.cell 0; have f0 := hbx1.frozen 0; simp at y0)
  have ho1 := hr1.own
  have hn1 : (Value.slice A1 (l ++ s).length c1).ownBlock ≠ some gx := own_notblk ho1 hbx1 (by decide)
  have hlen1 : (l ++ s).length = l.length + s.length := List.length_append
  have hk1 : Kept (fun k => k = gx ∨ R0 = some k) w (w1.setCell ⟨gx, 0, none⟩ (.slice A1 (l ++ s).length c1)) := (hr1.kept.mono fun k _ h => .inr h).setCell _ fun _ => .inl rfl
  have hnew1 := hr1.new
  have hbx2 : Blk (w1.setCell ⟨gx, 0, none⟩ (.slice A1 (l ++ s).length c1)) gx 26 #[.slice A1 (l ++ s).length c1] := hbx1.set (u := .slice A1 (l ++ s).length c1) 0
  have ho2 := own_other ho1 (.slice A1 (l ++ s).length c1) (a := ⟨gx, 0, none⟩) hn1
  rw [hlen1] at hk1 hbx2 ho2 hn1 hnew1
  clear hr1 hbx1 ho1 y0 f0 z0 hbox
  generalize w1.setCell ⟨gx, 0, none⟩ (.slice A1 (l.length + s.length) c1) = W2 at hk1 hbx2 ho2 ⊢
  generalize hls : l ++ s = ls at ho2 hlen1
  rw [← hlen1] at ho2 hn1 hbx2 hnew1
  have x0 := hbx2.cell 0
  simp at x0
  rw [hlen1] at x0
  have hrep := Tryd.strings_Repeat ⟨#[32]⟩ nf W2.drew (by omega) (by show 1 * nf ≤ _; omega)
  have hrep2 : Calls Tryd.prog 62 #[.string ⟨#[32]⟩, .int .i64 nf] W2.drew fun e w' => e = .returned (.string (bs (List.replicate nf 32))) ∧ Below W2.drew.heap.size W2.drew w' := hrep.mono fun e w' h => ⟨by rw [h.1]; exact congrArg (fun x => Ending.returned (.string x)) (rep_blank nf), h.2⟩
  clear hrep
  refine wp_region_plan (fun W => W.cell? ⟨gx, 0, none⟩ = some (.slice A1 (l.length + s.length) c1)) [(false, 0), (false, 1), (false, 2), (false, 3), (false, 4), (true, 5), (true, 6), (true, 7)] (by kernel_rfl) (by kernel_rfl) (x0) ?_
  simp only [planOps, List.map, List.getD_cons_zero, List.getD_cons_succ]
  iterate 5 ((first | refine plan_quiet (v := ?_) rfl rfl (fun w' hw' => ?_) ?_ | refine plan_calm (v := ?_) (tt_of) rfl (fun w' hw' => ?_) ?_); rotate_left; (focus (go_simp <;> (first | with_reducible rfl | (rw [if_neg (by simp [undef])]; try rfl) | omega))); simp only [Act.put, List.setIfInBounds_toArray, List.set_cons_zero, List.set_cons_succ])
  refine plan_loud rfl (fun K hK => ?_)
  go_simp
  refine hrep2.mono ?_
  rintro e W3 ⟨rfl, hb3⟩
  clear hrep2
  have hb3' : Below W2.heap.size W2 W3 := ((Below.refl _ W2).drew).trans hb3
  have hbx3 := hbx2.below hb3' hbx2.lt
  have ho3 := own_below ho2 hb3'
  have hk3 := hk1.trans (Kept.of_below hb3' _)
  have x0 := hbx3.cell 0
  simp at x0
  rw [hlen1] at x0
  clear hbx2 ho2 hk1 hb3 hb3'
  refine hK _ _ (x0) ?_
  clear hK K
  (try simp only [Act.put, List.setIfInBounds_toArray, List.set_cons_zero, List.set_cons_succ])
  refine plan_loud rfl (fun K hK => ?_)
  have hr3 := Row8.first ho3 (by have := hk3.size; omega)
  refine wp_row_text _ _ 26 9 rfl Tryd.underlying26 Tryd.underlying9 u8info (by first | rfl | (simp only [hlen1]; rfl)) hr3 (List.replicate nf 32) rfl (by rw [List.length_replicate]; omega) ?_
  intro v4 W4 hr4
  obtain ⟨A4, c4, rfl⟩ := own_form hr4.own
  have hbx4 := hr4.kept.blk hbx3 (own_notblk ho3 hbx3 (by decide))
  have x0 := hbx4.cell 0
  simp at x0
  rw [hlen1] at x0
  refine hK _ _ (x0) ?_
  clear hK K
  (try simp only [Act.put, List.setIfInBounds_toArray, List.set_cons_zero, List.set_cons_succ])
  refine plan_last rfl (by kernel_rfl) (by kernel_rfl) (fun K hK => ?_)
  have f0 := hbx4.frozen 0
  have ho4 := hr4.own
  have hn4 : (Value.slice A4 (ls ++ List.replicate nf 32).length c4).ownBlock ≠ some gx := own_notblk ho4 hbx4 (by decide)
  have hbx5 : Blk (W4.setCell ⟨gx, 0, none⟩ (.slice A4 (ls ++ List.replicate nf 32).length c4)) gx 26 #[.slice A4 (ls ++ List.replicate nf 32).length c4] := hbx4.set (u := .slice A4 (ls ++ List.replicate nf 32).length c4) 0
  have ho5 := own_other ho4 (.slice A4 (ls ++ List.replicate nf 32).length c4) (a := ⟨gx, 0, none⟩) hn4
  have hk5 : Kept (fun k => k = gx ∨ R0 = some k) w (W4.setCell ⟨gx, 0, none⟩ (.slice A4 (ls ++ List.replicate nf 32).length c4)) := (hk3.cut hr4.kept (fun k h => (hnew1 k h).elim (fun h => .inl (.inr h)) .inr)).setCell _ fun _ => .inl rfl
  go_simp
  refine hK _ _ (trivial) ?_
  clear hK K
  (try simp only [Act.put, List.setIfInBounds_toArray, List.set_cons_zero, List.set_cons_succ])
  refine plan_end ?_
  clear x0 f0
  have hll : (ls ++ List.replicate nf 32).length = l.length + s.length + nf := by rw [List.length_append, List.length_replicate, hlen1]
  have hfin : ls ++ List.replicate nf 32 = l ++ (s ++ List.replicate nf 32) := by rw [← hls, List.append_assoc]
  have hnw : ∀ k, (Value.slice A4 (ls ++ List.replicate nf 32).length c4).ownBlock = some k → R0 = some k ∨ w.heap.size ≤ k := fun k h => by
    rcases hr4.new k h with h1 | h1
    · exact hnew1 k h1
    · exact .inr (Nat.le_trans hk3.size h1)
  rw [hll] at hbx5 ho5 hk5 hnw
  generalize W4.setCell ⟨gx, 0, none⟩ (.slice A4 (l.length + s.length + nf) c4) = W9 at hbx5 ho5 hk5 ⊢
  refine bodyPost_end (v := .tuple #[]) ?_ ?_ ?_
  · simp [results, Tryd.results61, go_sem]
  · rfl
  · refine ⟨rfl, _, hbx5, ?_, hk5, hnw⟩
    rw [← hfin, hll]
    exact ho5
set_option maxRecDepth 20000 in
set_option maxHeartbeats 16000000 in
theorem imember1_any (w : World) (base g0 : Nat) (R0 : Option Nat) (hRN : ∀ k, R0 ≠ some k) (l : List UInt8) (hlit : ∀ j (h : j < l.length), w.cell? ⟨g0, j, none⟩ = some (.int .u8 (l[j].toNat : Int))) (hbase : base ≤ w.heap.size) (hl : l.length ≤ 100000000)
    (s1 s2 s3 s4 s5 : List UInt8) (h10 : 0 < s1.length) (h1 : s1.length ≤ 16) (h2 : s2.length ≤ 12) (h3 : s3.length ≤ 6) (h4 : s4.length ≤ 6) (h5 : s5.length ≤ 8) (dv : Value) (data : List UInt8) (hd : Sl 1 Rbyte (fun k => R0 = some k) w dv data) (hdl : data.length ≤ 100000000) (hT : Tab w) (hgb : gTab < base) :
    Calls Tryd.prog 37 #[.slice (some ⟨g0, 0, none⟩) l.length l.length, .string (bs s1), .string (bs s2), .string (bs s3), .string (bs s4), .string (bs s5), dv] w fun r w' => ∃ v', r = .returned v' ∧ Row8 w R0 base 5 w' v' (l ++ memI s1 s2 s3 s4 s5 data) := by
  obtain ⟨Ad, cd, rfl, hd1, hd2⟩ := hd.form
  unfold maxLen at hd2
  have hnT : ¬ R0 = some gTab := hRN gTab
  have hTlt := hT.lt
  have hnb : ∀ k, R0 = some k → k < w.heap.size := fun k hk => absurd hk (hRN k)
  have hbA : Below w.heap.size w (w.alloc (.cells #[.slice (some ⟨g0, 0, none⟩) l.length l.length] 26)) := (Below.refl _ w).alloc (Nat.le_refl _) _
  have B0 := Blk.new w 26 #[.slice (some ⟨g0, 0, none⟩) l.length l.length]
  have K0 : Kept (fun k => R0 = some k) w (w.alloc (.cells #[.slice (some ⟨g0, 0, none⟩) l.length l.length] 26)) := Kept.of_below hbA _
  have hlit0 : ∀ j (h : j < l.length), (w.alloc (.cells #[.slice (some ⟨g0, 0, none⟩) l.length l.length] 26)).cell? ⟨g0, j, none⟩ = some (.int .u8 (l[j].toNat : Int)) := fun j h => (Kept.of_below hbA nowhere).cell (hlit j h) fun h => h
  have hT0 := hT.below hbA
  have hS0 : base ≤ (w.alloc (.cells #[.slice (some ⟨g0, 0, none⟩) l.length l.length] 26)).heap.size := Nat.le_trans hbase hbA.size
  have HGX : w.heap.size ≤ w.heap.size := Nat.le_refl _
  go_enter Tryd.func37, Tryd.ntmps37
  go_upto_region 2 with fail
  clear hbA
  generalize w.alloc (.cells #[.slice (some ⟨g0, 0, none⟩) l.length l.length] 26) = W0 at B0 K0 hlit0 hT0 hS0 ⊢
  generalize hgx : w.heap.size = gx at B0 HGX ⊢
  have HGX : w.heap.size ≤ gx := by rw [hgx]; exact Nat.le_refl _
  have hp1 := iput1_any s1 16 h1 (by omega) W0 gx base g0 R0 hRN l B0 hlit0 h10 hS0 (by omega)
  go_upto_region 3 with (go_at_call 61; refine hp1.mono ?_; clear hp1; rintro r W1 ⟨rfl, v1, hbx, ho, hk, hnw⟩)
  have B1 : BX8 w R0 base gx W1 v1 (l ++ (s1 ++ List.replicate (16 - s1.length) 32)) := ⟨hbx, ho, K0.cut hk fun i hi => hi.elim (fun e => .inr (by rw [e]; exact HGX)) (fun e => absurd e (hRN i)), fun k hk2 => (hnw k hk2).elim (fun e => absurd e (hRN k)) fun h2 => .inr (Nat.le_trans K0.size h2)⟩
  have hT1 : Tab W1 := hT0.kept hk (fun e => e.elim (fun e => by omega) (fun e => absurd e (hRN _)))
  have hS1 : base ≤ W1.heap.size := Nat.le_trans hS0 hk.size
  obtain ⟨l1, HL1⟩ : ∃ x, Hid (x = l ++ (s1 ++ List.replicate (16 - s1.length) 32)) := ⟨_, Lib.hid rfl⟩
  have hl1 : l1.length ≤ l.length + 16 := by rw [HL1.out, List.length_append, List.length_append, List.length_replicate]; omega
  rw [← HL1.out] at B1
  clear hbx ho hk hnw B0 K0 hlit0 hT0 hS0
  have hp2 := iput_any s2 12 h2 (by omega) W1 gx base _ _ B1.box B1.own hS1 (by omega)
  go_upto_region 4 with (go_at_call 61; refine hp2.mono ?_; clear hp2; rintro r W2 ⟨rfl, v2, hbx, ho, hk, hnw⟩)
  have B2 := B1.put HGX hbx ho hk hnw
  have hT2 : Tab W2 := hT1.kept hk (fun e => e.elim (fun e => by omega) (fun e => (B1.new _ e).elim hnT (fun e => by omega)))
  have hS2 : base ≤ W2.heap.size := Nat.le_trans hS1 hk.size
  obtain ⟨l2, HL2⟩ : ∃ x, Hid (x = l1 ++ (s2 ++ List.replicate (12 - s2.length) 32)) := ⟨_, Lib.hid rfl⟩
  have hl2 : l2.length ≤ l1.length + 12 := by rw [HL2.out, List.length_append, List.length_append, List.length_replicate]; omega
  rw [← HL2.out] at B2
  clear hbx ho hk hnw B1 hT1 hS1
  have hp3 := iput_any s3 6 h3 (by omega) W2 gx base _ _ B2.box B2.own hS2 (by omega)
  go_upto_region 5 with (go_at_call 61; refine hp3.mono ?_; clear hp3; rintro r W3 ⟨rfl, v3, hbx, ho, hk, hnw⟩)
  have B3 := B2.put HGX hbx ho hk hnw
  have hT3 : Tab W3 := hT2.kept hk (fun e => e.elim (fun e => by omega) (fun e => (B2.new _ e).elim hnT (fun e => by omega)))
  have hS3 : base ≤ W3.heap.size := Nat.le_trans hS2 hk.size
  obtain ⟨l3, HL3⟩ : ∃ x, Hid (x = l2 ++ (s3 ++ List.replicate (6 - s3.length) 32)) := ⟨_, Lib.hid rfl⟩
  have hl3 : l3.length ≤ l2.length + 6 := by rw [HL3.out, List.length_append, List.length_append, List.length_replicate]; omega
  rw [← HL3.out] at B3
  clear hbx ho hk hnw B2 hT2 hS2
  have hp4 := iput_any s4 6 h4 (by omega) W3 gx base _ _ B3.box B3.own hS3 (by omega)
  go_upto_region 6 with (go_at_call 61; refine hp4.mono ?_; clear hp4; rintro r W4 ⟨rfl, v4, hbx, ho, hk, hnw⟩)
  have B4 := B3.put HGX hbx ho hk hnw
  have hT4 : Tab W4 := hT3.kept hk (fun e => e.elim (fun e => by omega) (fun e => (B3.new _ e).elim hnT (fun e => by omega)))
  have hS4 : base ≤ W4.heap.size := Nat.le_trans hS3 hk.size
  obtain ⟨l4, HL4⟩ : ∃ x, Hid (x = l3 ++ (s4 ++ List.replicate (6 - s4.length) 32)) := ⟨_, Lib.hid rfl⟩
  have hl4 : l4.length ≤ l3.length + 6 := by rw [HL4.out, List.length_append, List.length_append, List.length_replicate]; omega
  rw [← HL4.out] at B4
  clear hbx ho hk hnw B3 hT3 hS3
  have hp5 := iput_any s5 8 h5 (by omega) W4 gx base _ _ B4.box B4.own hS4 (by omega)
  go_upto_region 7 with (go_at_call 61; refine hp5.mono ?_; clear hp5; rintro r W5 ⟨rfl, v5, hbx, ho, hk, hnw⟩)
  have B5 := B4.put HGX hbx ho hk hnw
  have hT5 : Tab W5 := hT4.kept hk (fun e => e.elim (fun e => by omega) (fun e => (B4.new _ e).elim hnT (fun e => by omega)))
  have hS5 : base ≤ W5.heap.size := Nat.le_trans hS4 hk.size
  obtain ⟨l5, HL5⟩ : ∃ x, Hid (x = l4 ++ (s5 ++ List.replicate (8 - s5.length) 32)) := ⟨_, Lib.hid rfl⟩
  have hl5 : l5.length ≤ l4.length + 8 := by rw [HL5.out, List.length_append, List.length_append, List.length_replicate]; omega
  rw [← HL5.out] at B5
  clear hbx ho hk hnw B4 hT4 hS4
  obtain ⟨dg, HDG⟩ : ∃ x, Hid (Lib.decDigits data.length = x) := ⟨_, Lib.hid rfl⟩
  have hdg : dg.length ≤ 10 := by rw [← HDG.out]; exact dec_ten _ (by omega)
  have hdc := dec_any data.length W5 (by omega) hT5
  rw [HDG.out] at hdc
  have hdc2 : Calls Tryd.prog 38 #[.int .i64 (data.length : Int)] W5 fun e w' => e = .returned (.string (bs dg)) ∧ Below W5.heap.size W5 w' := hdc
  clear hdc
  have HP6 := Lib.hid (fun (W : World) (hb : Below W5.heap.size W5 W) => (⟨B5.below hb, hT5.below hb, iput_any dg 10 hdg (by omega) W gx base _ _ (B5.below hb).box (B5.below hb).own (Nat.le_trans hS5 hb.size) (by omega)⟩ : _ ∧ _ ∧ _))
  go_upto_region 8 with (first
    | (go_at_call 38; refine hdc2.mono ?_; clear hdc2; rintro r W6 ⟨rfl, hb6⟩; obtain ⟨B6, hT6, hp6⟩ := HP6.out W6 hb6)
    | (go_at_call 61; refine hp6.mono ?_; clear hp6; rintro r W7 ⟨rfl, v7, hbx, ho, hk, hnw⟩))
  have B7 := B6.put HGX hbx ho hk hnw
  have hS7 : base ≤ W7.heap.size := Nat.le_trans (Nat.le_trans hS5 hb6.size) hk.size
  obtain ⟨l7, HL7⟩ : ∃ x, Hid (x = l5 ++ (dg ++ List.replicate (10 - dg.length) 32)) := ⟨_, Lib.hid rfl⟩
  have hl7 : l7.length ≤ l5.length + 10 := by rw [HL7.out, List.length_append, List.length_append, List.length_replicate]; omega
  rw [← HL7.out] at B7
  clear hbx ho hk hnw B5 B6 hT5 hT6 HP6 hb6
  obtain ⟨A7, c7, rfl⟩ := own_form B7.own
  have z7 := B7.box.cell 0
  simp at z7
  have hr7 := Row8.first B7.own hS7
  go_upto_region 9 with (at_builtin; refine wpList_row_text rfl _ _ 26 9 rfl Tryd.underlying26 Tryd.underlying9 u8info rfl hr7 [96, 10] rfl (by simp; omega) ?_; intro v8 W8 hr8; obtain ⟨A8, c8, rfl⟩ := own_form hr8.own; have hbx8 := hr8.kept.blk B7.box (own_notblk B7.own B7.box (by decide)); have y8 := hbx8.cell 0; have f8 := hbx8.frozen 0; simp at y8)
  have B9 := B7.row HGX hr8
  have hl8 : (l7 ++ [96, 10]).length = l7.length + 2 := by simp
  have hS9 : base ≤ (W8.setCell ⟨gx, 0, none⟩ (.slice A8 (l7 ++ [96, 10]).length c8)).heap.size := by have := hr8.kept.size; simp; omega
  rw [hl8] at B9 hS9
  clear hr7 hr8 hbx8 y8 f8 z7 B7
  generalize W8.setCell ⟨gx, 0, none⟩ (.slice A8 (l7.length + 2) c8) = W9 at B9 hS9 ⊢
  obtain ⟨l9, HL9⟩ : ∃ x, Hid (x = l7 ++ [96, 10]) := ⟨_, Lib.hid rfl⟩
  rw [← HL9.out] at B9 hl8
  rw [← hl8] at B9 ⊢
  have hl9 : l9.length ≤ l7.length + 2 := by omega
  clear hl8
  have z9 := B9.box.cell 0
  simp at z9
  have hr9 := Row8.first B9.own hS9
  have hd9 := (hd.keep good_byte B9.kept).sb8
  go_upto_region 10 with (at_builtin; refine wpList_row_bytes rfl _ _ 26 rfl Tryd.underlying26 u8info rfl hr9 _ _ _ data rfl hd9 (by omega) ?_; intro v10 W10 hr10; obtain ⟨A10, c10, rfl⟩ := own_form hr10.own; have hbx10 := hr10.kept.blk B9.box (own_notblk B9.own B9.box (by decide)); have y10 := hbx10.cell 0; have f10 := hbx10.frozen 0; simp at y10)
  have B11 := B9.row HGX hr10
  have hl10 : (l9 ++ data).length = l9.length + data.length := by simp
  have hS11 : base ≤ (W10.setCell ⟨gx, 0, none⟩ (.slice A10 (l9 ++ data).length c10)).heap.size := by have := hr10.kept.size; simp; omega
  rw [hl10] at B11 hS11
  clear hr9 hr10 hbx10 y10 f10 z9 B9 hd9 hd
  generalize W10.setCell ⟨gx, 0, none⟩ (.slice A10 (l9.length + data.length) c10) = W11 at B11 hS11 ⊢
  obtain ⟨la, HLA⟩ : ∃ x, Hid (x = l9 ++ data) := ⟨_, Lib.hid rfl⟩
  rw [← HLA.out] at B11 hl10
  rw [← hl10] at B11 ⊢
  have hla : la.length ≤ l9.length + data.length := by omega
  clear hl10
  have z11 := B11.box.cell 0
  simp at z11
  have HF : Hid (l ++ memI s1 s2 s3 s4 s5 data = la ++ (if data.length % 2 = 1 then [10] else [])) := Lib.hid (by
    rw [HLA.out, HL9.out, HL7.out, HL5.out, HL4.out, HL3.out, HL2.out, HL1.out, memI, HDG.out]
    simp only [filB, List.append_assoc])
  obtain ⟨m2, HM2⟩ : ∃ x, Hid (x = data.length % 2) := ⟨_, Lib.hid rfl⟩
  have wm : (data.length : Int).tmod 2 = (m2 : Int) := by rw [Int.tmod_eq_emod_of_nonneg (by omega), HM2.out]; omega
  have wmb : (data.length : Int) % 2 = (m2 : Int) := by rw [HM2.out]; omega
  by_cases hm : m2 = 1
  · have tm : ((m2 : Int) == 1) = true := by rw [beq_iff_eq]; omega
    have tmb : (m2 == 1) = true := by simpa using hm
    have HFF := Lib.hid (HF.out.trans (by rw [← HM2.out, if_pos hm]) : l ++ memI s1 s2 s3 s4 s5 data = la ++ [10])
    clear hm
    have hr11 := Row8.first B11.own hS11
    go_upto_region 12 with (at_builtin; refine wpList_row_bytes rfl _ _ 26 rfl Tryd.underlying26 u8info rfl (hr11.alloc _) _ 1 1 [10] rfl (SB.made W11 [10] #[.int .u8 10] 5 rfl (by decide)) (by simp; omega) ?_; intro v12 W12 hr12; obtain ⟨A12, c12, rfl⟩ := own_form hr12.own; have hbx12 := hr12.kept.blk B11.box (own_notblk B11.own B11.box (by decide)); have y12 := hbx12.cell 0; have f12 := hbx12.frozen 0; simp at y12)
    have B13 := B11.row HGX hr12
    have hl12 : (la ++ [10]).length = la.length + 1 := by simp
    rw [hl12] at B13
    clear hr11 hr12 hbx12 y12 f12 z11 B11
    generalize W12.setCell ⟨gx, 0, none⟩ (.slice A12 (la.length + 1) c12) = W13 at B13 ⊢
    have z13 := B13.box.cell 0
    simp at z13
    go_wp2_with fail
    go_ret
    refine ⟨_, rfl, ?_⟩
    rw [HFF.out]
    have hob := B13.own
    exact ⟨by rw [hl12]; rw [hl12] at hob; exact hob, B13.new, B13.kept, hbase⟩
  · have tm : ((m2 : Int) == 1) = false := by
      have : ¬ (m2 : Int) = 1 := by omega
      simpa using this
    have tmb : (m2 == 1) = false := by simpa using hm
    have HFF := Lib.hid (HF.out.trans (by rw [← HM2.out, if_neg hm, List.append_nil]) : l ++ memI s1 s2 s3 s4 s5 data = la)
    clear hm
    go_wp2_with fail
    go_ret
    refine ⟨_, rfl, ?_⟩
    rw [HFF.out]
    exact ⟨B11.own, B11.new, B11.kept, hbase⟩
end Go.Proofs.YtolknddegfcmpaaDoor

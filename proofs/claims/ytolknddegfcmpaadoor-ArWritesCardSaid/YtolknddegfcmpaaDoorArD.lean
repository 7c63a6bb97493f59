/- The walk of ar.member's closure: a field, filled up with blanks, behind what is there. -/
import Derived.Test.YtolknddegfcmpaaDoorRw8
import Derived.Test.YtolknddegfcmpaaDoorPlaF
import Derived.Test.YtolknddegfcmpaaDoorMapU
import Derived.Test.YtolknddegfcmpaaDoorShelfR
import Derived.Test.YtolknddegfcmpaaDoorArBs
namespace Go.Proofs.YtolknddegfcmpaaDoor
open Go.RowKit
section
variable {P : Program} {w0 w : World} {R0 : Option Nat} {base : Nat} {e : TypeId} {v : Value} {l : List UInt8}
theorem wp_row_text {K : Act → World → Prop} {Q : Exit → Act → World → Prop} {o : Oper} {a : Act} (sl x : Operand) (t u : TypeId)
    (ho : o.op = .call { callee := .builtin .append, args := #[sl, x], argTypes := #[t, u] }) (ht : P.underlying t = some (.slice e)) (hu : P.underlying u = some .string)
    (hinfo : (P.info? e).map (fun i => (i.zero, i.size, i.bytes)) = some (some (.int .u8 0), 1, 1)) (hs : a.eval sl = v) (hrow : Row8 w0 R0 base e w v l) (s : List UInt8) (hx : a.eval x = .string (bs s)) (hn : l.length + s.length ≤ 70368744177664)
    (h : ∀ v' w', Row8 w0 R0 base e w' v' (l ++ s) → K (a.put o.dst v') w') : o.wp P a w K Q := by
  obtain ⟨i0, hi, hz0, hz1, hz2⟩ := info_parts hinfo
  obtain ⟨v', w', hr, h2, h3, h4⟩ := Lib.run_append_own_string (P := P) w base t u o.type e i0 ht hu hi hz0 hz1 hz2 v l.length (bvs l) hrow.own (bs s) (by rw [bs_size]; unfold maxLen; omega) (by rw [bs_size]; omega) hrow.lowW
  have hb := str_block ht hu hi hz0 hz1 hz2 hrow.own (bs s) (by rw [bs_size]; omega) hr
  rw [bvs_str, ← bvs_append] at h2
  unfold Oper.wp execOp
  simp only [ho, resolve, invoke, builtin, Sem.run_bind, Sem.run_pure, Result.andThen_ok, List.map_toArray, List.map_cons, List.map_nil, hs, hx, hr]
  exact h v' w' (hrow.step h2 (by rw [bs_size, List.length_append]) h3 hb)
end
theorem rep_blank (n : Nat) : (⟨(Lib.repeatL [32] n).toArray⟩ : ByteArray) = bs (List.replicate n 32) := by
  have : Lib.repeatL [32] n = List.replicate n 32 := by
    induction n with
    | zero => rfl
    | succ n ih =>
      first
        | (rw [Lib.repeatL, ih]; rfl)
        | (simp only [Lib.repeatL] at ih ⊢; rw [List.replicate_succ, List.flatten_cons, ih]; rfl)
  rw [this]; rfl
theorem Kept.cut {a b c : World} {X Y : Nat → Prop} (h : Kept X a b) (k : Kept Y b c) (hY : ∀ i, Y i → X i ∨ a.heap.size ≤ i) : Kept X a c :=
  ⟨k.os.trans h.os, k.tape.trans h.tape, k.output.trans h.output, Nat.le_trans h.size k.size, fun i hi hx => (k.block i (Nat.lt_of_lt_of_le hi h.size) (fun hy => (hY i hy).elim hx fun h1 => by omega)).trans (h.block i hi hx)⟩
set_option maxRecDepth 20000 in
set_option maxHeartbeats 8000000 in
theorem iput_any (s : List UInt8) (wd : Nat) (hs : s.length ≤ wd) (hwd : wd ≤ 1000) (w : World) (gx base : Nat) (v : Value) (l : List UInt8) (hbox : Blk w gx 26 #[v]) (hown : w.ownsRow base 5 1 v l.length (bvs l)) (hbase : base ≤ w.heap.size) (hl : l.length ≤ 1000000000) :
    Calls Tryd.prog 61 #[.string (bs s), .int .i64 (wd : Int), .pointer (some ⟨gx, 0, none⟩)] w fun r w' => r = .returned (.tuple #[]) ∧ ∃ v', Blk w' gx 26 #[v'] ∧ w'.ownsRow base 5 1 v' (l ++ (s ++ List.replicate (wd - s.length) 32)).length (bvs (l ++ (s ++ List.replicate (wd - s.length) 32))) ∧ Kept (fun k => k = gx ∨ v.ownBlock = some k) w w' ∧ (∀ k, v'.ownBlock = some k → v.ownBlock = some k ∨ w.heap.size ≤ k) := by
  have hns := bs_size s
  obtain ⟨A0, c0, rfl⟩ := own_form hown
  have z0 := hbox.cell 0
  simp at z0
  have hr := Row8.first hown hbase
  have hnb : (Value.slice A0 l.length c0).ownBlock ≠ some gx := own_notblk hown hbox (by decide)
  generalize hR0 : (Value.slice A0 l.length c0).ownBlock = R0 at hr hnb ⊢
  obtain ⟨nf, HNF⟩ : ∃ n, Hid (n = wd - s.length) := ⟨_, Lib.hid rfl⟩
  have wnf : IntKind.i64.wrap ((wd : Int) - (s.length : Int)) = (nf : Int) := by rw [i64_in _ (by omega) (by omega), HNF.out]; omega
  have hnf : nf ≤ 1000 := by rw [HNF.out]; omega
  rw [← HNF.out]
  clear hown
  go_enter Tryd.func61, Tryd.ntmps61
  go_upto_region 1 with (at_builtin; refine wpList_row_text rfl _ _ 26 9 rfl Tryd.underlying26 Tryd.underlying9 u8info rfl hr s rfl (by omega) ?_; intro v1 w1 hr1; obtain ⟨A1, c1, rfl⟩ := own_form hr1.own; have hbx1 := hr1.kept.blk hbox hnb; have y0 := hbx1.cell 0; have f0 := hbx1.frozen 0; simp at y0)
  have ho1 := hr1.own
  have hn1 : (Value.slice A1 (l ++ s).length c1).ownBlock ≠ some gx := own_notblk ho1 hbx1 (by decide)
  have hlen1 : (l ++ s).length = l.length + s.length := List.length_append
  have hk1 : Kept (fun k => k = gx ∨ R0 = some k) w (w1.setCell ⟨gx, 0, none⟩ (.slice A1 (l ++ s).length c1)) := (hr1.kept.mono fun k _ h => .inr h).setCell _ fun _ => .inl rfl
  have hnew1 := hr1.new
  have hbx2 : Blk (w1.setCell ⟨gx, 0, none⟩ (.slice A1 (l ++ s).length c1)) gx 26 #[.slice A1 (l ++ s).length c1] := hbx1.set (u := .slice A1 (l ++ s).length c1) 0
  have ho2 := own_other ho1 (.slice A1 (l ++ s).length c1) (a := ⟨gx, 0, none⟩) hn1
  rw [hlen1] at hk1 hbx2 ho2 hn1 hnew1
  clear hr1 hbx1 ho1 y0 f0 z0 hr hbox
  generalize w1.setCell ⟨gx, 0, none⟩ (.slice A1 (l.length + s.length) c1) = W2 at hk1 hbx2 ho2 ⊢
  generalize hls : l ++ s = ls at ho2 hlen1
  rw [← hlen1] at ho2 hn1 hbx2 hnew1
  have x0 := hbx2.cell 0
  simp at x0
  rw [hlen1] at x0
  have hrep := Tryd.strings_Repeat ⟨#[32]⟩ nf W2.drew (by omega) (by show 1 * nf ≤ _; omega)
  have hrep2 : Calls Tryd.prog 62 #[.string ⟨#[32]⟩, .int .i64 nf] W2.drew fun e w' => e = .returned (.string (bs (List.replicate nf 32))) ∧ Below W2.drew.heap.size W2.drew w' := hrep.mono fun e w' h => ⟨by rw [h.1]; exact congrArg (fun x => Ending.returned (.string x)) (rep_blank nf), h.2⟩
  clear hrep
  refine wp_region_plan (fun W => W.cell? ⟨gx, 0, none⟩ = some (.slice A1 (l.length + s.length) c1)) [(false, 0), (false, 1), (false, 2), (false, 3), (false, 4), (true, 5), (true, 6), (true, 7)] (by kernel_rfl) (by kernel_rfl) (x0) ?_
  simp only [planOps, List.map, List.getD_cons_zero, List.getD_cons_succ]
  iterate 5 ((first | refine plan_quiet (v := ?_) rfl rfl (fun w' hw' => ?_) ?_ | refine plan_calm (v := ?_) (tt_of) rfl (fun w' hw' => ?_) ?_); rotate_left; (focus (go_simp <;> (first | with_reducible rfl | (rw [if_neg (by simp [undef])]; try rfl) | omega))); simp only [Act.put, List.setIfInBounds_toArray, List.set_cons_zero, List.set_cons_succ])
  refine plan_loud rfl (fun K hK => ?_)
  go_simp
  refine hrep2.mono ?_
  rintro e W3 ⟨rfl, hb3⟩
  clear hrep2
  have hb3' : Below W2.heap.size W2 W3 := ((Below.refl _ W2).drew).trans hb3
  have hbx3 := hbx2.below hb3' hbx2.lt
  have ho3 := own_below ho2 hb3'
  have hk3 := hk1.trans (Kept.of_below hb3' _)
  have x0 := hbx3.cell 0
  simp at x0
  rw [hlen1] at x0
  clear hbx2 ho2 hk1 hb3 hb3'
  refine hK _ _ (x0) ?_
  clear hK K
  (try simp only [Act.put, List.setIfInBounds_toArray, List.set_cons_zero, List.set_cons_succ])
  refine plan_loud rfl (fun K hK => ?_)
  have hr3 := Row8.first ho3 (by have := hk3.size; omega)
  refine wp_row_text _ _ 26 9 rfl Tryd.underlying26 Tryd.underlying9 u8info (by first | rfl | (simp only [hlen1]; rfl)) hr3 (List.replicate nf 32) rfl (by rw [List.length_replicate]; omega) ?_
  intro v4 W4 hr4
  obtain ⟨A4, c4, rfl⟩ := own_form hr4.own
  have hbx4 := hr4.kept.blk hbx3 (own_notblk ho3 hbx3 (by decide))
  have x0 := hbx4.cell 0
  simp at x0
  rw [hlen1] at x0
  refine hK _ _ (x0) ?_
  clear hK K
  (try simp only [Act.put, List.setIfInBounds_toArray, List.set_cons_zero, List.set_cons_succ])
  refine plan_last rfl (by kernel_rfl) (by kernel_rfl) (fun K hK => ?_)
  have f0 := hbx4.frozen 0
  have ho4 := hr4.own
  have hn4 : (Value.slice A4 (ls ++ List.replicate nf 32).length c4).ownBlock ≠ some gx := own_notblk ho4 hbx4 (by decide)
  have hbx5 : Blk (W4.setCell ⟨gx, 0, none⟩ (.slice A4 (ls ++ List.replicate nf 32).length c4)) gx 26 #[.slice A4 (ls ++ List.replicate nf 32).length c4] := hbx4.set (u := .slice A4 (ls ++ List.replicate nf 32).length c4) 0
  have ho5 := own_other ho4 (.slice A4 (ls ++ List.replicate nf 32).length c4) (a := ⟨gx, 0, none⟩) hn4
  have hk5 : Kept (fun k => k = gx ∨ R0 = some k) w (W4.setCell ⟨gx, 0, none⟩ (.slice A4 (ls ++ List.replicate nf 32).length c4)) := (hk3.cut hr4.kept (fun k h => (hnew1 k h).elim (fun h => .inl (.inr h)) .inr)).setCell _ fun _ => .inl rfl
  go_simp
  refine hK _ _ (trivial) ?_
  clear hK K
  (try simp only [Act.put, List.setIfInBounds_toArray, List.set_cons_zero, List.set_cons_succ])
  refine plan_end ?_
  clear x0 f0
  have hll : (ls ++ List.replicate nf 32).length = l.length + s.length + nf := by rw [List.length_append, List.length_replicate, hlen1]
  have hfin : ls ++ List.replicate nf 32 = l ++ (s ++ List.replicate nf 32) := by rw [← hls, List.append_assoc]
  have hnw : ∀ k, (Value.slice A4 (ls ++ List.replicate nf 32).length c4).ownBlock = some k → R0 = some k ∨ w.heap.size ≤ k := fun k h => by
    rcases hr4.new k h with h1 | h1
    · exact hnew1 k h1
    · exact .inr (Nat.le_trans hk3.size h1)
  rw [hll] at hbx5 ho5 hk5 hnw
  generalize W4.setCell ⟨gx, 0, none⟩ (.slice A4 (l.length + s.length + nf) c4) = W9 at hbx5 ho5 hk5 ⊢
  refine bodyPost_end (v := .tuple #[]) ?_ ?_ ?_
  · simp [results, Tryd.results61, go_sem]
  · rfl
  · refine ⟨rfl, _, hbx5, ?_, hk5, hnw⟩
    rw [← hfin, hll]
    exact ho5
end Go.Proofs.YtolknddegfcmpaaDoor

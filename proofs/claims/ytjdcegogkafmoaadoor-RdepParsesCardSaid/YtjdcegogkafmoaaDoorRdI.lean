/- The walk of rdep's reader.group, over dependency's contract. -/
import Derived.Test.YtjdcegogkafmoaaDoorRdH
namespace Go.Proofs.YtjdcegogkafmoaaDoor
open Go.RowKit
theorem info_rich : (Tryd.prog.info? 27).map (fun i => (i.zero, i.size, i.bytes)) = some (some (.agg #[.string ⟨#[]⟩, .string ⟨#[]⟩, .int .i64 0, .string ⟨#[]⟩, .slice none 0 0]), 5, 80) := by kernel_rfl
/-- What group has in memory, ahead of a round. -/
structure GT (B : Nat) (w : World) (gr gA gF gD m : Nat) (op : List UInt8) (kids : List Rdp) (kv : Value) (ts : List Tk) (n : Nat) (W : World) : Prop where
  kept : Kept (fun k => k = gr) w W
  rs : RS B W gr ts n
  bA : Blk W gA 27 #[.string ⟨#[]⟩, .string ⟨#[]⟩, .int .i64 0, .string ⟨#[]⟩, .slice none 0 0]
  bF : Blk W gF 30 #[.string ⟨#[]⟩, .int .i64 0, .int .i64 0]
  bD : Blk W gD 27 #[.string (bs op), .string ⟨#[]⟩, .int .i64 0, .string ⟨#[]⟩, kv]
  own : OwnL 5 (Rr m) 27 w.heap.size (fun k => k < w.heap.size ∨ (k = gA ∨ (k = gF ∨ k = gD))) W kv kids
  hA : w.heap.size ≤ gA
  hF : w.heap.size ≤ gF
  hD : w.heap.size ≤ gD
  hAF : gA ≠ gF
  hAD : gA ≠ gD
  hFD : gF ≠ gD
  hB : B ≤ w.heap.size
theorem GT.below {B : Nat} {w W W' : World} {gr gA gF gD m n : Nat} {op : List UInt8} {kids : List Rdp} {kv : Value} {ts : List Tk} (h : GT B w gr gA gF gD m op kids kv ts n W) (hb : Below W.heap.size W W') : GT B w gr gA gF gD m op kids kv ts n W' :=
  ⟨h.kept.trans (Kept.of_below hb _), h.rs.below hb, h.bA.below hb h.bA.lt, h.bF.below hb h.bF.lt, h.bD.below hb h.bD.lt, h.own.keep (good_rich _) (Kept.of_below hb _), h.hA, h.hF, h.hD, h.hAF, h.hAD, h.hFD, h.hB⟩
/-- Behind a call that writes the reader alone. -/
theorem GT.next {B : Nat} {w W W' : World} {gr gA gF gD m n n' : Nat} {op : List UInt8} {kids : List Rdp} {kv : Value} {ts ts' : List Tk} (h : GT B w gr gA gF gD m op kids kv ts n W) (hr : RS B W' gr ts' n') (k : Kept (fun k => k = gr) W W') (hgr : gr < w.heap.size) : GT B w gr gA gF gD m op kids kv ts' n' W' :=
  ⟨h.kept.trans k, hr, k.blk h.bA (fun e => by have := h.hA; omega), k.blk h.bF (fun e => by have := h.hF; omega), k.blk h.bD (fun e => by have := h.hD; omega), h.own.keep (good_rich _) (k.mono fun i _ e => .inl (by rw [e]; exact hgr)), h.hA, h.hF, h.hD, h.hAF, h.hAD, h.hFD, h.hB⟩
theorem two_alloc (w : World) (c5 c3 : Array Value) : ∃ W gK gE, W = (w.alloc (.cells c5 27)).alloc (.cells c3 30) ∧ gK = w.heap.size ∧ gE = w.heap.size + 1 ∧ Blk W gK 27 c5 ∧ Blk W gE 30 c3 ∧ Below w.heap.size w W ∧ w.heap.size ≤ gK ∧ w.heap.size ≤ gE := by
  have b0 := Blk.new w 27 c5
  have q0 : Below w.heap.size w (w.alloc (.cells c5 27)) := (Below.refl _ w).alloc (Nat.le_refl _) _
  have s1 : (w.alloc (.cells c5 27)).heap.size = w.heap.size + 1 := by simp
  refine ⟨_, _, _, rfl, rfl, rfl, ?_⟩
  generalize w.alloc (.cells c5 27) = W1 at b0 q0 s1 ⊢
  have b1 := Blk.new W1 30 c3
  have q1 : Below W1.heap.size W1 (W1.alloc (.cells c3 30)) := (Below.refl _ _).alloc (Nat.le_refl _) _
  have b2 := b0.below q1 b0.lt
  rw [s1] at b1
  exact ⟨b2, b1, q0.trans (q1.mono q0.size), Nat.le_refl _, by omega⟩
theorem ownL_notX {α : Type} {sz : Nat} {R : Rel α} {e : TypeId} {base : Nat} {X : Nat → Prop} {w : World} {v : Value} {l : List α} (h : OwnL sz R e base X w v l) {k : Nat} (hk : v.ownBlock = some k) : ¬ X k ∧ k < w.heap.size := by
  obtain ⟨css, ho, _, hX, _⟩ := h
  exact ⟨hX k hk, (ho.lt k hk).2⟩
theorem GT.push {B : Nat} {w W W7 : World} {gr gA gF gD m n : Nat} {op : List UInt8} {kids kids' : List Rdp} {kv v7 : Value} {ts : List Tk} (h : GT B w gr gA gF gD m op kids kv ts n W) (k7 : Kept (fun k => kv.ownBlock = some k) W W7)
    (ho : OwnL 5 (Rr m) 27 w.heap.size (fun k => k < w.heap.size ∨ (k = gA ∨ (k = gF ∨ k = gD))) W7 v7 kids') (hgr : gr < w.heap.size) : GT B w gr gA gF gD m op kids' v7 ts n (W7.setCell ⟨gD, 4, none⟩ v7) := by
  have nX : ∀ k, kv.ownBlock = some k → w.heap.size ≤ k ∧ (k ≠ gA ∧ k ≠ gF ∧ k ≠ gD) := fun k hk => by
    have := (ownL_notX h.own hk).1
    exact ⟨by have := own_ge h.own hk; exact this, fun e => this (.inr (.inl e)), fun e => this (.inr (.inr (.inl e))), fun e => this (.inr (.inr (.inr e)))⟩
  have kD : Kept (fun k => k = gD) W7 (W7.setCell ⟨gD, 4, none⟩ v7) := (Kept.refl _ W7).setCell (p := ⟨gD, 4, none⟩) v7 fun _ => rfl
  have bD7 := k7.blk h.bD (fun e => (nX _ e).2.2.2 rfl)
  have bD8 : Blk (W7.setCell ⟨gD, 4, none⟩ v7) gD 27 #[.string (bs op), .string ⟨#[]⟩, .int .i64 0, .string ⟨#[]⟩, v7] := by
    have := bD7.set (u := v7) 4
    simpa using this
  have rs7 := h.rs.keepB k7 fun i e => ⟨fun e2 => by have := (nX i e).1; omega, Nat.le_trans h.hB (nX i e).1⟩
  have rs8 := rs7.keepB kD fun i e => ⟨fun e2 => by have := h.hD; omega, by rw [e]; exact Nat.le_trans h.hB h.hD⟩
  exact ⟨(h.kept.cutR k7 fun i e => .inr (nX i e).1).cutR kD fun i e => .inr (by rw [e]; exact h.hD), rs8, kD.blk (k7.blk h.bA fun e => (nX _ e).2.1 rfl) h.hAD, kD.blk (k7.blk h.bF fun e => (nX _ e).2.2.1 rfl) h.hFD, bD8, ho.keep (good_rich _) (kD.mono fun i _ e => .inr (.inr (.inr e))), h.hA, h.hF, h.hD, h.hAF, h.hAD, h.hFD, h.hB⟩
theorem foR_ne {o w : List UInt8} {n : Nat} (h : foR o n w = true) : w ≠ [] := by
  rintro rfl
  unfold foR at h
  split at h
  · exact absurd h (by decide)
  · split at h
    · rename_i ho
      have e : ([] : List UInt8) = o := of_decide_eq_true h
      rw [← e] at ho
      exact absurd ho (by decide)
    · split at h
      · rw [Bool.and_eq_true] at h
        exact absurd h.2 (by decide)
      · exact absurd h (by decide)
theorem GT.setop {B : Nat} {w W : World} {gr gA gF gD m n : Nat} {op : List UInt8} {kids : List Rdp} {kv : Value} {ts : List Tk} (h : GT B w gr gA gF gD m op kids kv ts n W) (op' : List UInt8) : GT B w gr gA gF gD m op' kids kv ts n (W.setCell ⟨gD, 0, none⟩ (.string (bs op'))) := by
  have kD : Kept (fun k => k = gD) W (W.setCell ⟨gD, 0, none⟩ (.string (bs op'))) := (Kept.refl _ W).setCell (p := ⟨gD, 0, none⟩) (.string (bs op')) fun _ => rfl
  have bD8 : Blk (W.setCell ⟨gD, 0, none⟩ (.string (bs op'))) gD 27 #[.string (bs op'), .string ⟨#[]⟩, .int .i64 0, .string ⟨#[]⟩, kv] := by
    have := h.bD.set (u := .string (bs op')) 0
    simpa using this
  obtain ⟨A, c, b1, _⟩ := h.rs.sl
  exact ⟨h.kept.cutR kD fun i e => .inr (by rw [e]; exact h.hD), h.rs.keepB kD fun i e => ⟨fun e2 => blkNe b1 h.bD (by decide) (e2.symm.trans e), by rw [e]; exact Nat.le_trans h.hB h.hD⟩, kD.blk h.bA h.hAD, kD.blk h.bF h.hFD, bD8, h.own.keep (good_rich _) (kD.mono fun i _ e => .inr (.inr (.inr e))), h.hA, h.hF, h.hD, h.hAF, h.hAD, h.hFD, h.hB⟩
theorem kept_set5 (W : World) (gA : Nat) (a0 a1 a2 a3 a4 : Value) : Kept (fun k => k = gA) W (((((W.setCell ⟨gA, 0, none⟩ a0).setCell ⟨gA, 1, none⟩ a1).setCell ⟨gA, 2, none⟩ a2).setCell ⟨gA, 3, none⟩ a3).setCell ⟨gA, 4, none⟩ a4) :=
  ((((((Kept.refl (fun k => k = gA) W).setCell (p := ⟨gA, 0, none⟩) a0 fun _ => rfl).setCell (p := ⟨gA, 1, none⟩) a1 fun _ => rfl).setCell (p := ⟨gA, 2, none⟩) a2 fun _ => rfl).setCell (p := ⟨gA, 3, none⟩) a3 fun _ => rfl).setCell (p := ⟨gA, 4, none⟩) a4 fun _ => rfl)
theorem kept_set53 (W : World) (gA gF : Nat) (a0 a1 a2 a3 a4 f0 f1 f2 : Value) : Kept (fun k => k = gA ∨ k = gF) W ((((((((W.setCell ⟨gA, 0, none⟩ a0).setCell ⟨gA, 1, none⟩ a1).setCell ⟨gA, 2, none⟩ a2).setCell ⟨gA, 3, none⟩ a3).setCell ⟨gA, 4, none⟩ a4).setCell ⟨gF, 0, none⟩ f0).setCell ⟨gF, 1, none⟩ f1).setCell ⟨gF, 2, none⟩ f2) :=
  (((((kept_set5 W gA a0 a1 a2 a3 a4).mono fun _ _ e => .inl e).setCell (p := ⟨gF, 0, none⟩) f0 fun _ => .inr rfl).setCell (p := ⟨gF, 1, none⟩) f1 fun _ => .inr rfl).setCell (p := ⟨gF, 2, none⟩) f2 fun _ => .inr rfl)
set_option maxRecDepth 20000 in
set_option maxHeartbeats 16000000 in
theorem group_any (B K : Nat) (HD : ∀ j, j < K → DepK B j) : GrpK B K := by
  intro ts0 n0 a gr W h hwf hbd hn ha1 ha2 hT hgr hB hln hfu
  have HDK := Lib.hid HD
  have HBD := Lib.hid hbd
  clear HD hbd
  have hgW := h.lt
  obtain ⟨R, HR⟩ : ∃ R, Hid (groupP K [] [] ts0 n0 a = R) := ⟨_, Lib.hid rfl⟩
  rw [HR.out]
  obtain ⟨W1, gA, gF, hW1, hgA, hgF, bA, bF, hb1, hA, hF⟩ := init2 W
  obtain ⟨m, HM⟩ : ∃ m, Hid (m = 40 - a) := ⟨_, Lib.hid rfl⟩
  have hm1 : 41 - a = m + 1 := by rw [HM.out]; omega
  rw [hm1]
  clear hm1
  go_enter Tryd.func28, Tryd.ntmps28
  go_upto_region 1 with fail
  rw [← hW1, ← hgF, ← hgA]
  clear hW1 hgA hgF
  have hAF : gA ≠ gF := blkNe bA bF (by decide)
  have bD : Blk (W1.alloc (.cells #[.string ⟨#[]⟩, .string ⟨#[]⟩, .int .i64 0, .string ⟨#[]⟩, .slice none 0 0] 27)) W1.heap.size 27 #[.string (bs []), .string ⟨#[]⟩, .int .i64 0, .string ⟨#[]⟩, .slice none 0 0] := Blk.new W1 _ _
  have hq : Below W1.heap.size W1 (W1.alloc (.cells #[.string ⟨#[]⟩, .string ⟨#[]⟩, .int .i64 0, .string ⟨#[]⟩, .slice none 0 0] 27)) := (Below.refl _ _).alloc (Nat.le_refl _) _
  have hAD : gA ≠ W1.heap.size := fun e => by have := bA.lt; omega
  have hFD : gF ≠ W1.heap.size := fun e => by have := bF.lt; omega
  have gt0 : GT B W gr gA gF W1.heap.size (m + 1) [] [] (.slice none 0 0) ts0 n0 (W1.alloc (.cells #[.string ⟨#[]⟩, .string ⟨#[]⟩, .int .i64 0, .string ⟨#[]⟩, .slice none 0 0] 27)) :=
    ⟨(Kept.of_below hb1 _).trans (Kept.of_below hq _), (h.below hb1).below hq, bA.below hq bA.lt, bF.below hq bF.lt, bD, OwnL.nil _ _ _ _ _ _, hA, hF, hb1.size, hAF, hAD, hFD, hB⟩
  clear hq bA bF hb1 bD h hA hF hAF hAD hFD
  go_wp2_with fail
  generalize (W1.alloc (.cells #[.string ⟨#[]⟩, .string ⟨#[]⟩, .int .i64 0, .string ⟨#[]⟩, .slice none 0 0] 27)) = W2 at gt0 ⊢
  generalize W1.heap.size = gD at gt0 ⊢
  have hbd0 := HBD.out
  go_loopg [] K (fun G wr => ∃ (j : Nat) (op : List UInt8) (kids : List Rdp) (ts : List Tk) (n : Nat) (A : Option Addr) (c : Nat), G = j + 1 ∧ j < K ∧ 2 * ts.length + 2 ≤ j + 1 ∧ kids.length + ts.length ≤ ts0.length ∧ WfT ts ∧ n ≤ 64 ∧ GT B W gr gA gF gD (m + 1) op kids (.slice A kids.length c) ts n wr ∧ Hid (R = groupP (j + 1) op kids ts n a))
  case atStart => exact ⟨K - 1, [], [], ts0, n0, none, 0, by omega, by omega, by omega, by simp, hwf, hn, gt0, Lib.hid (by rw [show K - 1 + 1 = K by omega]; exact HR.out.symm)⟩
  case round =>
    clear HR gt0 hbd0 HBD hn hfu
    obtain ⟨j, op, kids, ts, n, A, c, rfl, hGK, hfu, hkl, hwf, hn, gt, HE⟩ := hrel
    have TTW := hT.keep gt.kept (fun i hi e => by omega)
    have hdep := HDK.out j (by omega) ts n a gr wr gt.rs hwf hwf.bd hn ha2 TTW hgr (Nat.le_trans hB gt.kept.size) (by omega) (by omega)
    rw [← HM.out] at hdep
    have HST : Hid (R = match depP j ts n a with | .err a c => .err a c | .ok kid ts1 n1 => if (hdT ts1).1 = [41] ∧ clR op (kids.length + 1) = true then .ok (.mk op [] 0 [] (kids ++ [kid])) ts1.tail n1 else if foR op (kids.length + 1) (hdT ts1).1 = false then .err (hdT ts1).2 3 else groupP j (if op = [] then (hdT ts1).1 else op) (kids ++ [kid]) ts1.tail n1 a) := Lib.hid (by rw [HE.out, groupP]; rfl)
    obtain ⟨PRr, HPR⟩ : ∃ x, Hid (depP j ts n a = x) := ⟨_, Lib.hid rfl⟩
    rw [HPR.out] at hdep HST
    have hgA2 : gA ≠ gr := fun e => by have := gt.hA; omega
    have hgF2 : gF ≠ gr := fun e => by have := gt.hF; omega
    have hgD2 : gD ≠ gr := fun e => by have := gt.hD; omega
    clear HE TTW HDK
    cases PRr with
    | err ea ec =>
      go_upto_region 3 with (go_at_call 15; refine hdep.mono ?_; clear hdep; rintro rr W5 ⟨hk5, hec, rfl⟩)
      have HV : Hid (R = .err ea ec) := HST
      have hA := gt.hA
      have hF := gt.hF
      have hAF := gt.hAF
      have hFA : gF ≠ gA := fun e => hAF e.symm
      have bA5 := hk5.blk gt.bA hgA2
      have bF5 := hk5.blk gt.bF hgF2
      have kept5 := gt.kept.trans hk5
      obtain ⟨W6, gK, gE, hW6, hgK, hgE, bK, bE, hb6, hK, hE⟩ := two_alloc W5 #[.string ⟨#[]⟩, .string ⟨#[]⟩, .int .i64 0, .string ⟨#[]⟩, .slice none 0 0] #[.string ⟨#[]⟩, .int .i64 (ea : Int), .int .i64 ec]
      rw [← hW6, ← hgE, ← hgK]
      have hEA : gE ≠ gA := fun e => by have := bA5.lt; omega
      have hEF : gE ≠ gF := fun e => by have := bF5.lt; omega
      have bA6 := bA5.below hb6 bA5.lt
      have bF6 := bF5.below hb6 bF5.lt
      have kept6 := kept5.trans (Kept.of_below hb6 _)
      have x0 := bE.cell 0
      have x1 := bE.cell 1
      have x2 := bE.cell 2
      simp at x0 x1 x2
      have qec : (ec != 0) = true := by simpa using hec
      clear hW6 hgK hgE bK bE hb6 hK hE bA5 bF5 kept5 hk5 gt HST
      obtain ⟨e0, e1, e2, e3, e4, f0, f1, f2, eA, eF⟩ := outs2 bA6 bF6
      have eA0 := eA 0
      have eA1 := eA 1
      have eA2 := eA 2
      have eA3 := eA 3
      have eA4 := eA 4
      have eF0 := eF 0
      have eF1 := eF 1
      have eF2 := eF 2
      go_upto_region 4 with fail
      refine wp_region_plan (fun W => W.cell? ⟨gE, 0, none⟩ = some (.string ⟨#[]⟩) ∧ W.cell? ⟨gE, 1, none⟩ = some (.int .i64 (ea : Int)) ∧ W.cell? ⟨gE, 2, none⟩ = some (.int .i64 ec)) [(false, 0), (false, 1), (true, 2), (true, 3)] (by kernel_rfl) (by kernel_rfl) (⟨x0, x1, x2⟩) ?_
      simp only [planOps, List.map, List.getD_cons_zero, List.getD_cons_succ]
      iterate 2 ((first | refine plan_quiet (v := ?_) rfl rfl (fun w' hw' => ?_) ?_ | refine plan_calm (v := ?_) (tt_of) rfl (fun w' hw' => ?_) ?_); rotate_left; (focus (go_simp <;> (first | with_reducible rfl | (rw [if_neg (by simp [undef])]; try rfl) | omega))); simp only [Act.put, List.setIfInBounds_toArray, List.set_cons_zero, List.set_cons_succ])
      refine plan_loud rfl (fun K hK => ?_)
      go_simp
      have kS := (kept_set5 W6 gA (.string ⟨#[]⟩) (.string ⟨#[]⟩) (.int .i64 0) (.string ⟨#[]⟩) (.slice none 0 0)).drew
      refine hK _ _ (⟨kS.cell x0 hEA, kS.cell x1 hEA, kS.cell x2 hEA⟩) ?_
      clear hK K
      (try simp only [Act.put, List.setIfInBounds_toArray, List.set_cons_zero, List.set_cons_succ])
      refine plan_loud rfl (fun K hK => ?_)
      go_simp
      have kT := kept_set53 W6 gA gF (.string ⟨#[]⟩) (.string ⟨#[]⟩) (.int .i64 0) (.string ⟨#[]⟩) (.slice none 0 0) (.string ⟨#[]⟩) (.int .i64 (ea : Int)) (.int .i64 ec)
      have kT := kT.drew
      have hEE : ¬ (gE = gA ∨ gE = gF) := fun h => h.elim hEA hEF
      refine hK _ _ (⟨kT.cell x0 hEE, kT.cell x1 hEE, kT.cell x2 hEE⟩) ?_
      clear hK K
      (try simp only [Act.put, List.setIfInBounds_toArray, List.set_cons_zero, List.set_cons_succ])
      refine plan_end ?_
      clear kS kT x0 x1 x2
      go_wp2_with fail

      obtain ⟨W9, hW9, c1, c2, k9⟩ := ret_mem bA6 bF6 (.string ⟨#[]⟩) (.string ⟨#[]⟩) (.int .i64 0) (.string ⟨#[]⟩) (.slice none 0 0) (.string ⟨#[]⟩) (.int .i64 (ea : Int)) (.int .i64 ec)
      rw [← hW9]
      have hk9 : Kept (fun k => k = gr) W W9.drew := ((kept6).cutR k9 fun i hi => .inr (hi.elim (fun e => by rw [e]; exact hA) (fun e => by rw [e]; exact hF))).drew
      have k0 := c1.cell 0
      have k1 := c1.cell 1
      have k2 := c1.cell 2
      have k3 := c1.cell 3
      have k4 := c1.cell 4
      have m0 := c2.cell 0
      have m1 := c2.cell 1
      have m2 := c2.cell 2
      simp at k0 k1 k2 k3 k4 m0 m1 m2
      refine bodyPost_ret (v := .tuple #[.agg #[.string ⟨#[]⟩, .string ⟨#[]⟩, .int .i64 0, .string ⟨#[]⟩, .slice none 0 0], .agg #[.string ⟨#[]⟩, .int .i64 (ea : Int), .int .i64 ec]]) (by simp [results, Tryd.results28, go_sem, k0, k1, k2, k3, k4, m0, m1, m2]) rfl ?_

      rw [HV.out]
      exact And.intro hk9 (And.intro hec rfl)
    | ok dd tt nn =>
      obtain ⟨kop, kname, kaop, kver, kkids⟩ := dd
      have hlt1 := gt.bA.lt
      have hlt2 := gt.bF.lt
      have hlt3 := gt.bD.lt
      go_upto_region 3 with (go_at_call 15; refine hdep.mono ?_; clear hdep; rintro rr W5 ⟨hk5, ⟨kv, rfl, hkv⟩, hwf5, hlen5, hrs5, hn5⟩; obtain ⟨Ak, ck, rfl, _, _⟩ := hkv.form; simp only [richV, richC, Rdp.op, Rdp.name, Rdp.aop, Rdp.ver, Rdp.kids] at hkv ⊢)
      have gt5 := gt.next hrs5 hk5 hgW
      have hw5 := hk5.size
      have hoX : ∀ k, (Value.slice A kids.length c).ownBlock = some k → k < wr.heap.size := fun k hk => (ownL_notX gt.own hk).2
      have hWr := gt.kept.size
      obtain ⟨W6, gK, gE, hW6, hgK, hgE, bK, bE, hb6, hK, hE⟩ := two_alloc W5 #[.string (bs kop), .string (bs kname), .int .i64 kaop, .string (bs kver), .slice Ak kkids.length ck] #[.string ⟨#[]⟩, .int .i64 0, .int .i64 0]
      rw [← hW6, ← hgE, ← hgK]
      have gt6 := gt5.below hb6
      have hkv6 := Below.sk (good_rich m) hb6 hkv
      have hb6s := hb6.size
      clear hW6 hgK hgE gt5 hkv hrs5 hk5 gt hb6 HPR hK hE
      have x2 := bE.cell 2
      have u0 := bK.cell 0
      have u1 := bK.cell 1
      have u2 := bK.cell 2
      have u3 := bK.cell 3
      have u4 := bK.cell 4
      simp at x2 u0 u1 u2 u3 u4
      have d4 := gt6.bD.cell 4
      have g4 := gt6.bD.frozen 4
      simp at d4
      have hR6 : Rr (m + 1) (fun k => (k < W.heap.size ∨ (k = gA ∨ (k = gF ∨ k = gD))) ∨ (Value.slice A kids.length c).ownBlock = some k) W6 [.string (bs kop), .string (bs kname), .int .i64 kaop, .string (bs kver), .slice Ak kkids.length ck] (.mk kop kname kaop kver kkids) :=
        ⟨_, rfl, hkv6.mono (good_rich m) (by omega) fun k hk h => by
          rcases h with (h | h | h | h) | h
          · omega
          · omega
          · omega
          · omega
          · exact hoX k h⟩
      have hsz6 : W.heap.size ≤ W6.heap.size := by omega
      have hXn : ∀ k, W6.heap.size ≤ k → ¬ (k < W.heap.size ∨ (k = gA ∨ (k = gF ∨ k = gD))) := fun k hk h => by omega
      have hoD : ∀ k, (Value.slice A kids.length c).ownBlock = some k → k ≠ gD := fun k hk e => (ownL_notX gt6.own hk).1 (.inr (.inr (.inr e)))
      go_upto_region 6 with (at_builtin; refine wpList_appendL (l := kids) (good_rich (m + 1)) rfl _ _ _ _ _ 80 rfl Tryd.underlying25 info_rich rfl (by omega) W.heap.size rfl gt6.own [.string (bs kop), .string (bs kname), .int .i64 kaop, .string (bs kver), .slice Ak kkids.length ck] (.mk kop kname kaop kver kkids) rfl hR6 (by omega) (by omega) hsz6 hXn ?_; intro v7 W7 hown7 hk7; obtain ⟨A7, c7, rfl⟩ := hown7.form; have bD7 := hk7.blk gt6.bD (fun e => hoD _ e rfl); have d4' := bD7.cell 4; have g4' := bD7.frozen 4; simp at d4')
      have gt8 := gt6.push hk7 hown7 hgW
      clear hkv6 bK bE x2 u0 u1 u2 u3 u4 d4 g4 hR6 hXn hoD hoX gt6 hown7 hk7 bD7 d4' g4'
      obtain ⟨kid, HKID⟩ : ∃ x, Hid (Rdp.mk kop kname kaop kver kkids = x) := ⟨_, Lib.hid rfl⟩
      rw [HKID.out] at gt8 HST
      rw [show (kids ++ [kid]).length = kids.length + 1 by simp] at gt8
      generalize W7.setCell ⟨gD, 4, none⟩ (.slice A7 (kids.length + 1) c7) = W8 at gt8 ⊢
      obtain ⟨p1, r1, rfl⟩ := hwf5.ne
      have HST3 : Hid (R = if p1.1 = [41] ∧ clR op (kids.length + 1) = true then .ok (.mk op [] 0 [] (kids ++ [kid])) r1 nn else if foR op (kids.length + 1) p1.1 = false then .err p1.2 3 else groupP j (if op = [] then p1.1 else op) (kids ++ [kid]) r1 nn a) := HST
      clear HST HKID
      obtain ⟨b, off, cc, z0, z1, t0, t1, zf⟩ := gt8.rs.first
      go_upto_region 7 with fail
      have hq : Below W8.heap.size W8 (W8.alloc (.cells #[.string (bs p1.1), .int .i64 (p1.2 : Int)] 48)) := (Below.refl _ _).alloc (Nat.le_refl _) _
      have bp := Blk.new W8 48 #[.string (bs p1.1), .int .i64 (p1.2 : Int)]
      have gt9 := gt8.below hq
      clear hq gt8 z0 z1 t0 t1 zf
      generalize W8.alloc (.cells #[.string (bs p1.1), .int .i64 (p1.2 : Int)] 48) = W9 at gt9 bp ⊢
      generalize W8.heap.size = gp at bp ⊢
      have y0 := bp.cell 0
      have y1 := bp.cell 1
      have d0 := gt9.bD.cell 0
      have d4 := gt9.bD.cell 4
      have g0 := gt9.bD.frozen 0
      simp at y0 y1 d0 d4
      have hA := gt9.hA
      have hF := gt9.hF
      have hAF := gt9.hAF
      have hFA : gF ≠ gA := fun e => hAF e.symm
      have TTW := hT.keep gt9.kept (fun i hi e => by omega)
      have e41 := eqS p1.1 [41]
      have o1 := eqS op []
      have o1b : (bs op).toList.isEmpty = decide (op = []) := by rw [toList_bs, Bool.eq_iff_iff]; simp
      have e41b := e41
      have hcst : ((kids.length + 1 : Nat) : Int) = (kids.length : Int) + 1 := by omega
      have hcl : ∀ Wx, Calls Tryd.prog 35 #[.string (bs op), .int .i64 ((kids.length : Int) + 1)] Wx fun e w' => e = .returned (.bool (clR op (kids.length + 1))) ∧ Wx = w' := fun Wx => by
        have := closes_any op (kids.length + 1) Wx
        rw [hcst] at this
        exact this
      have hfol : ∀ Wx, WordsT Wx → Calls Tryd.prog 37 #[.string (bs op), .int .i64 ((kids.length : Int) + 1), .string (bs p1.1)] Wx fun e w' => e = .returned (.bool (foR op (kids.length + 1) p1.1)) ∧ Wx = w' := fun Wx hw => by
        have := follows_any op (kids.length + 1) p1.1 Wx hw
        rw [hcst] at this
        exact this
      clear hcst
      by_cases hp41 : p1.1 = [41]
      · rw [decide_eq_true hp41] at e41 e41b
        cases hcb : clR op (kids.length + 1) with
        | true =>
          have HV : Hid (R = .ok (.mk op [] 0 [] (kids ++ [kid])) r1 nn) := Lib.hid (by rw [HST3.out, if_pos ⟨hp41, hcb⟩])
          have HNE := Lib.hid (show p1.1 ≠ [] by rw [hp41]; simp)
          rw [hcb] at hcl
          clear HST3 hcb hp41 hfol
          have hnx := next_any B gr nn p1 r1 W9 gt9.rs
          go_upto_region 9 with (first
            | (go_at_call 35; refine (hcl _).mono ?_; rintro rr Wc ⟨rfl, rfl⟩)
            | (go_at_call 27; refine hnx.mono ?_; clear hnx; rintro rr Wn ⟨rfl, hr4, hk4⟩))
          have gtn := gt9.next hr4 hk4 hgW
          clear gt9 hr4 hk4 y0 y1 d0 d4 g0 TTW e41 e41b o1 o1b hcl bp
          have d0 := gtn.bD.cell 0
          have d1 := gtn.bD.cell 1
          have d2 := gtn.bD.cell 2
          have d3 := gtn.bD.cell 3
          have d4 := gtn.bD.cell 4
          simp at d0 d1 d2 d3 d4
          obtain ⟨e0, e1, e2, e3, e4, f0, f1, f2, eA, eF⟩ := outs2 gtn.bA gtn.bF
          have eA0 := eA 0
          have eA1 := eA 1
          have eA2 := eA 2
          have eA3 := eA 3
          have eA4 := eA 4
          have eF0 := eF 0
          have eF1 := eF 1
          have eF2 := eF 2
          go_wp2_with fail
          obtain ⟨W9, hW9, c1, c2, k9⟩ := ret_mem gtn.bA gtn.bF (.string (bs op)) (.string ⟨#[]⟩) (.int .i64 0) (.string ⟨#[]⟩) (.slice A7 (kids.length + 1) c7) (.string ⟨#[]⟩) (.int .i64 0) (.int .i64 0)
          rw [← hW9]
          have hk9 : Kept (fun k => k = gr) W W9 := ((gtn.kept).cutR k9 fun i hi => .inr (hi.elim (fun e => by rw [e]; exact hA) (fun e => by rw [e]; exact hF)))
          have k0 := c1.cell 0
          have k1 := c1.cell 1
          have k2 := c1.cell 2
          have k3 := c1.cell 3
          have k4 := c1.cell 4
          have m0 := c2.cell 0
          have m1 := c2.cell 1
          have m2 := c2.cell 2
          simp at k0 k1 k2 k3 k4 m0 m1 m2
          refine bodyPost_ret (v := .tuple #[.agg #[.string (bs op), .string ⟨#[]⟩, .int .i64 0, .string ⟨#[]⟩, .slice A7 (kids.length + 1) c7], .agg #[.string ⟨#[]⟩, .int .i64 0, .int .i64 0]]) (by simp [results, Tryd.results28, go_sem, k0, k1, k2, k3, k4, m0, m1, m2]) rfl ?_

          rw [HV.out]
          have hkv9 : Sk 5 (Rr (m + 1)) (fun k => k < W.heap.size) W9 (.slice A7 (kids.length + 1) c7) (kids ++ [kid]) := ((gtn.own.sk (good_rich _)).keep (good_rich _) (k9.mono fun i _ hi => hi.elim (fun e => .inr (.inl e)) (fun e => .inr (.inr (.inl e))))).mono (good_rich _) (by omega) fun i _ hi => .inl hi
          have hrs9 := gtn.rs.keepB k9 fun i hi => hi.elim (fun e => ⟨fun e2 => hgA2 (e.symm.trans e2), by rw [e]; exact Nat.le_trans hB hA⟩) (fun e => ⟨fun e2 => hgF2 (e.symm.trans e2), by rw [e]; exact Nat.le_trans hB hF⟩)
          exact And.intro hk9 ⟨⟨_, rfl, hkv9⟩, hwf5.next HNE.out, by simp only [List.length_cons] at hlen5; omega, hrs9, hn5⟩
        | false =>
          have HST4 : Hid (R = if foR op (kids.length + 1) p1.1 = false then .err p1.2 3 else groupP j (if op = [] then p1.1 else op) (kids ++ [kid]) r1 nn a) := Lib.hid (by rw [HST3.out, if_neg (fun h => by rw [hcb] at h; exact absurd h.2 (by decide))])
          rw [hcb] at hcl
          clear HST3 hcb hp41
          cases hfo : foR op (kids.length + 1) p1.1 with
          | false =>
            have HV : Hid (R = .err p1.2 3) := Lib.hid (by rw [HST4.out, if_pos hfo])
            rw [hfo] at hfol
            clear HST4 hfo
            go_wp2_with (first
              | (go_at_call 35; refine (hcl _).mono ?_; rintro rr Wc ⟨rfl, rfl⟩)
              | (go_at_call 37; refine (hfol _ TTW.1).mono ?_; rintro rr Wf ⟨rfl, rfl⟩)
              | (go_at_call 16; refine (fault_any p1.1 p1.2 3 _).mono ?_; rintro rr Wg ⟨rfl, hb8⟩; have gtf := gt9.below hb8; obtain ⟨e0, e1, e2, e3, e4, f0, f1, f2, eA, eF⟩ := outs2 gtf.bA gtf.bF; have eA0 := eA 0; have eA1 := eA 1; have eA2 := eA 2; have eA3 := eA 3; have eA4 := eA 4; have eF0 := eF 0; have eF1 := eF 1; have eF2 := eF 2))

            obtain ⟨W9, hW9, c1, c2, k9⟩ := ret_mem gtf.bA gtf.bF (.string ⟨#[]⟩) (.string ⟨#[]⟩) (.int .i64 0) (.string ⟨#[]⟩) (.slice none 0 0) (.string ⟨#[]⟩) (.int .i64 (p1.2 : Int)) (.int .i64 3)
            rw [← hW9]
            have hk9 : Kept (fun k => k = gr) W W9 := ((gtf.kept).cutR k9 fun i hi => .inr (hi.elim (fun e => by rw [e]; exact hA) (fun e => by rw [e]; exact hF)))
            have k0 := c1.cell 0
            have k1 := c1.cell 1
            have k2 := c1.cell 2
            have k3 := c1.cell 3
            have k4 := c1.cell 4
            have m0 := c2.cell 0
            have m1 := c2.cell 1
            have m2 := c2.cell 2
            simp at k0 k1 k2 k3 k4 m0 m1 m2
            refine bodyPost_ret (v := .tuple #[.agg #[.string ⟨#[]⟩, .string ⟨#[]⟩, .int .i64 0, .string ⟨#[]⟩, .slice none 0 0], .agg #[.string ⟨#[]⟩, .int .i64 (p1.2 : Int), .int .i64 3]]) (by simp [results, Tryd.results28, go_sem, k0, k1, k2, k3, k4, m0, m1, m2]) rfl ?_

            rw [HV.out]
            exact And.intro hk9 (And.intro (by decide) rfl)
          | true =>
            have HV0 : Hid (R = groupP j (if op = [] then p1.1 else op) (kids ++ [kid]) r1 nn a) := Lib.hid (by rw [HST4.out, if_neg (by rw [hfo]; simp)])
            have HNE := Lib.hid (foR_ne hfo)
            rw [hfo] at hfol
            clear HST4 hfo
            by_cases hop : op = []
            · have HV : Hid (R = groupP j p1.1 (kids ++ [kid]) r1 nn a) := Lib.hid (by rw [HV0.out, if_pos hop])
              rw [decide_eq_true hop] at o1 o1b
              clear HV0 hop
              go_upto_region 14 with (first
                | (go_at_call 35; refine (hcl _).mono ?_; rintro rr Wc ⟨rfl, rfl⟩)
                | (go_at_call 37; refine (hfol _ TTW.1).mono ?_; rintro rr Wf ⟨rfl, rfl⟩))
              have gt10 := gt9.setop p1.1
              clear TTW o1 o1b e41b
              generalize W9.setCell ⟨gD, 0, none⟩ (.string (bs p1.1)) = Wo at gt10 ⊢
              have hnx := next_any B gr nn p1 r1 Wo gt10.rs
              go_wp2_with (go_at_call 27; refine hnx.mono ?_; clear hnx; rintro rr Wn ⟨rfl, hr4, hk4⟩)
              have gtn := gt10
              clear y0 y1 d0 d4
              have gtz := gtn.next hr4 hk4 hgW
              clear gt9 gt10 gtn hr4 hk4 hfol hcl e41 hA hF
              go_roundg j
              case measure => omega
              case rel => exact ⟨j - 1, p1.1, kids ++ [kid], r1, nn, A7, c7, by omega, by omega, by simp only [List.length_cons] at hlen5; omega, by simp only [List.length_cons] at hlen5; simp; omega, hwf5.next HNE.out, hn5, by rw [show (kids ++ [kid]).length = kids.length + 1 by simp]; exact gtz, Lib.hid (by rw [show j - 1 + 1 = j by omega]; exact HV.out)⟩
            · have HV : Hid (R = groupP j op (kids ++ [kid]) r1 nn a) := Lib.hid (by rw [HV0.out, if_neg hop])
              rw [decide_eq_false hop] at o1 o1b
              clear HV0 hop
              have gt10 := gt9
              have hnx := next_any B gr nn p1 r1 W9 gt10.rs
              go_wp2_with (first
                | (go_at_call 35; refine (hcl _).mono ?_; rintro rr Wc ⟨rfl, rfl⟩)
                | (go_at_call 37; refine (hfol _ TTW.1).mono ?_; rintro rr Wf ⟨rfl, rfl⟩)
                | (go_at_call 27; refine hnx.mono ?_; clear hnx; rintro rr Wn ⟨rfl, hr4, hk4⟩))
              clear TTW o1 o1b e41b
              have gtn := gt10
              clear y0 y1 d0 d4
              have gtz := gtn.next hr4 hk4 hgW
              clear gt9 gt10 gtn hr4 hk4 hfol hcl e41 hA hF
              go_roundg j
              case measure => omega
              case rel => exact ⟨j - 1, op, kids ++ [kid], r1, nn, A7, c7, by omega, by omega, by simp only [List.length_cons] at hlen5; omega, by simp only [List.length_cons] at hlen5; simp; omega, hwf5.next HNE.out, hn5, by rw [show (kids ++ [kid]).length = kids.length + 1 by simp]; exact gtz, Lib.hid (by rw [show j - 1 + 1 = j by omega]; exact HV.out)⟩
      · rw [decide_eq_false hp41] at e41 e41b
        have HST4 : Hid (R = if foR op (kids.length + 1) p1.1 = false then .err p1.2 3 else groupP j (if op = [] then p1.1 else op) (kids ++ [kid]) r1 nn a) := Lib.hid (by rw [HST3.out, if_neg (fun h => hp41 h.1)])
        clear HST3 hp41
        cases hfo : foR op (kids.length + 1) p1.1 with
        | false =>
          have HV : Hid (R = .err p1.2 3) := Lib.hid (by rw [HST4.out, if_pos hfo])
          rw [hfo] at hfol
          clear HST4 hfo
          go_wp2_with (first
            | (go_at_call 35; refine (hcl _).mono ?_; rintro rr Wc ⟨rfl, rfl⟩)
            | (go_at_call 37; refine (hfol _ TTW.1).mono ?_; rintro rr Wf ⟨rfl, rfl⟩)
            | (go_at_call 16; refine (fault_any p1.1 p1.2 3 _).mono ?_; rintro rr Wg ⟨rfl, hb8⟩; have gtf := gt9.below hb8; obtain ⟨e0, e1, e2, e3, e4, f0, f1, f2, eA, eF⟩ := outs2 gtf.bA gtf.bF; have eA0 := eA 0; have eA1 := eA 1; have eA2 := eA 2; have eA3 := eA 3; have eA4 := eA 4; have eF0 := eF 0; have eF1 := eF 1; have eF2 := eF 2))

          obtain ⟨W9, hW9, c1, c2, k9⟩ := ret_mem gtf.bA gtf.bF (.string ⟨#[]⟩) (.string ⟨#[]⟩) (.int .i64 0) (.string ⟨#[]⟩) (.slice none 0 0) (.string ⟨#[]⟩) (.int .i64 (p1.2 : Int)) (.int .i64 3)
          rw [← hW9]
          have hk9 : Kept (fun k => k = gr) W W9 := ((gtf.kept).cutR k9 fun i hi => .inr (hi.elim (fun e => by rw [e]; exact hA) (fun e => by rw [e]; exact hF)))
          have k0 := c1.cell 0
          have k1 := c1.cell 1
          have k2 := c1.cell 2
          have k3 := c1.cell 3
          have k4 := c1.cell 4
          have m0 := c2.cell 0
          have m1 := c2.cell 1
          have m2 := c2.cell 2
          simp at k0 k1 k2 k3 k4 m0 m1 m2
          refine bodyPost_ret (v := .tuple #[.agg #[.string ⟨#[]⟩, .string ⟨#[]⟩, .int .i64 0, .string ⟨#[]⟩, .slice none 0 0], .agg #[.string ⟨#[]⟩, .int .i64 (p1.2 : Int), .int .i64 3]]) (by simp [results, Tryd.results28, go_sem, k0, k1, k2, k3, k4, m0, m1, m2]) rfl ?_

          rw [HV.out]
          exact And.intro hk9 (And.intro (by decide) rfl)
        | true =>
          have HV0 : Hid (R = groupP j (if op = [] then p1.1 else op) (kids ++ [kid]) r1 nn a) := Lib.hid (by rw [HST4.out, if_neg (by rw [hfo]; simp)])
          have HNE := Lib.hid (foR_ne hfo)
          rw [hfo] at hfol
          clear HST4 hfo
          by_cases hop : op = []
          · have HV : Hid (R = groupP j p1.1 (kids ++ [kid]) r1 nn a) := Lib.hid (by rw [HV0.out, if_pos hop])
            rw [decide_eq_true hop] at o1 o1b
            clear HV0 hop
            go_upto_region 14 with (first
              | (go_at_call 35; refine (hcl _).mono ?_; rintro rr Wc ⟨rfl, rfl⟩)
              | (go_at_call 37; refine (hfol _ TTW.1).mono ?_; rintro rr Wf ⟨rfl, rfl⟩))
            have gt10 := gt9.setop p1.1
            clear TTW o1 o1b e41b
            generalize W9.setCell ⟨gD, 0, none⟩ (.string (bs p1.1)) = Wo at gt10 ⊢
            have hnx := next_any B gr nn p1 r1 Wo gt10.rs
            go_wp2_with (go_at_call 27; refine hnx.mono ?_; clear hnx; rintro rr Wn ⟨rfl, hr4, hk4⟩)
            have gtn := gt10
            clear y0 y1 d0 d4
            have gtz := gtn.next hr4 hk4 hgW
            clear gt9 gt10 gtn hr4 hk4 hfol hcl e41 hA hF
            go_roundg j
            case measure => omega
            case rel => exact ⟨j - 1, p1.1, kids ++ [kid], r1, nn, A7, c7, by omega, by omega, by simp only [List.length_cons] at hlen5; omega, by simp only [List.length_cons] at hlen5; simp; omega, hwf5.next HNE.out, hn5, by rw [show (kids ++ [kid]).length = kids.length + 1 by simp]; exact gtz, Lib.hid (by rw [show j - 1 + 1 = j by omega]; exact HV.out)⟩
          · have HV : Hid (R = groupP j op (kids ++ [kid]) r1 nn a) := Lib.hid (by rw [HV0.out, if_neg hop])
            rw [decide_eq_false hop] at o1 o1b
            clear HV0 hop
            have gt10 := gt9
            have hnx := next_any B gr nn p1 r1 W9 gt10.rs
            go_wp2_with (first
              | (go_at_call 35; refine (hcl _).mono ?_; rintro rr Wc ⟨rfl, rfl⟩)
              | (go_at_call 37; refine (hfol _ TTW.1).mono ?_; rintro rr Wf ⟨rfl, rfl⟩)
              | (go_at_call 27; refine hnx.mono ?_; clear hnx; rintro rr Wn ⟨rfl, hr4, hk4⟩))
            clear TTW o1 o1b e41b
            have gtn := gt10
            clear y0 y1 d0 d4
            have gtz := gtn.next hr4 hk4 hgW
            clear gt9 gt10 gtn hr4 hk4 hfol hcl e41 hA hF
            go_roundg j
            case measure => omega
            case rel => exact ⟨j - 1, op, kids ++ [kid], r1, nn, A7, c7, by omega, by omega, by simp only [List.length_cons] at hlen5; omega, by simp only [List.length_cons] at hlen5; simp; omega, hwf5.next HNE.out, hn5, by rw [show (kids ++ [kid]).length = kids.length + 1 by simp]; exact gtz, Lib.hid (by rw [show j - 1 + 1 = j by omega]; exact HV.out)⟩
end Go.Proofs.YtjdcegogkafmoaaDoor


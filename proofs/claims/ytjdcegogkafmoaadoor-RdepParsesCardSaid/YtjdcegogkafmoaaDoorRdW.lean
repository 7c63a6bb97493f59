/- The walk of rdep.atoms. Printed by gen_rdw.py. -/
import Derived.Test.YtjdcegogkafmoaaDoorRdV
namespace Go.Proofs.YtjdcegogkafmoaaDoor
open Go.RowKit
mutual
/-- How many atoms there are. -/
def atT : Rdp → Nat
  | .mk op _ _ _ kids => match op with
    | [] => 1
    | _ :: _ => atTs kids
def atTs : List Rdp → Nat
  | [] => 0
  | d :: l => atT d + atTs l
end
theorem atT_leaf (d : Rdp) (h : d.op = []) : atT d = 1 := by
  obtain ⟨op, name, aop, ver, kids⟩ := d
  have h : op = [] := h
  subst h
  rw [atT.eq_def]
theorem atT_in (d : Rdp) (h : d.op ≠ []) : atT d = atTs d.kids := by
  obtain ⟨op, name, aop, ver, kids⟩ := d
  have h : op ≠ [] := h
  cases op with
  | nil => exact absurd rfl h
  | cons c t =>
    rw [atT.eq_def]
    rfl
theorem atTs_app : ∀ l l' : List Rdp, atTs (l ++ l') = atTs l + atTs l'
  | [], l' => by simp [atTs]
  | d :: l, l' => by rw [List.cons_append, atTs, atTs, atTs_app l l']; omega
/-- The map of what was counted. -/
def CG (w0 : World) (mb : Nat) (p : Ky × Int) : Prop := ∃ l, KG w0 mb p.1 l ∧ p.2 = ((min (atTs l) 65 : Nat) : Int)
def CM (w0 : World) (mb : Nat) (W : World) : Prop := ∃ mo cm, W.heap[mb]? = some mo ∧ MapK mo cm ∧ ∀ p ∈ cm, CG w0 mb p
theorem CM.below {w0 W W' : World} {mb : Nat} (h : CM w0 mb W) (hb : Below W.heap.size W W') : CM w0 mb W' := by
  obtain ⟨mo, cm, h1, h2, h3⟩ := h
  exact ⟨mo, cm, (hb.block mb (Array.getElem?_eq_some_iff.1 h1).1).trans h1, h2, h3⟩
def AtomsK (m : Nat) : Prop := ∀ (d : Rdp) (kv : Value) (w0 w : World) (mb : Nat), mb < w0.heap.size → Kept (fun k => k = mb) w0 w → Sk 5 (Rr m) (fun k => k = mb) w0 kv d.kids → CM w0 mb w →
  Calls Tryd.prog 21 #[richV d kv, .map (some mb)] w fun e w' => e = .returned (.int .i64 ((min (atT d) 65 : Nat) : Int)) ∧ Kept (fun k => k = mb) w w' ∧ CM w0 mb w'
set_option maxRecDepth 20000 in
set_option maxHeartbeats 16000000 in
theorem atoms_step (m : Nat) (IH : ∀ j, m = j + 1 → AtomsK j) : AtomsK m := by
  intro d kv w0 w mb hmb hkw hs hcm
  obtain ⟨A, cap, rfl, hc1, hc2⟩ := hs.form
  unfold maxLen at hc2
  obtain ⟨T, HT⟩ : ∃ T, Hid (T = min (atT d) 65) := ⟨_, Lib.hid rfl⟩
  rw [← HT.out]
  have HIH := Lib.hid IH
  clear IH
  simp only [richV, richC]
  go_enter Tryd.func21, Tryd.ntmps21
  go_upto_region 1 with fail
  have bk := Blk.new w 27 #[.string (bs d.op), .string (bs d.name), .int .i64 d.aop, .string (bs d.ver), .slice A d.kids.length cap]
  have hq := (Below.refl w.heap.size w).alloc (Nat.le_refl _) (.cells #[.string (bs d.op), .string (bs d.name), .int .i64 d.aop, .string (bs d.ver), .slice A d.kids.length cap] 27)
  have hk1 : Kept (fun k => k = mb) w (w.alloc (.cells #[.string (bs d.op), .string (bs d.name), .int .i64 d.aop, .string (bs d.ver), .slice A d.kids.length cap] 27)) := Kept.of_below hq _
  have hcm := hcm.below hq
  have hgm : w.heap.size ≠ mb := by have := hkw.size; omega
  have hws := hkw.size
  have hkw1 := hkw.trans hk1
  have hsz1 := hq.size
  clear hq
  generalize w.alloc (.cells #[.string (bs d.op), .string (bs d.name), .int .i64 d.aop, .string (bs d.ver), .slice A d.kids.length cap] 27) = W1 at bk hk1 hcm hkw1 hsz1 ⊢
  generalize hgk : w.heap.size = gk at bk hgm hsz1 ⊢
  obtain ⟨k0, k1, k2, k3, k4⟩ := outs5 bk
  have e1 := eqS d.op []
  have e1b : (bs d.op).toList.isEmpty = decide (d.op = []) := by rw [toList_bs, Bool.eq_iff_iff]; simp
  by_cases hop : d.op = []
  · rw [decide_eq_true hop] at e1 e1b
    have hT : T = 1 := by rw [HT.out, atT_leaf d hop]; rfl
    clear hop
    go_wp2_with fail
    go_ret
    exact ⟨by rw [hT]; rfl, hk1, hcm⟩
  rw [decide_eq_false hop] at e1 e1b
  have HAT : Hid (T = min (atTs d.kids) 65) := Lib.hid (by rw [HT.out, atT_in d hop])
  clear hop HT
  by_cases hkl : d.kids.length = 0
  · have q1 : ((d.kids.length : Int) == 0) = true := by rw [beq_iff_eq]; omega
    have hT : T = 0 := by rw [HAT.out, List.length_eq_zero_iff.1 hkl]; rfl
    clear hkl
    go_wp2_with fail
    go_ret
    exact ⟨by rw [hT]; rfl, hk1, hcm⟩
  have q1 : ((d.kids.length : Int) == 0) = false := by simpa using (show ¬ (d.kids.length : Int) = 0 by omega)
  have q2 : 0 < d.kids.length := by omega
  have hkn : d.kids ≠ [] := fun e => hkl (by rw [e]; rfl)
  obtain ⟨b3, off3, rfl, _⟩ := hs.rich q2
  have hKG : KG w0 mb (⟨b3, off3, none⟩, d.kids.length) d.kids := ⟨⟨cap, m, hs⟩, hkn⟩
  clear hkl
  go_upto_region 5 with fail
  have KS : ∀ W', Below W1.heap.size W1 W' → W'.cell? ⟨gk, 4, none⟩ = some (.slice (some ⟨b3, off3, none⟩) d.kids.length cap) := fun W' hb => (Kept.of_below hb nowhere).cell k4 fun h => h
  refine wp_region_plan (fun W => W.cell? ⟨gk, 4, none⟩ = some (.slice (some ⟨b3, off3, none⟩) d.kids.length cap)) [(false, 0), (false, 1), (false, 2), (false, 3), (false, 4), (false, 5), (false, 6), (true, 7), (true, 8)] (by kernel_rfl) (by kernel_rfl) (KS _ ((Below.refl _ W1).drew)) ?_
  simp only [planOps, List.map, List.getD_cons_zero, List.getD_cons_succ]
  iterate 7 ((first | refine plan_quiet (v := ?_) rfl rfl (fun w' hw' => ?_) ?_ | refine plan_calm (v := ?_) (tt_of) rfl (fun w' hw' => ?_) ?_); rotate_left; (focus (go_simp <;> (first | with_reducible rfl | (rw [if_neg (by simp [undef])]; try rfl) | omega))); simp only [Act.put, List.setIfInBounds_toArray, List.set_cons_zero, List.set_cons_succ])
  refine plan_loud rfl (fun K hK => ?_)
  go_simp
  have qa := ((Below.refl W1.heap.size W1).drew).alloc (Nat.le_refl _) (.cells #[.pointer none, .int .i64 0] 62)
  refine hK _ _ (KS _ qa) ?_
  clear hK K
  (try simp only [Act.put, List.setIfInBounds_toArray, List.set_cons_zero, List.set_cons_succ])
  refine plan_loud rfl (fun K hK => ?_)
  go_simp
  have ql := ((Below.refl W1.heap.size W1).alloc (Nat.le_refl _) (.cells #[.pointer (some ⟨b3, off3, none⟩), .int .i64 (d.kids.length : Int)] 62)).drew
  refine hK _ _ (KS _ ql) ?_
  clear hK K
  (try simp only [Act.put, List.setIfInBounds_toArray, List.set_cons_zero, List.set_cons_succ])
  refine plan_end ?_
  have bL := (Blk.new W1 62 #[.pointer (some ⟨b3, off3, none⟩), .int .i64 (d.kids.length : Int)]).drew
  have bk := bk.below ql bk.lt
  have hcm := hcm.below ql
  have hk2 := hk1.trans (Kept.of_below ql (fun k => k = mb))
  have hkw2 := hkw1.trans (Kept.of_below ql (fun k => k = mb))
  have hgl : W1.heap.size ≠ mb := by omega
  clear qa ql KS hk1 hkw1 k0 k1 k2 k3 k4
  generalize (W1.alloc (.cells #[.pointer (some ⟨b3, off3, none⟩), .int .i64 (d.kids.length : Int)] 62)).drew = W2 at bk bL hcm hk2 hkw2 ⊢
  generalize W1.heap.size = gl at bL hgl hsz1 ⊢
  obtain ⟨k0, k1, k2, k3, k4⟩ := outs5 bk
  have l0 := bL.cell 0
  have l1 := bL.cell 1
  simp at l0 l1
  obtain ⟨mo, cm, hmo, hMK, hCG⟩ := hcm
  have hks : ∀ p ∈ cm, KyOk W2 p.1 := fun p hp => by
    obtain ⟨_, hg, _⟩ := hCG p hp
    exact hg.ok hkw2
  have hget := mapK_get W2 hmo hMK (⟨b3, off3, none⟩, d.kids.length) (hKG.ok hkw2) hks
  simp only [keyK] at hget
  cases hfk : findK (⟨b3, off3, none⟩, d.kids.length) cm with
  | some q =>
    rw [hfk] at hget
    simp only [Option.map_some, Option.getD_some, Option.isSome_some] at hget
    have hq2 : q.2 = (T : Int) := by
      obtain ⟨l, hg, hx⟩ := hCG _ (List.mem_of_getElem? (findK_some hfk))
      rw [← hKG.fun hg, ← HAT.out] at hx
      exact hx
    rw [hq2] at hget
    clear hq2 hks
    go_wp2_with fail
    go_ret
    exact ⟨rfl, hk2, mo, cm, hmo, hMK, hCG⟩
  | none =>
    rw [hfk] at hget
    simp only [Option.map_none, Option.getD_none, Option.isSome_none] at hget
    have hcm : CM w0 mb W2 := ⟨mo, cm, hmo, hMK, hCG⟩
    clear hmo hMK hCG hks hfk
    go_upto_region 10 with fail
    clear hget
    go_wp2_with fail
    go_loopg [8, 36] d.kids.length (fun G s8 s36 wx => ∃ t : Nat, t ≤ d.kids.length ∧ G = d.kids.length - t ∧ s8 = .int .i64 ((min (atTs (d.kids.take t)) 65 : Nat) : Int) ∧ s36 = .int .i64 (t : Int) ∧ Kept (fun k => k = mb) W2 wx ∧ CM w0 mb wx)
    case atStart => exact ⟨0, Nat.zero_le _, rfl, by simp [atTs], rfl, Kept.refl _ _, hcm⟩
    case round =>
      clear hcm
      obtain ⟨t, ht, rfl, rfl, rfl, hkx, hcm⟩ := hrel
      by_cases htl : t < d.kids.length
      · obtain ⟨b4, off4, e4, hX4, _, hc⟩ := hs.rich q2
        injection e4 with e4
        injection e4 with e41 e42
        subst e41 e42
        obtain ⟨j, kv, hj, c0, c1, c2, c3, c4, hsk⟩ := hc t htl
        have hkw3 := hkw2.trans hkx
        have c0 := hkw3.cell c0 hX4
        have c1 := hkw3.cell c1 hX4
        have c2 := hkw3.cell c2 hX4
        have c3 := hkw3.cell c3 hX4
        have c4 := hkw3.cell c4 hX4
        have HTK : Hid (d.kids.take (t + 1) = d.kids.take t ++ [d.kids[t]]) := Lib.hid (List.take_succ_eq_append_getElem htl)
        clear hc
        generalize d.kids[t] = kid at c0 c1 c2 c3 c4 hsk HTK
        obtain ⟨A2, cap2, rfl, hs1, hs2⟩ := hsk.form
        unfold maxLen at hs2
        have i1 : (0 : Int) ≤ (t : Int) := by omega
        have i2 : (t : Int) < (d.kids.length : Int) := by omega
        go_upto_region 13 with fail
        have bd := Blk.new wr 27 #[.string (bs kid.op), .string (bs kid.name), .int .i64 kid.aop, .string (bs kid.ver), .slice A2 kid.kids.length cap2]
        have hq := (Below.refl wr.heap.size wr).alloc (Nat.le_refl _) (.cells #[.string (bs kid.op), .string (bs kid.name), .int .i64 kid.aop, .string (bs kid.ver), .slice A2 kid.kids.length cap2] 27)
        have hcm := hcm.below hq
        have hkx4 := hkx.trans (Kept.of_below hq (fun k => k = mb))
        have hkw4 := hkw3.trans (Kept.of_below hq (fun k => k = mb))
        clear hq hkw3 hkx c0 c1 c2 c3 c4 i1 i2
        generalize wr.alloc (.cells #[.string (bs kid.op), .string (bs kid.name), .int .i64 kid.aop, .string (bs kid.ver), .slice A2 kid.kids.length cap2] 27) = W3 at bd hcm hkx4 hkw4 ⊢
        generalize wr.heap.size = gd at bd ⊢
        obtain ⟨d0, d1, d2, d3, d4⟩ := outs5 bd
        have hcal := HIH.out j hj kid _ w0 W3 mb hmb hkw4 hsk hcm
        simp only [richV, richC] at hcal
        obtain ⟨S0, HS0⟩ : ∃ S0, Hid (S0 = min (atTs (d.kids.take t)) 65) := ⟨_, Lib.hid rfl⟩
        obtain ⟨S1, HS1⟩ : ∃ S1, Hid (S1 = min (atT kid) 65) := ⟨_, Lib.hid rfl⟩
        rw [← HS0.out]
        rw [← HS1.out] at hcal
        have hb0 : S0 ≤ 65 := by rw [HS0.out]; omega
        have hb1 : S1 ≤ 65 := by rw [HS1.out]; omega
        have HS2 : Hid (min (S0 + S1) 65 = min (atTs (d.kids.take (t + 1))) 65) := Lib.hid (by rw [HTK.out, atTs_app, atTs, atTs, HS0.out, HS1.out]; omega)
        have wS : IntKind.i64.wrap ((S0 : Int) + (S1 : Int)) = (S0 : Int) + (S1 : Int) := i64_in _ (by omega) (by omega)
        have wt : IntKind.i64.wrap ((t : Int) + 1) = (t : Int) + 1 := i64_in _ (by omega) (by omega)
        clear hcm hkw4
        go_wp2_with (go_at_call 21; refine hcal.mono ?_; clear hcal d0 d1 d2 d3 d4; rintro rr W4 ⟨rfl, hk4, hcm⟩)
        go_roundg (d.kids.length - (t + 1))
        case measure => omega
        case rel => exact ⟨t + 1, by omega, rfl, (by rw [← HS2.out]; congr 1; omega), by simp, hkx4.trans hk4, hcm⟩
      · have htl2 : ¬ (t : Int) < (d.kids.length : Int) := by omega
        have htt : d.kids.take t = d.kids := List.take_of_length_le (by omega)
        rw [htt, ← HAT.out]
        have hkw3 := hkw2.trans hkx
        obtain ⟨mo, cm, hmo, hMK, hCG⟩ := hcm
        have bL := hkx.blk bL hgl
        have l0 := bL.cell 0
        have l1 := bL.cell 1
        simp at l0 l1
        have hks : ∀ p ∈ cm, KyOk wr p.1 := fun p hp => by
          obtain ⟨_, hg, _⟩ := hCG p hp
          exact hg.ok hkw3
        obtain ⟨mo', cm', hMK', a1, _, _, hput⟩ := mapK_put wr hmo hMK (⟨b3, off3, none⟩, d.kids.length) (hKG.ok hkw3) hks (T : Int)
        have hput : (Instr.mapUpdate 58 (.map (some mb)) (.agg #[.pointer (some ⟨b3, off3, none⟩), .int .i64 (d.kids.length : Int)]) (.int .i64 (T : Int))).run Tryd.prog wr = .ok () (putM wr mb mo') := hput
        have kM := putM_kept wr mb mo'
        have hmo' := putM_at wr mb mo' (Array.getElem?_eq_some_iff.1 hmo).1
        have HCG : Hid (∀ p ∈ cm', CG w0 mb p) := Lib.hid fun p hp => by
          rcases a1 p hp with h | h
          · exact hCG p h
          · subst h
            exact ⟨_, hKG, by rw [← HAT.out]⟩
        clear hmo hMK hCG hks a1 htt
        go_wp2_with fail
        go_ret
        exact ⟨rfl, (hk2.trans hkx).trans kM, mo', cm', hmo', hMK', HCG.out⟩
theorem atoms_all : ∀ m, AtomsK m
  | 0 => atoms_step 0 fun j h => by omega
  | m + 1 => atoms_step (m + 1) fun j h => by
    have : j = m := by omega
    subst this
    exact atoms_all j
end Go.Proofs.YtjdcegogkafmoaaDoor


/- The walks of rdep.text and rdep.Print. Printed by gen_reb.py. -/
import Derived.Test.YtjdcegogkafmoaaDoorReA
namespace Go.Proofs.YtjdcegogkafmoaaDoor
open Go.RowKit
def elseL : List UInt8 := [101, 108, 115, 101]
/-- The word ahead of a kid. -/
def sepR (op : List UInt8) (i : Nat) : List UInt8 := if i = 0 then [] else [32] ++ (if 2 ≤ i ∧ isIU op = true then elseL else op) ++ [32]
mutual
/-- A right dependency, as it is written. -/
def txtR : Rdp → List UInt8
  | .mk op name aop ver kids => match op with
    | [] => if aop = 0 then name else name ++ [32] ++ signsR.getD aop.toNat [] ++ [32] ++ ver
    | c :: t => [40] ++ txtRs (c :: t) 0 kids ++ [41]
def txtRs (op : List UInt8) : Nat → List Rdp → List UInt8
  | _, [] => []
  | i, d :: l => sepR op i ++ txtR d ++ txtRs op (i + 1) l
end
theorem txtR_at (d : Rdp) (h : d.op = []) : txtR d = if d.aop = 0 then d.name else d.name ++ [32] ++ signsR.getD d.aop.toNat [] ++ [32] ++ d.ver := by
  obtain ⟨op, name, aop, ver, kids⟩ := d
  have h : op = [] := h
  subst h
  rw [txtR.eq_def]
  rfl
theorem txtR_in (d : Rdp) (h : d.op ≠ []) : txtR d = [40] ++ txtRs d.op 0 d.kids ++ [41] := by
  obtain ⟨op, name, aop, ver, kids⟩ := d
  have h : op ≠ [] := h
  cases op with
  | nil => exact absurd rfl h
  | cons c t =>
    rw [txtR.eq_def]
    rfl
theorem txtRs_app (op : List UInt8) : ∀ (l l' : List Rdp) (i : Nat), txtRs op i (l ++ l') = txtRs op i l ++ txtRs op (i + l.length) l'
  | [], l', i => by simp [txtRs]
  | d :: l, l', i => by
    rw [List.cons_append, txtRs, txtRs, txtRs_app op l l' (i + 1), List.length_cons, show i + 1 + l.length = i + (l.length + 1) by omega]
    simp
theorem chkRs_mem {d : Rdp} : ∀ {l : List Rdp}, chkRs l = 0 → d ∈ l → chkR d = 0
  | [], _, h => by cases h
  | x :: l, hx, h => by
    rw [chkRs] at hx
    split at hx
    · rename_i hz
      rcases List.mem_cons.1 h with rfl | h
      · exact hz
      · exact chkRs_mem hx h
    · rename_i hz
      exact absurd hx hz
/-- A right atom. -/
theorem chk_atom (d : Rdp) (h : d.op = []) (hc : chkR d = 0) : d.kids = [] ∧ nmR d.name = true ∧ (∃ n : Nat, d.aop = n ∧ n ≤ 5) ∧ (d.aop = 0 → d.ver = []) ∧ (d.aop ≠ 0 → vErr 2 d.ver = 0) := by
  rw [chkR_at d h, cAtom] at hc
  split at hc
  · exact absurd hc (by decide)
  rename_i h1
  split at hc
  · exact absurd hc (by decide)
  rename_i h2
  split at hc
  · exact absurd hc (by decide)
  rename_i h3
  split at hc
  · exact absurd hc (by decide)
  rename_i h4
  refine ⟨List.length_eq_zero_iff.1 (by simpa using h1), by simpa using h2, ⟨d.aop.toNat, by omega, by omega⟩, fun h0 => ?_, fun h0 => ?_⟩
  · rw [if_pos h0] at hc
    split at hc
    · assumption
    · exact absurd hc (by decide)
  · rw [if_neg h0] at hc
    exact hc
/-- A right one of many. -/
theorem chk_group (d : Rdp) (h : d.op ≠ []) (hc : chkR d = 0) : knR d.op = true ∧ d.name = [] ∧ d.aop = 0 ∧ d.ver = [] ∧ clR d.op d.kids.length = true ∧ chkRs d.kids = 0 := by
  rw [chkR_in d h] at hc
  split at hc
  · exact absurd hc (by decide)
  rename_i h1
  split at hc
  · exact absurd hc (by decide)
  rename_i h2
  split at hc
  · exact absurd hc (by decide)
  rename_i h3
  exact ⟨by simpa using h1, Classical.byContradiction fun e => h2 (.inl e), Classical.byContradiction fun e => h2 (.inr (.inl e)), Classical.byContradiction fun e => h2 (.inr (.inr e)), by simpa using h3, hc⟩
theorem cl_two {op : List UInt8} {n : Nat} (h : clR op n = true) : 2 ≤ n := by
  unfold clR at h
  split at h
  · simpa using h
  split at h
  · simp at h; omega
  split at h
  · simp at h; omega
  · simp at h
def TxtK (m : Nat) : Prop := ∀ (d : Rdp) (kv : Value) (X : Nat → Prop) (w : World), Sk 5 (Rr m) X w kv d.kids → TT w → chkR d = 0 → (txtR d).length ≤ 2000000000 →
  Calls Tryd.prog 20 #[richV d kv] w fun e w' => e = .returned (.string (bs (txtR d))) ∧ Below w.heap.size w w'
set_option maxRecDepth 20000 in
set_option maxHeartbeats 16000000 in
theorem text_step (m : Nat) (IH : ∀ j, m = j + 1 → TxtK j) : TxtK m := by
  intro d kv X w hs hT hch hln
  obtain ⟨A, cap, rfl, hc1, hc2⟩ := hs.form
  unfold maxLen at hc2
  obtain ⟨T, HT⟩ : ∃ T, Hid (T = txtR d) := ⟨_, Lib.hid rfl⟩
  rw [← HT.out]
  have HIH := Lib.hid IH
  have HCH := Lib.hid hch
  rw [← HT.out] at hln
  have HLN := Lib.hid hln
  clear IH hch hln
  simp only [richV, richC]
  go_enter Tryd.func20, Tryd.ntmps20
  go_upto_region 1 with fail

  have bk := Blk.new w 27 #[.string (bs d.op), .string (bs d.name), .int .i64 d.aop, .string (bs d.ver), .slice A d.kids.length cap]
  have hb1 := (Below.refl w.heap.size w).alloc (Nat.le_refl _) (.cells #[.string (bs d.op), .string (bs d.name), .int .i64 d.aop, .string (bs d.ver), .slice A d.kids.length cap] 27)
  generalize w.alloc (.cells #[.string (bs d.op), .string (bs d.name), .int .i64 d.aop, .string (bs d.ver), .slice A d.kids.length cap] 27) = W1 at bk hb1 ⊢
  generalize w.heap.size = gk at bk ⊢
  obtain ⟨k0, k1, k2, k3, k4⟩ := outs5 bk

  have TT1 := hT.below hb1
  have hs1 := Below.sk (good_rich m) hb1 hs
  clear hT hs
  have e1 := eqS d.op []
  have e1b : (bs d.op).toList.isEmpty = decide (d.op = []) := by rw [toList_bs, Bool.eq_iff_iff]; simp
  by_cases hop : d.op = []
  · rw [decide_eq_true hop] at e1 e1b
    obtain ⟨_, _, ⟨n, hn, hn5⟩, _, _⟩ := chk_atom d hop HCH.out
    have HD := Lib.hid (HT.out.trans (txtR_at d hop))
    clear hop HT HCH
    by_cases haz : d.aop = 0
    · have x3 : (d.aop == 0) = true := by simpa using haz
      have hV : T = d.name := by rw [HD.out, if_pos haz]
      clear HD haz hn hn5
      go_wp2_with fail
      go_ret
      exact ⟨by first | rfl | (rw [hV]; rfl), hb1⟩
    · have hV : T = d.name ++ [32] ++ signsR.getD n [] ++ [32] ++ d.ver := by rw [HD.out, if_neg haz, hn]; simp
      have x3 : ((n : Int) == 0) = false := by rw [hn] at haz; simpa using haz
      have hsg : W1.cell? ⟨0, n, none⟩ = some (.string (bs (signsR.getD n []))) := TT1.2.1 n (by omega)
      have hVs : bs T = bs d.name ++ bs [32] ++ bs (signsR.getD n []) ++ bs [32] ++ bs d.ver := by rw [hV]; simp only [bs_app]
      have hL := congrArg List.length hV
      simp only [List.length_append, List.length_cons, List.length_nil] at hL
      have hLN := HLN.out
      have z1 := bs_size d.name
      have z2 := bs_size d.ver
      have z3 := bs_size (signsR.getD n [])
      clear HD haz hV
      rw [hn] at k2 ⊢
      clear hn
      have i1 : (0 : Int) ≤ (n : Int) := by omega
      have i2 : (n : Int) < 6 := by omega
      generalize signsR.getD n [] = sg at hsg hVs hL z3
      have y1 : ¬ (9223372036854775807 < d.name.length + 1) := by omega
      have y2 : ¬ (9223372036854775807 < d.name.length + 1 + sg.length) := by omega
      have y3 : ¬ (9223372036854775807 < d.name.length + 1 + sg.length + 1) := by omega
      have y4 : ¬ (9223372036854775807 < d.name.length + 1 + sg.length + 1 + d.ver.length) := by omega
      clear hL hLN
      go_upto_region 4 with fail
      have KS : ∀ W', Below W1.heap.size W1 W' → (fun W : World => W.cell? ⟨gk, 1, none⟩ = some (.string (bs d.name)) ∧ W.cell? ⟨gk, 2, none⟩ = some (.int .i64 (n : Int)) ∧ W.cell? ⟨gk, 3, none⟩ = some (.string (bs d.ver)) ∧ W.cell? ⟨0, n, none⟩ = some (.string (bs sg))) W' := fun W' hb => by
        have q := Kept.of_below hb nowhere
        exact ⟨q.cell k1 fun h => h, q.cell k2 fun h => h, q.cell k3 fun h => h, q.cell hsg fun h => h⟩
      refine wp_region_plan (fun W : World => W.cell? ⟨gk, 1, none⟩ = some (.string (bs d.name)) ∧ W.cell? ⟨gk, 2, none⟩ = some (.int .i64 (n : Int)) ∧ W.cell? ⟨gk, 3, none⟩ = some (.string (bs d.ver)) ∧ W.cell? ⟨0, n, none⟩ = some (.string (bs sg))) [(false, 0), (false, 1), (false, 2), (false, 3), (false, 4), (false, 5), (false, 6), (false, 7), (false, 8), (false, 9), (false, 10), (false, 11), (false, 12), (false, 13), (false, 14), (false, 15)] (by kernel_rfl) (by kernel_rfl) (KS _ ((Below.refl _ W1).drew)) ?_
      simp only [planOps, List.map, List.getD_cons_zero, List.getD_cons_succ]
      iterate 16 ((first | refine plan_quiet (v := ?_) rfl rfl (fun w' hw' => ?_) ?_ | refine plan_calm (v := ?_) (tt_of) rfl (fun w' hw' => ?_) ?_); rotate_left; (focus (go_simp <;> (first | with_reducible rfl | (rw [if_neg (by simp [undef])]; try rfl) | omega))); simp only [Act.put, List.setIfInBounds_toArray, List.set_cons_zero, List.set_cons_succ])
      refine plan_end ?_
      go_wp2_with fail
      go_ret
      exact ⟨by first | rfl | (rw [hVs]; rfl), hb1.drew⟩
  rw [decide_eq_false hop] at e1 e1b
  obtain ⟨_, _, _, _, hcl, hck⟩ := chk_group d hop HCH.out
  have hn2 := cl_two hcl
  have HD := Lib.hid (HT.out.trans (txtR_in d hop))
  have HCK := Lib.hid hck
  clear hop HT HCH hcl hck
  obtain ⟨b, off, rfl, hX, _, hc⟩ := hs1.rich (by omega)
  obtain ⟨j0, kv0, hj0, c0, c1, c2, c3, c4, hsk0⟩ := hc 0 (by omega)
  have HX0 := Lib.hid (chkRs_mem HCK.out (List.getElem_mem (show 0 < d.kids.length by omega)))
  have HP0 : Hid (txtRs d.op 0 (d.kids.take 1) = txtR d.kids[0]) := Lib.hid (by rw [List.take_succ_eq_append_getElem (by omega), List.take_zero, List.nil_append, txtRs, txtRs]; simp [sepR])
  clear hc
  generalize d.kids[0] = kid at c0 c1 c2 c3 c4 hsk0 HX0 HP0
  obtain ⟨A2, cap2, rfl, hq1, hq2⟩ := hsk0.form
  simp only [Nat.zero_mul, Nat.add_zero] at c0 c1 c2 c3 c4
  have hPL : ∀ t, ([40] ++ txtRs d.op 0 (d.kids.take t)).length ≤ 1000000000 + 1000000000 := fun t => by
    have h1 := HLN.out
    rw [HD.out] at h1
    have h2 := txtRs_app d.op (d.kids.take t) (d.kids.drop t) 0
    rw [List.take_append_drop] at h2
    rw [h2] at h1
    simp only [List.length_append, List.length_cons, List.length_nil] at h1 ⊢
    omega
  have HPL := Lib.hid hPL
  have hl0 := hPL 1
  clear hPL
  rw [HP0.out] at hl0
  simp only [List.length_append, List.length_cons, List.length_nil] at hl0
  have z0 := bs_size (txtR kid)
  have hcal := HIH.out j0 hj0 kid _ X W1 hsk0 TT1 HX0.out (by omega)
  simp only [richV, richC] at hcal
  rw [← HP0.out] at hcal z0 hl0
  have i1 : (0 : Int) < (d.kids.length : Int) := by omega
  have i2 : 0 < d.kids.length := by omega
  have i3 : 1 ≤ d.kids.length := by omega
  have i4 : 1 ≤ cap := by omega
  go_upto_region 6 with (go_at_call 20; refine hcal.mono ?_; clear hcal c0 c1 c2 c3 c4; rintro rr W2 ⟨rfl, hb2⟩)
  have bk2 := bk.below hb2 bk.lt
  have hs2 := Below.sk (good_rich m) hb2 hs1
  have hbw := hb1.trans (hb2.mono hb1.size)
  have TT2 := TT1.below hb2
  clear hsk0 HX0 HP0 hq1 hq2 bk hs1 hb1 hb2 TT1 k0 k1 k2 k3 k4
  obtain ⟨k0, k1, k2, k3, k4⟩ := outs5 bk2
  go_wp2_with fail
  clear i1 i2 i3 i4 z0 hl0
  go_loopg [3, 42] (d.kids.length - 1) (fun G s3 s42 wx => ∃ t : Nat, t ≤ d.kids.length - 1 ∧ G = d.kids.length - 1 - t ∧ s3 = .string (bs ([40] ++ txtRs d.op 0 (d.kids.take (t + 1)))) ∧ s42 = .int .i64 (t : Int) ∧ Below W2.heap.size W2 wx)
  case atStart => exact ⟨0, Nat.zero_le _, rfl, (by rw [← bs_app]; rfl), rfl, Below.refl _ _⟩
  case round =>
    obtain ⟨t, ht, rfl, rfl, rfl, hbx⟩ := hrel
    have bkx := bk2.below hbx bk2.lt
    by_cases htl : t < d.kids.length - 1
    · have htl1 : t + 1 < d.kids.length := by omega
      have hsx := Below.sk (good_rich m) hbx hs2
      obtain ⟨b4, off4, e4, hX4, _, hc⟩ := hsx.rich (by omega)
      injection e4 with e4
      injection e4 with e41 e42
      subst e41 e42
      obtain ⟨j, kv, hj, c0, c1, c2, c3, c4, hsk⟩ := hc (t + 1) htl1
      have hoff : off + (t + 1) * 5 = off + 5 + t * 5 := by omega
      rw [hoff] at c0 c1 c2 c3 c4
      have HCK1 := Lib.hid (chkRs_mem HCK.out (List.getElem_mem htl1))
      have HTK : Hid (d.kids.take (t + 1 + 1) = d.kids.take (t + 1) ++ [d.kids[t + 1]]) := Lib.hid (List.take_succ_eq_append_getElem htl1)
      have hl2 := HPL.out (t + 1 + 1)
      rw [HTK.out, txtRs_app, txtRs, txtRs] at hl2
      simp only [List.length_append, List.length_cons, List.length_nil] at hl2
      clear hc hsx hoff
      generalize d.kids[t + 1] = kid at c0 c1 c2 c3 c4 hsk HCK1 HTK hl2
      obtain ⟨A2, cap2, rfl, hq1, hq2⟩ := hsk.form
      unfold maxLen at hq2
      have i1 : (0 : Int) ≤ (t : Int) := by omega
      have i2 : (t : Int) < ((d.kids.length - 1 : Nat) : Int) := by omega
      go_upto_region 9 with fail
      have bd := Blk.new wr 27 #[.string (bs kid.op), .string (bs kid.name), .int .i64 kid.aop, .string (bs kid.ver), .slice A2 kid.kids.length cap2]
      have hq := (Below.refl wr.heap.size wr).alloc (Nat.le_refl _) (.cells #[.string (bs kid.op), .string (bs kid.name), .int .i64 kid.aop, .string (bs kid.ver), .slice A2 kid.kids.length cap2] 27)
      have hb3 := hbx.trans (hq.mono hbx.size)
      have hsk3 := Below.sk (good_rich j) hq hsk
      have bk3 := bkx.below hq bkx.lt
      clear hq c0 c1 c2 c3 c4 i1 i2 hbx hsk bkx
      generalize wr.alloc (.cells #[.string (bs kid.op), .string (bs kid.name), .int .i64 kid.aop, .string (bs kid.ver), .slice A2 kid.kids.length cap2] 27) = W3 at bd hb3 hsk3 bk3 ⊢
      generalize wr.heap.size = gd at bd ⊢
      obtain ⟨d0, d1, d2, d3, d4⟩ := outs5 bd
      have k0 := (outs5 bk3).1
      have hcal := HIH.out j hj kid _ X W3 hsk3 (TT2.below hb3) HCK1.out (by omega)
      simp only [richV, richC] at hcal
      have wt : IntKind.i64.wrap ((t : Int) + 1) = (t : Int) + 1 := i64_in _ (by omega) (by omega)
      have zs := bs_size ([40] ++ txtRs d.op 0 (d.kids.take (t + 1)))
      have zk := bs_size (txtR kid)
      have zp : ([40] ++ txtRs d.op 0 (d.kids.take (t + 1))).length = 1 + (txtRs d.op 0 (d.kids.take (t + 1))).length := by simp; omega
      by_cases ht0 : t = 0
      · have n1 : decide ((t : Int) > 0) = false := decide_eq_false (by omega)
        have n2 : decide (0 < (t : Int)) = false := n1
        have n3 : ¬ (0 < t) := by omega
        have HSP : Hid (sepR d.op (t + 1) = [32] ++ d.op ++ [32]) := Lib.hid (by rw [sepR, if_neg (by omega), if_neg (by omega)])
        simp only [Nat.zero_add, List.length_take] at hl2
        rw [Nat.min_eq_left (by omega), HSP.out] at hl2
        simp only [List.length_append, List.length_cons, List.length_nil] at hl2
        clear ht0
        have zw := bs_size (d.op)
        have hl3 := hl2

        have HSS : Hid (bs ([40] ++ txtRs d.op 0 (d.kids.take (t + 1 + 1))) = bs ([40] ++ txtRs d.op 0 (d.kids.take (t + 1))) ++ (((bs [32] ++ bs (d.op)) ++ bs [32]) ++ bs (txtR kid))) := Lib.hid (by
          rw [HTK.out, txtRs_app, txtRs, txtRs, List.append_nil, Nat.zero_add, List.length_take, Nat.min_eq_left (by omega), HSP.out]
          simp only [bs_app]
          congr 1
          try simp)
        clear HSP HTK
        generalize [40] ++ txtRs d.op 0 (d.kids.take (t + 1)) = P at zs zp HSS ⊢
        go_wp2_with (go_at_call 20; refine hcal.mono ?_; clear hcal d0 d1 d2 d3 d4; rintro rr W4 ⟨rfl, hb4⟩)
        go_roundg (d.kids.length - 1 - (t + 1))
        case measure => omega
        case rel => exact ⟨t + 1, by omega, rfl, (by rw [HSS.out]; rfl), by simp, hb3.trans (hb4.mono hb3.size)⟩
      · have n1 : decide ((t : Int) > 0) = true := decide_eq_true (by omega)
        have n2 : decide (0 < (t : Int)) = true := n1
        have n3 : 0 < t := by omega
        have oi := eqS d.op [105, 102]
        have ou := eqS d.op [117, 110, 108, 101, 115, 115]
        have HIU : Hid (isIU d.op = (decide (d.op = [105, 102]) || decide (d.op = [117, 110, 108, 101, 115, 115]))) := Lib.hid rfl
        generalize decide (d.op = [105, 102]) = boi at oi HIU
        generalize decide (d.op = [117, 110, 108, 101, 115, 115]) = bou at ou HIU
        have hSE : isIU d.op = true → sepR d.op (t + 1) = [32] ++ elseL ++ [32] := fun h => by rw [sepR, if_neg (by omega), if_pos ⟨by omega, h⟩]
        have hSO : isIU d.op = false → sepR d.op (t + 1) = [32] ++ d.op ++ [32] := fun h => by rw [sepR, if_neg (by omega), if_neg (fun e => by rw [h] at e; exact absurd e.2 (by decide))]
        cases boi with
        | true =>
          have HSP := Lib.hid (hSE (by rw [HIU.out]; rfl))
          simp only [Nat.zero_add, List.length_take] at hl2
          rw [Nat.min_eq_left (by omega), HSP.out] at hl2
          simp only [List.length_append, List.length_cons, List.length_nil] at hl2
          clear ht0 hSE hSO HIU
          have zw := bs_size (elseL)
          have hl3 := hl2
          have le : elseL.length = 4 := rfl
          have HSS : Hid (bs ([40] ++ txtRs d.op 0 (d.kids.take (t + 1 + 1))) = bs ([40] ++ txtRs d.op 0 (d.kids.take (t + 1))) ++ (((bs [32] ++ bs (elseL)) ++ bs [32]) ++ bs (txtR kid))) := Lib.hid (by
            rw [HTK.out, txtRs_app, txtRs, txtRs, List.append_nil, Nat.zero_add, List.length_take, Nat.min_eq_left (by omega), HSP.out]
            simp only [bs_app]
            congr 1
            try simp)
          clear HSP HTK
          generalize [40] ++ txtRs d.op 0 (d.kids.take (t + 1)) = P at zs zp HSS ⊢
          go_wp2_with (go_at_call 20; refine hcal.mono ?_; clear hcal d0 d1 d2 d3 d4; rintro rr W4 ⟨rfl, hb4⟩)
          go_roundg (d.kids.length - 1 - (t + 1))
          case measure => omega
          case rel => exact ⟨t + 1, by omega, rfl, (by rw [HSS.out]; rfl), by simp, hb3.trans (hb4.mono hb3.size)⟩
        | false =>
          cases bou with
          | true =>
            have HSP := Lib.hid (hSE (by rw [HIU.out]; rfl))
            simp only [Nat.zero_add, List.length_take] at hl2
            rw [Nat.min_eq_left (by omega), HSP.out] at hl2
            simp only [List.length_append, List.length_cons, List.length_nil] at hl2
            clear ht0 hSE hSO HIU
            have zw := bs_size (elseL)
            have hl3 := hl2
            have le : elseL.length = 4 := rfl
            have HSS : Hid (bs ([40] ++ txtRs d.op 0 (d.kids.take (t + 1 + 1))) = bs ([40] ++ txtRs d.op 0 (d.kids.take (t + 1))) ++ (((bs [32] ++ bs (elseL)) ++ bs [32]) ++ bs (txtR kid))) := Lib.hid (by
              rw [HTK.out, txtRs_app, txtRs, txtRs, List.append_nil, Nat.zero_add, List.length_take, Nat.min_eq_left (by omega), HSP.out]
              simp only [bs_app]
              congr 1
              try simp)
            clear HSP HTK
            generalize [40] ++ txtRs d.op 0 (d.kids.take (t + 1)) = P at zs zp HSS ⊢
            go_wp2_with (go_at_call 20; refine hcal.mono ?_; clear hcal d0 d1 d2 d3 d4; rintro rr W4 ⟨rfl, hb4⟩)
            go_roundg (d.kids.length - 1 - (t + 1))
            case measure => omega
            case rel => exact ⟨t + 1, by omega, rfl, (by rw [HSS.out]; rfl), by simp, hb3.trans (hb4.mono hb3.size)⟩
          | false =>
            have HSP := Lib.hid (hSO (by rw [HIU.out]; rfl))
            simp only [Nat.zero_add, List.length_take] at hl2
            rw [Nat.min_eq_left (by omega), HSP.out] at hl2
            simp only [List.length_append, List.length_cons, List.length_nil] at hl2
            clear ht0 hSE hSO HIU
            have zw := bs_size (d.op)
            have hl3 := hl2

            have HSS : Hid (bs ([40] ++ txtRs d.op 0 (d.kids.take (t + 1 + 1))) = bs ([40] ++ txtRs d.op 0 (d.kids.take (t + 1))) ++ (((bs [32] ++ bs (d.op)) ++ bs [32]) ++ bs (txtR kid))) := Lib.hid (by
              rw [HTK.out, txtRs_app, txtRs, txtRs, List.append_nil, Nat.zero_add, List.length_take, Nat.min_eq_left (by omega), HSP.out]
              simp only [bs_app]
              congr 1
              try simp)
            clear HSP HTK
            generalize [40] ++ txtRs d.op 0 (d.kids.take (t + 1)) = P at zs zp HSS ⊢
            go_wp2_with (go_at_call 20; refine hcal.mono ?_; clear hcal d0 d1 d2 d3 d4; rintro rr W4 ⟨rfl, hb4⟩)
            go_roundg (d.kids.length - 1 - (t + 1))
            case measure => omega
            case rel => exact ⟨t + 1, by omega, rfl, (by rw [HSS.out]; rfl), by simp, hb3.trans (hb4.mono hb3.size)⟩
    · have htl2 : ¬ (t : Int) < ((d.kids.length - 1 : Nat) : Int) := by omega
      have htt : d.kids.take (t + 1) = d.kids := List.take_of_length_le (by omega)
      have hVs : bs T = bs ([40] ++ txtRs d.op 0 (d.kids.take (t + 1))) ++ bs [41] := by rw [HD.out, htt]; simp only [bs_app]
      have zs := bs_size ([40] ++ txtRs d.op 0 (d.kids.take (t + 1)))
      have hl1 := HPL.out (t + 1)
      clear htt
      generalize [40] ++ txtRs d.op 0 (d.kids.take (t + 1)) = P at hVs zs hl1 ⊢
      go_wp2_with fail
      go_ret
      exact ⟨by first | rfl | (rw [hVs]; rfl), hbw.trans (hbx.mono hbw.size)⟩
theorem text_all : ∀ m, TxtK m
  | 0 => text_step 0 fun j h => by omega
  | m + 1 => text_step (m + 1) fun j h => by
    have : j = m := by omega
    subst this
    exact text_all j
end Go.Proofs.YtjdcegogkafmoaaDoor

/- The walk of rdep's reader.atom. Printed by gen_rdg.py. -/
import Derived.Test.YtjdcegogkafmoaaDoorRdF
namespace Go.Proofs.YtjdcegogkafmoaaDoor
open Go.RowKit
theorem AT.outs {w W : World} {B gr gA gF gp : Nat} {p : Tk} {ts : List Tk} {n : Nat} (h : AT B w gr gA gF gp p ts n W) :
    W.cell? ⟨gA, 0, none⟩ = some (.string ⟨#[]⟩) ∧ W.cell? ⟨gA, 1, none⟩ = some (.string ⟨#[]⟩) ∧ W.cell? ⟨gA, 2, none⟩ = some (.int .i64 0) ∧ W.cell? ⟨gA, 3, none⟩ = some (.string ⟨#[]⟩) ∧ W.cell? ⟨gA, 4, none⟩ = some (.slice none 0 0) ∧
      W.cell? ⟨gF, 0, none⟩ = some (.string ⟨#[]⟩) ∧ W.cell? ⟨gF, 1, none⟩ = some (.int .i64 0) ∧ W.cell? ⟨gF, 2, none⟩ = some (.int .i64 0) ∧ (∀ i, W.frozen? ⟨gA, i, none⟩ = false) ∧ (∀ i, W.frozen? ⟨gF, i, none⟩ = false) := by
  have a0 := h.bA.cell 0
  have a1 := h.bA.cell 1
  have a2 := h.bA.cell 2
  have a3 := h.bA.cell 3
  have a4 := h.bA.cell 4
  have f0 := h.bF.cell 0
  have f1 := h.bF.cell 1
  have f2 := h.bF.cell 2
  simp at a0 a1 a2 a3 a4 f0 f1 f2
  exact ⟨a0, a1, a2, a3, a4, f0, f1, f2, fun i => h.bA.frozen i, fun i => h.bF.frozen i⟩
theorem RS.first {W : World} {B gr n : Nat} {p : Tk} {r : List Tk} (h : RS B W gr (p :: r) n) : ∃ b off c, W.cell? ⟨gr, 0, none⟩ = some (.slice (some ⟨b, off, none⟩) (r.length + 1) c) ∧ W.cell? ⟨gr, 1, none⟩ = some (.int .i64 (n : Int)) ∧ W.cell? ⟨b, off, none⟩ = some (.string (bs p.1)) ∧ W.cell? ⟨b, off + 1, none⟩ = some (.int .i64 (p.2 : Int)) ∧ W.frozen? ⟨gr, 1, none⟩ = false := by
  obtain ⟨A, c, b1, hs⟩ := h.sl
  have hs0 := hs
  obtain ⟨A', cap, hv, _, _, _, h4, _⟩ := hs0
  injection hv with e1 _ _
  subst e1
  obtain ⟨b, off, rfl, _, hc⟩ := h4 (by simp)
  obtain ⟨cs, hcs, hR⟩ := hc 0 (by simp)
  have hR : cs = [.string (bs p.1), .int .i64 (p.2 : Int)] := hR
  subst hR
  have z0 := b1.cell 0
  have z1 := b1.cell 1
  simp at z0 z1
  exact ⟨b, off, c, z0, z1, by simpa using hcs 0 _ rfl, by simpa using hcs 1 _ rfl, b1.frozen 1⟩
theorem AT.tok {w W : World} {B gr gA gF gp : Nat} {p : Tk} {ts : List Tk} {n : Nat} (h : AT B w gr gA gF gp p ts n W) : W.cell? ⟨gp, 0, none⟩ = some (.string (bs p.1)) ∧ W.cell? ⟨gp, 1, none⟩ = some (.int .i64 (p.2 : Int)) := by
  have a0 := h.bp.cell 0
  have a1 := h.bp.cell 1
  simp at a0 a1
  exact ⟨a0, a1⟩
theorem AT.rs9 {w W W' : World} {B gr gA gF gp : Nat} {p : Tk} {ts : List Tk} {n : Nat} (h : AT B w gr gA gF gp p ts n W) (k : Kept (fun k => k = gA ∨ k = gF) W W') : RS B W' gr ts n := by
  have hlt := h.rs
  obtain ⟨A, c, b1, hs⟩ := h.rs.sl
  exact hlt.keepB k fun i hi => hi.elim (fun e => ⟨fun e2 => blkNe b1 h.bA (by decide) (e2.symm.trans e), by rw [e]; exact Nat.le_trans h.hB h.hA⟩) (fun e => ⟨fun e2 => blkNe b1 h.bF (by decide) (e2.symm.trans e), by rw [e]; exact Nat.le_trans h.hB h.hF⟩)
theorem keep_tok (W : World) (gp : Nat) (p : Tk) : Kept (fun k => k = gp) W ((W.setCell ⟨gp, 0, none⟩ (.string (bs p.1))).setCell ⟨gp, 1, none⟩ (.int .i64 (p.2 : Int))) :=
  ((Kept.refl (fun k => k = gp) W).setCell (p := ⟨gp, 0, none⟩) (.string (bs p.1)) fun _ => rfl).setCell (p := ⟨gp, 1, none⟩) (.int .i64 (p.2 : Int)) fun _ => rfl
theorem AT.retok {w W : World} {B gr gA gF gp : Nat} {p : Tk} {ts : List Tk} {n : Nat} (h : AT B w gr gA gF gp p ts n W) (q : Tk) : AT B w gr gA gF gp q ts n ((W.setCell ⟨gp, 0, none⟩ (.string (bs q.1))).setCell ⟨gp, 1, none⟩ (.int .i64 (q.2 : Int))) := by
  have k := keep_tok W gp q
  obtain ⟨A, c, b1, hs⟩ := h.rs.sl
  have hb : Blk ((W.setCell ⟨gp, 0, none⟩ (.string (bs q.1))).setCell ⟨gp, 1, none⟩ (.int .i64 (q.2 : Int))) gp 48 #[.string (bs q.1), .int .i64 (q.2 : Int)] := by
    have := (h.bp.set (u := .string (bs q.1)) 0).set (u := .int .i64 (q.2 : Int)) 1
    simpa using this
  exact ⟨h.kept.cutR k (fun i e => .inr (by rw [e]; exact h.hp)), h.rs.keepB k (fun i e => ⟨fun e2 => blkNe b1 h.bp (by decide) (e2.symm.trans e), by rw [e]; exact Nat.le_trans h.hB h.hp⟩), k.blk h.bA (fun e => blkNe h.bA h.bp (by decide) e), k.blk h.bF (fun e => blkNe h.bF h.bp (by decide) e), hb, h.hA, h.hF, h.hp, h.hB⟩
theorem AT.other {w W W' : World} {B gr gA gF gp g : Nat} {p : Tk} {ts : List Tk} {n : Nat} (h : AT B w gr gA gF gp p ts n W) (k : Kept (fun k => k = g) W W') (hg : w.heap.size ≤ g) (hgr : gr < w.heap.size) (hA : g ≠ gA) (hF : g ≠ gF) (hp : g ≠ gp) : AT B w gr gA gF gp p ts n W' :=
  ⟨h.kept.cutR k (fun i e => .inr (by rw [e]; exact hg)), h.rs.keepB k (fun i e => ⟨fun e2 => by omega, by rw [e]; exact Nat.le_trans h.hB hg⟩), k.blk h.bA (fun e => hA e.symm), k.blk h.bF (fun e => hF e.symm), k.blk h.bp (fun e => hp e.symm), h.hA, h.hF, h.hp, h.hB⟩
theorem relR_le (s : List UInt8) : relR s ≤ 5 := by
  unfold relR signsR
  simp only [relL]
  repeat' split
  all_goals omega
theorem AT.count {w W : World} {B gr gA gF gp : Nat} {p : Tk} {ts : List Tk} {n : Nat} (h : AT B w gr gA gF gp p ts n W) (n' : Nat) : AT B w gr gA gF gp p ts n' (W.setCell ⟨gr, 1, none⟩ (.int .i64 (n' : Int))) := by
  have k : Kept (fun k => k = gr) W (W.setCell ⟨gr, 1, none⟩ (.int .i64 (n' : Int))) := (Kept.refl _ W).setCell (p := ⟨gr, 1, none⟩) _ fun _ => rfl
  obtain ⟨A, c, b1, hs⟩ := h.rs.sl
  have b2 : Blk (W.setCell ⟨gr, 1, none⟩ (.int .i64 (n' : Int))) gr 45 #[.slice A ts.length c, .int .i64 (n' : Int)] := b1.set (u := .int .i64 (n' : Int)) 1
  exact ⟨h.kept.trans k, ⟨A, c, b2, hs.keep good_prt (k.mono fun i _ hi => .inl hi)⟩, k.blk h.bA (fun e => blkNe h.bA b1 (by decide) e), k.blk h.bF (fun e => blkNe h.bF b1 (by decide) e), k.blk h.bp (fun e => blkNe h.bp b1 (by decide) e), h.hA, h.hF, h.hp, h.hB⟩
set_option maxRecDepth 20000 in
set_option maxHeartbeats 16000000 in
theorem atom_any (p : Tk) (r : List Tk) (B n gr m : Nat) (W : World) (hB : B ≤ W.heap.size) (h : RS B W gr (p :: r) n) (hwf : WfT (p :: r)) (hp0 : p.1 ≠ []) (hbd : ∀ t ∈ p :: r, t.1.length ≤ 1000000) (hn : n ≤ 64) (hT : TT W) (hgr : 4 ≤ gr) :
    Calls Tryd.prog 29 #[.pointer (some ⟨gr, 0, none⟩)] W (DepR B W gr m (p :: r).length (atomP (p :: r) n)) := by
  have HP : Hid (atomP (p :: r) n = if n = 64 then .err p.2 4 else if nmR p.1 = false then .err p.2 10 else atom1 p r n) := Lib.hid rfl
  have hlp : p.1.length ≤ 1000000 := hbd p (by simp)
  have HBD := Lib.hid fun t ht => hbd t (List.mem_cons_of_mem _ ht)
  clear hbd
  have hgW := h.lt
  obtain ⟨R, HR⟩ : ∃ R, Hid (atomP (p :: r) n = R) := ⟨_, Lib.hid rfl⟩
  rw [HR.out] at HP ⊢
  obtain ⟨W1, gA, gF, hW1, hgA, hgF, bA, bF, hb1, hA, hF⟩ := init2 W
  go_enter Tryd.func29, Tryd.ntmps29
  go_upto_region 1 with fail
  rw [← hW1, ← hgF, ← hgA]
  clear hW1 hgA hgF
  have h1 := h.below hb1
  obtain ⟨b, off, c, z0, z1, t0, t1, _⟩ := h1.first
  go_upto_region 2 with fail
  have hq : Below W1.heap.size W1 (W1.alloc (.cells #[.string (bs p.1), .int .i64 (p.2 : Int)] 48)) := (Below.refl _ _).alloc (Nat.le_refl _) _
  have at0 : AT B W gr gA gF W1.heap.size p (p :: r) n (W1.alloc (.cells #[.string (bs p.1), .int .i64 (p.2 : Int)] 48)) :=
    ⟨(Kept.of_below hb1 _).trans (Kept.of_below hq _), h1.below hq, bA.below hq bA.lt, bF.below hq bF.lt, Blk.new W1 _ _, hA, hF, hb1.size, hB⟩
  have hAF : gA ≠ gF := blkNe bA bF (by decide)
  have hFA : gF ≠ gA := fun e => hAF e.symm
  clear hq h1 z0 z1 t0 t1 bA bF hb1
  generalize W1.alloc (.cells #[.string (bs p.1), .int .i64 (p.2 : Int)] 48) = W2 at at0 ⊢
  generalize W1.heap.size = gp at at0 ⊢
  obtain ⟨b, off, c, z0, z1, t0, t1, zf⟩ := at0.rs.first
  obtain ⟨y0, y1⟩ := at0.tok
  have hsp := bs_size p.1
  by_cases h64 : n = 64
  · have q64 : ((n : Int) == 64) = true := by rw [beq_iff_eq]; omega
    have HV : Hid (R = .err p.2 4) := Lib.hid (by rw [HP.out, if_pos h64])
    clear HP h64
    go_wp2_with (go_at_call 16; refine (fault_any p.1 p.2 (4) _).mono ?_; rintro rr W8 ⟨rfl, hb8⟩; have at8 := at0.below hb8; obtain ⟨e0, e1, e2, e3, e4, f0, f1, f2, eA, eF⟩ := at8.outs; have eA0 := eA 0; have eA1 := eA 1; have eA2 := eA 2; have eA3 := eA 3; have eA4 := eA 4; have eF0 := eF 0; have eF1 := eF 1; have eF2 := eF 2)

    obtain ⟨W9, hW9, c1, c2, k9⟩ := ret_mem at8.bA at8.bF (.string ⟨#[]⟩) (.string ⟨#[]⟩) (.int .i64 0) (.string ⟨#[]⟩) (.slice none 0 0) (.string ⟨#[]⟩) (.int .i64 (p.2 : Int)) (.int .i64 (4))
    rw [← hW9]
    have hk9 : Kept (fun k => k = gr) W W9 := at8.kept.cutR k9 fun i hi => .inr (hi.elim (fun e => by rw [e]; exact at8.hA) (fun e => by rw [e]; exact at8.hF))
    have k0 := c1.cell 0
    have k1 := c1.cell 1
    have k2 := c1.cell 2
    have k3 := c1.cell 3
    have k4 := c1.cell 4
    have m0 := c2.cell 0
    have m1 := c2.cell 1
    have m2 := c2.cell 2
    simp at k0 k1 k2 k3 k4 m0 m1 m2
    refine bodyPost_ret (v := .tuple #[.agg #[.string ⟨#[]⟩, .string ⟨#[]⟩, .int .i64 0, .string ⟨#[]⟩, .slice none 0 0], .agg #[.string ⟨#[]⟩, .int .i64 (p.2 : Int), .int .i64 (4)]]) (by simp [results, Tryd.results29, go_sem, k0, k1, k2, k3, k4, m0, m1, m2]) rfl ?_

    rw [HV.out]
    exact And.intro hk9 (And.intro (by decide) rfl)
  have q64 : ((n : Int) == 64) = false := by simpa using (show ¬ (n : Int) = 64 by omega)
  have HP2 := Lib.hid (HP.out.trans (if_neg h64))
  clear HP
  have hnm := name_any p.1
  cases hnb : nmR p.1 with
  | false =>
    have HV : Hid (R = .err p.2 10) := Lib.hid (by rw [HP2.out, if_pos hnb])
    rw [hnb] at hnm
    clear HP2 hnb
    go_upto_region 5 with (go_at_call 13; refine (hnm _ (by omega)).mono ?_; rintro rr W3 ⟨rfl, rfl⟩)
    go_wp2_with (go_at_call 16; refine (fault_any p.1 p.2 (10) _).mono ?_; rintro rr W8 ⟨rfl, hb8⟩; have at8 := at0.below hb8; obtain ⟨e0, e1, e2, e3, e4, f0, f1, f2, eA, eF⟩ := at8.outs; have eA0 := eA 0; have eA1 := eA 1; have eA2 := eA 2; have eA3 := eA 3; have eA4 := eA 4; have eF0 := eF 0; have eF1 := eF 1; have eF2 := eF 2)

    obtain ⟨W9, hW9, c1, c2, k9⟩ := ret_mem at8.bA at8.bF (.string ⟨#[]⟩) (.string ⟨#[]⟩) (.int .i64 0) (.string ⟨#[]⟩) (.slice none 0 0) (.string ⟨#[]⟩) (.int .i64 (p.2 : Int)) (.int .i64 (10))
    rw [← hW9]
    have hk9 : Kept (fun k => k = gr) W W9 := at8.kept.cutR k9 fun i hi => .inr (hi.elim (fun e => by rw [e]; exact at8.hA) (fun e => by rw [e]; exact at8.hF))
    have k0 := c1.cell 0
    have k1 := c1.cell 1
    have k2 := c1.cell 2
    have k3 := c1.cell 3
    have k4 := c1.cell 4
    have m0 := c2.cell 0
    have m1 := c2.cell 1
    have m2 := c2.cell 2
    simp at k0 k1 k2 k3 k4 m0 m1 m2
    refine bodyPost_ret (v := .tuple #[.agg #[.string ⟨#[]⟩, .string ⟨#[]⟩, .int .i64 0, .string ⟨#[]⟩, .slice none 0 0], .agg #[.string ⟨#[]⟩, .int .i64 (p.2 : Int), .int .i64 (10)]]) (by simp [results, Tryd.results29, go_sem, k0, k1, k2, k3, k4, m0, m1, m2]) rfl ?_

    rw [HV.out]
    exact And.intro hk9 (And.intro (by decide) rfl)
  | true =>
    have HP3 : Hid (R = atom1 p r n) := Lib.hid (by rw [HP2.out, hnb, if_neg (by simp)])
    rw [hnb] at hnm
    clear HP2 hnb
    have w1 : IntKind.i64.wrap ((n : Int) + 1) = (n : Int) + 1 := i64_in _ (by omega) (by omega)
    go_upto_region 7 with (go_at_call 13; refine (hnm _ (by omega)).mono ?_; rintro rr W3 ⟨rfl, rfl⟩)
    have at1 := at0.count (n + 1)
    have hc1 : ((n + 1 : Nat) : Int) = (n : Int) + 1 := by omega
    rw [hc1] at at1
    clear hc1
    have hwr := hwf.next hp0
    clear z0 z1 t0 t1 zf y0 y1 at0 hnm w1 q64
    generalize W2.setCell ⟨gr, 1, none⟩ (.int .i64 ((n : Int) + 1)) = W3 at at1 ⊢
    have hnx := next_any B gr (n + 1) p r W3 at1.rs
    go_upto_region 8 with (go_at_call 27; refine hnx.mono ?_; clear hnx; rintro rr W4 ⟨rfl, hr4, hk4⟩)
    have at2 := at1.next hr4 hk4 hgW
    clear at1 hr4 hk4
    obtain ⟨y0, y1⟩ := at2.tok
    have bd : ∀ t ∈ r, t.1.length ≤ 1000000 := HBD.out
    obtain ⟨p1, r1, rfl⟩ := hwr.ne
    have hp1l := bd p1 (by simp)
    have HA1 : Hid (R = if relR p1.1 = 0 then .ok (.mk [] p.1 0 [] []) (p1 :: r1) (n + 1) else atom2 p (relR p1.1) r1 n) := HP3
    go_upto_region 9 with fail
    have bD := Blk.new W4 27 #[.string ⟨#[]⟩, .string (bs p.1), .int .i64 0, .string ⟨#[]⟩, .slice none 0 0]
    have hqD : Below W4.heap.size W4 (W4.alloc (.cells #[.string ⟨#[]⟩, .string (bs p.1), .int .i64 0, .string ⟨#[]⟩, .slice none 0 0] 27)) := (Below.refl _ _).alloc (Nat.le_refl _) _
    have at3 := at2.below hqD
    have hD : W.heap.size ≤ W4.heap.size := at2.kept.size
    have hDA : W4.heap.size ≠ gA := fun e => by have := at2.bA.lt; omega
    have hDF : W4.heap.size ≠ gF := fun e => by have := at2.bF.lt; omega
    clear hqD at2 HP3 y0 y1
    generalize W4.alloc (.cells #[.string ⟨#[]⟩, .string (bs p.1), .int .i64 0, .string ⟨#[]⟩, .slice none 0 0] 27) = W5 at at3 bD ⊢
    generalize W4.heap.size = gD at bD hD hDA hDF ⊢
    obtain ⟨b, off, c, z0, z1, t0, t1, zf⟩ := at3.rs.first
    have TTW := hT.keep at3.kept (fun i hi e => by omega)
    have hrel := relation_any p1.1 W5 TTW.2.1
    go_upto_region 10 with (go_at_call 38; refine hrel.mono ?_; clear hrel; rintro rr W6 ⟨rfl, rfl⟩)
    clear z0 z1 t0 t1 zf
    obtain ⟨op, HOP⟩ : ∃ x, Hid (relR p1.1 = x) := ⟨_, Lib.hid rfl⟩
    rw [HOP.out] at HA1 ⊢
    have hopl : op ≤ 5 := by rw [← HOP.out]; exact relR_le _
    have d0 := bD.cell 0
    have d1 := bD.cell 1
    have d2 := bD.cell 2
    have d3 := bD.cell 3
    have d4 := bD.cell 4
    have dF := bD.frozen
    simp at d0 d1 d2 d3 d4
    by_cases hop : op = 0
    · have qo : ((op : Int) == 0) = true := by rw [beq_iff_eq]; omega
      have HV : Hid (R = .ok (.mk [] p.1 0 [] []) (p1 :: r1) (n + 1)) := Lib.hid (by rw [HA1.out, if_pos hop])
      clear hop HA1
      obtain ⟨e0, e1, e2, e3, e4, f0, f1, f2, eA, eF⟩ := at3.outs
      have eA0 := eA 0
      have eA1 := eA 1
      have eA2 := eA 2
      have eA3 := eA 3
      have eA4 := eA 4
      have eF0 := eF 0
      have eF1 := eF 1
      have eF2 := eF 2
      go_wp2_with fail
      obtain ⟨W9, hW9, c1, c2, k9⟩ := ret_mem at3.bA at3.bF (.string ⟨#[]⟩) (.string (bs p.1)) (.int .i64 0) (.string ⟨#[]⟩) (.slice none 0 0) (.string ⟨#[]⟩) (.int .i64 0) (.int .i64 0)
      rw [← hW9]
      have hk9 : Kept (fun k => k = gr) W W9 := at3.kept.cutR k9 fun i hi => .inr (hi.elim (fun e => by rw [e]; exact at3.hA) (fun e => by rw [e]; exact at3.hF))
      have k0 := c1.cell 0
      have k1 := c1.cell 1
      have k2 := c1.cell 2
      have k3 := c1.cell 3
      have k4 := c1.cell 4
      have m0 := c2.cell 0
      have m1 := c2.cell 1
      have m2 := c2.cell 2
      simp at k0 k1 k2 k3 k4 m0 m1 m2
      refine bodyPost_ret (v := .tuple #[.agg #[.string ⟨#[]⟩, .string (bs p.1), .int .i64 0, .string ⟨#[]⟩, .slice none 0 0], .agg #[.string ⟨#[]⟩, .int .i64 0, .int .i64 0]]) (by simp [results, Tryd.results29, go_sem, k0, k1, k2, k3, k4, m0, m1, m2]) rfl ?_

      rw [HV.out]
      have hrs9 := at3.rs9 k9
      exact And.intro hk9 ⟨⟨_, rfl, Sk.nil _ _ _ _⟩, hwr, by simp, hrs9, by omega⟩
    have qo : ((op : Int) == 0) = false := by simpa using (show ¬ (op : Int) = 0 by omega)
    have HA2 : Hid (R = atom2 p op r1 n) := Lib.hid (by rw [HA1.out, if_neg hop])
    clear HA1 hop
    have hp1 : p1.1 ≠ [] := fun e => absurd (show relR p1.1 = 0 by rw [e]; rfl) (by rw [HOP.out]; intro h0; have := congrArg (fun (x : Nat) => ((x : Int) == 0)) h0; simp at this; rw [h0] at qo; simp at qo)
    have hwr1 := hwr.next hp1
    obtain ⟨p2, r2, rfl⟩ := hwr1.ne
    have hp2l := bd p2 (by simp)
    have hnx := next_any B gr (n + 1) p1 (p2 :: r2) W5 at3.rs
    have HA3 : Hid (R = if brk p2.1 = true then .err p2.2 3 else if vErr 2 p2.1 ≠ 0 then .err p2.2 (vErr 2 p2.1) else .ok (.mk [] p.1 (op : Nat) p2.1 []) r2 (n + 1)) := HA2
    clear HA2 d0 d1 d2 d3 d4 dF
    go_upto_region 13 with (go_at_call 27; refine hnx.mono ?_; clear hnx; rintro rr W6 ⟨rfl, hr6, hk6⟩)
    have at4 := at3.next hr6 hk6 hgW
    have bD4 := hk6.blk bD (fun e => by omega)
    clear at3 hr6 hk6 bD qo
    obtain ⟨b, off, c, z0, z1, t0, t1, zf⟩ := at4.rs.first
    obtain ⟨y0, y1⟩ := at4.tok
    have yf0 := at4.bp.frozen 0
    have yf1 := at4.bp.frozen 1
    go_upto_region 14 with fail
    have at5 := at4.retok p2
    have hDp : gD ≠ gp := blkNe bD4 at4.bp (by decide)
    have bD5 := (keep_tok W6 gp p2).blk bD4 (fun e => hDp e)
    clear z0 z1 t0 t1 zf y0 y1 yf0 yf1 at4 bD4
    generalize (W6.setCell ⟨gp, 0, none⟩ (.string (bs p2.1))).setCell ⟨gp, 1, none⟩ (.int .i64 (p2.2 : Int)) = W7 at at5 bD5 ⊢
    obtain ⟨y0, y1⟩ := at5.tok
    have HBK : Hid (brk p2.1 = (decide (p2.1 = []) || (decide (p2.1 = [40]) || decide (p2.1 = [41])))) := Lib.hid rfl
    have e1 := eqS p2.1 []
    have e1b : (bs p2.1).toList.isEmpty = decide (p2.1 = []) := by rw [toList_bs, Bool.eq_iff_iff]; simp
    have e2 := eqS p2.1 [40]
    have e3 := eqS p2.1 [41]
    have hne2 : brk p2.1 = false → p2.1 ≠ [] := fun h e => by rw [e] at h; exact absurd h (by decide)
    have HNE2 := Lib.hid hne2
    clear hne2
    generalize decide (p2.1 = []) = b1 at e1 e1b HBK
    generalize decide (p2.1 = [40]) = b2 at e2 HBK
    generalize decide (p2.1 = [41]) = b3 at e3 HBK
    cases b1 with
    | true =>
      have HV : Hid (R = .err p2.2 3) := Lib.hid (by rw [HA3.out, if_pos (by rw [HBK.out]; rfl)])
      clear HA3 HBK
      go_wp2_with (go_at_call 16; refine (fault_any p2.1 p2.2 (3) _).mono ?_; rintro rr W8 ⟨rfl, hb8⟩; have at8 := at5.below hb8; obtain ⟨e0, e1, e2, e3, e4, f0, f1, f2, eA, eF⟩ := at8.outs; have eA0 := eA 0; have eA1 := eA 1; have eA2 := eA 2; have eA3 := eA 3; have eA4 := eA 4; have eF0 := eF 0; have eF1 := eF 1; have eF2 := eF 2)

      obtain ⟨W9, hW9, c1, c2, k9⟩ := ret_mem at8.bA at8.bF (.string ⟨#[]⟩) (.string ⟨#[]⟩) (.int .i64 0) (.string ⟨#[]⟩) (.slice none 0 0) (.string ⟨#[]⟩) (.int .i64 (p2.2 : Int)) (.int .i64 (3))
      rw [← hW9]
      have hk9 : Kept (fun k => k = gr) W W9 := at8.kept.cutR k9 fun i hi => .inr (hi.elim (fun e => by rw [e]; exact at8.hA) (fun e => by rw [e]; exact at8.hF))
      have k0 := c1.cell 0
      have k1 := c1.cell 1
      have k2 := c1.cell 2
      have k3 := c1.cell 3
      have k4 := c1.cell 4
      have m0 := c2.cell 0
      have m1 := c2.cell 1
      have m2 := c2.cell 2
      simp at k0 k1 k2 k3 k4 m0 m1 m2
      refine bodyPost_ret (v := .tuple #[.agg #[.string ⟨#[]⟩, .string ⟨#[]⟩, .int .i64 0, .string ⟨#[]⟩, .slice none 0 0], .agg #[.string ⟨#[]⟩, .int .i64 (p2.2 : Int), .int .i64 (3)]]) (by simp [results, Tryd.results29, go_sem, k0, k1, k2, k3, k4, m0, m1, m2]) rfl ?_

      rw [HV.out]
      exact And.intro hk9 (And.intro (by decide) rfl)
    | false =>
      cases b2 with
      | true =>
        have HV : Hid (R = .err p2.2 3) := Lib.hid (by rw [HA3.out, if_pos (by rw [HBK.out]; rfl)])
        clear HA3 HBK
        go_wp2_with (go_at_call 16; refine (fault_any p2.1 p2.2 (3) _).mono ?_; rintro rr W8 ⟨rfl, hb8⟩; have at8 := at5.below hb8; obtain ⟨e0, e1, e2, e3, e4, f0, f1, f2, eA, eF⟩ := at8.outs; have eA0 := eA 0; have eA1 := eA 1; have eA2 := eA 2; have eA3 := eA 3; have eA4 := eA 4; have eF0 := eF 0; have eF1 := eF 1; have eF2 := eF 2)

        obtain ⟨W9, hW9, c1, c2, k9⟩ := ret_mem at8.bA at8.bF (.string ⟨#[]⟩) (.string ⟨#[]⟩) (.int .i64 0) (.string ⟨#[]⟩) (.slice none 0 0) (.string ⟨#[]⟩) (.int .i64 (p2.2 : Int)) (.int .i64 (3))
        rw [← hW9]
        have hk9 : Kept (fun k => k = gr) W W9 := at8.kept.cutR k9 fun i hi => .inr (hi.elim (fun e => by rw [e]; exact at8.hA) (fun e => by rw [e]; exact at8.hF))
        have k0 := c1.cell 0
        have k1 := c1.cell 1
        have k2 := c1.cell 2
        have k3 := c1.cell 3
        have k4 := c1.cell 4
        have m0 := c2.cell 0
        have m1 := c2.cell 1
        have m2 := c2.cell 2
        simp at k0 k1 k2 k3 k4 m0 m1 m2
        refine bodyPost_ret (v := .tuple #[.agg #[.string ⟨#[]⟩, .string ⟨#[]⟩, .int .i64 0, .string ⟨#[]⟩, .slice none 0 0], .agg #[.string ⟨#[]⟩, .int .i64 (p2.2 : Int), .int .i64 (3)]]) (by simp [results, Tryd.results29, go_sem, k0, k1, k2, k3, k4, m0, m1, m2]) rfl ?_

        rw [HV.out]
        exact And.intro hk9 (And.intro (by decide) rfl)
      | false =>
        cases b3 with
        | true =>
          have HV : Hid (R = .err p2.2 3) := Lib.hid (by rw [HA3.out, if_pos (by rw [HBK.out]; rfl)])
          clear HA3 HBK
          go_wp2_with (go_at_call 16; refine (fault_any p2.1 p2.2 (3) _).mono ?_; rintro rr W8 ⟨rfl, hb8⟩; have at8 := at5.below hb8; obtain ⟨e0, e1, e2, e3, e4, f0, f1, f2, eA, eF⟩ := at8.outs; have eA0 := eA 0; have eA1 := eA 1; have eA2 := eA 2; have eA3 := eA 3; have eA4 := eA 4; have eF0 := eF 0; have eF1 := eF 1; have eF2 := eF 2)

          obtain ⟨W9, hW9, c1, c2, k9⟩ := ret_mem at8.bA at8.bF (.string ⟨#[]⟩) (.string ⟨#[]⟩) (.int .i64 0) (.string ⟨#[]⟩) (.slice none 0 0) (.string ⟨#[]⟩) (.int .i64 (p2.2 : Int)) (.int .i64 (3))
          rw [← hW9]
          have hk9 : Kept (fun k => k = gr) W W9 := at8.kept.cutR k9 fun i hi => .inr (hi.elim (fun e => by rw [e]; exact at8.hA) (fun e => by rw [e]; exact at8.hF))
          have k0 := c1.cell 0
          have k1 := c1.cell 1
          have k2 := c1.cell 2
          have k3 := c1.cell 3
          have k4 := c1.cell 4
          have m0 := c2.cell 0
          have m1 := c2.cell 1
          have m2 := c2.cell 2
          simp at k0 k1 k2 k3 k4 m0 m1 m2
          refine bodyPost_ret (v := .tuple #[.agg #[.string ⟨#[]⟩, .string ⟨#[]⟩, .int .i64 0, .string ⟨#[]⟩, .slice none 0 0], .agg #[.string ⟨#[]⟩, .int .i64 (p2.2 : Int), .int .i64 (3)]]) (by simp [results, Tryd.results29, go_sem, k0, k1, k2, k3, k4, m0, m1, m2]) rfl ?_

          rw [HV.out]
          exact And.intro hk9 (And.intro (by decide) rfl)
        | false =>
          have hbk : brk p2.1 = false := HBK.out
          have hp2 := HNE2.out hbk
          have HA4 : Hid (R = if vErr 2 p2.1 ≠ 0 then .err p2.2 (vErr 2 p2.1) else .ok (.mk [] p.1 (op : Nat) p2.1 []) r2 (n + 1)) := Lib.hid (by rw [HA3.out, if_neg (by rw [hbk]; simp)])
          have hwr2 := hwr1.next hp2
          have TTW := hT.keep at5.kept (fun i hi e => by omega)
          have hck := check_any 2 p2.1 W7 (by omega) TTW.2.2
          have HNP2 := Lib.hid hp2
          clear HA3 HBK HNE2 hbk hp2
          obtain ⟨ev, HEV⟩ : ∃ x, Hid (vErr 2 p2.1 = x) := ⟨_, Lib.hid rfl⟩
          rw [HEV.out] at HA4 hck
          go_upto_region 17 with (go_at_call 39; refine hck.mono ?_; clear hck; rintro rr W8 ⟨rfl, hb8⟩)
          have at6 := at5.below hb8
          have bD6 := bD5.below hb8 bD5.lt
          clear at5 bD5 hb8 y0 y1 e1 e1b e2 e3
          obtain ⟨y0, y1⟩ := at6.tok
          by_cases hev : ev = 0
          rotate_left
          · have qe : (ev != 0) = true := by simpa using hev
            have HV : Hid (R = .err p2.2 ev) := Lib.hid (by rw [HA4.out, if_pos hev])
            have HEV0 := Lib.hid hev
            clear HA4 hev
            go_wp2_with (go_at_call 16; refine (fault_any p2.1 p2.2 (ev) _).mono ?_; rintro rr W9x ⟨rfl, hb8⟩; have at8 := at6.below hb8; obtain ⟨e0, e1, e2, e3, e4, f0, f1, f2, eA, eF⟩ := at8.outs; have eA0 := eA 0; have eA1 := eA 1; have eA2 := eA 2; have eA3 := eA 3; have eA4 := eA 4; have eF0 := eF 0; have eF1 := eF 1; have eF2 := eF 2)

            obtain ⟨W9, hW9, c1, c2, k9⟩ := ret_mem at8.bA at8.bF (.string ⟨#[]⟩) (.string ⟨#[]⟩) (.int .i64 0) (.string ⟨#[]⟩) (.slice none 0 0) (.string ⟨#[]⟩) (.int .i64 (p2.2 : Int)) (.int .i64 (ev))
            rw [← hW9]
            have hk9 : Kept (fun k => k = gr) W W9 := at8.kept.cutR k9 fun i hi => .inr (hi.elim (fun e => by rw [e]; exact at8.hA) (fun e => by rw [e]; exact at8.hF))
            have k0 := c1.cell 0
            have k1 := c1.cell 1
            have k2 := c1.cell 2
            have k3 := c1.cell 3
            have k4 := c1.cell 4
            have m0 := c2.cell 0
            have m1 := c2.cell 1
            have m2 := c2.cell 2
            simp at k0 k1 k2 k3 k4 m0 m1 m2
            refine bodyPost_ret (v := .tuple #[.agg #[.string ⟨#[]⟩, .string ⟨#[]⟩, .int .i64 0, .string ⟨#[]⟩, .slice none 0 0], .agg #[.string ⟨#[]⟩, .int .i64 (p2.2 : Int), .int .i64 (ev)]]) (by simp [results, Tryd.results29, go_sem, k0, k1, k2, k3, k4, m0, m1, m2]) rfl ?_

            rw [HV.out]
            exact And.intro hk9 (And.intro (HEV0.out) rfl)
          · subst hev
            have HV : Hid (R = .ok (.mk [] p.1 (op : Nat) p2.1 []) r2 (n + 1)) := Lib.hid (by rw [HA4.out, if_neg (by simp)])
            clear HA4
            have hnx := next_any B gr (n + 1) p2 r2 W8 at6.rs
            go_upto_region 20 with (go_at_call 27; refine hnx.mono ?_; clear hnx; rintro rr W9 ⟨rfl, hr9, hk9⟩)
            have at7 := at6.next hr9 hk9 hgW
            have bD7 := hk9.blk bD6 (fun e => by omega)
            clear at6 hr9 hk9 bD6 y0 y1
            obtain ⟨y0, y1⟩ := at7.tok
            have d2 := bD7.cell 2
            have d3 := bD7.cell 3
            have g2 := bD7.frozen 2
            have g3 := bD7.frozen 3
            simp at d2 d3
            have hDp2 : gp ≠ gD := fun e => hDp e.symm
            refine wp_region_plan (fun W => W.cell? ⟨gp, 0, none⟩ = some (.string (bs p2.1))) [(false, 0), (false, 1), (false, 2), (false, 3), (false, 4), (true, 5), (false, 6), (false, 7), (true, 8)] (by kernel_rfl) (by kernel_rfl) (y0) ?_
            simp only [planOps, List.map, List.getD_cons_zero, List.getD_cons_succ]
            iterate 5 ((first | refine plan_quiet (v := ?_) rfl rfl (fun w' hw' => ?_) ?_ | refine plan_calm (v := ?_) (tt_of) rfl (fun w' hw' => ?_) ?_); rotate_left; (focus (go_simp <;> (first | with_reducible rfl | (rw [if_neg (by simp [undef])]; try rfl) | omega))); simp only [Act.put, List.setIfInBounds_toArray, List.set_cons_zero, List.set_cons_succ])
            refine plan_loud rfl (fun K hK => ?_)
            go_simp
            have kD1 : Kept (fun k => k = gD) W9 (W9.setCell ⟨gD, 2, none⟩ (.int .i64 (op : Int))) := (Kept.refl (fun k => k = gD) W9).setCell (p := ⟨gD, 2, none⟩) (.int .i64 (op : Int)) fun _ => rfl
            have kD2 := kD1.setCell (p := ⟨gD, 3, none⟩) (.string (bs p2.1)) fun _ => rfl
            refine hK _ _ (kD1.cell y0 hDp2) ?_
            clear hK K
            (try simp only [Act.put, List.setIfInBounds_toArray, List.set_cons_zero, List.set_cons_succ])
            iterate 2 ((first | refine plan_quiet (v := ?_) rfl rfl (fun w' hw' => ?_) ?_ | refine plan_calm (v := ?_) (tt_of) rfl (fun w' hw' => ?_) ?_); rotate_left; (focus (go_simp <;> (first | with_reducible rfl | (rw [if_neg (by simp [undef])]; try rfl) | omega))); simp only [Act.put, List.setIfInBounds_toArray, List.set_cons_zero, List.set_cons_succ])
            refine plan_loud rfl (fun K hK => ?_)
            go_simp
            refine hK _ _ (kD2.cell y0 hDp2) ?_
            clear hK K
            (try simp only [Act.put, List.setIfInBounds_toArray, List.set_cons_zero, List.set_cons_succ])
            refine plan_end ?_
            have bD8 : Blk ((W9.setCell ⟨gD, 2, none⟩ (.int .i64 (op : Int))).setCell ⟨gD, 3, none⟩ (.string (bs p2.1))).drew gD 27 #[.string ⟨#[]⟩, .string (bs p.1), .int .i64 (op : Int), .string (bs p2.1), .slice none 0 0] := by
              have := (bD7.set (u := .int .i64 (op : Int)) 2).set (u := .string (bs p2.1)) 3
              simp at this
              exact this
            have at8 := (at7.other kD2 hD hgW hDA hDF hDp).below ((Below.refl _ ((W9.setCell ⟨gD, 2, none⟩ (.int .i64 (op : Int))).setCell ⟨gD, 3, none⟩ (.string (bs p2.1)))).drew)
            clear kD1 kD2 y0 y1 d2 d3 g2 g3 bD7 at7
            generalize ((W9.setCell ⟨gD, 2, none⟩ (.int .i64 (op : Int))).setCell ⟨gD, 3, none⟩ (.string (bs p2.1))).drew = Wa at bD8 at8 ⊢
            have d0 := bD8.cell 0
            have d1 := bD8.cell 1
            have d2 := bD8.cell 2
            have d3 := bD8.cell 3
            have d4 := bD8.cell 4
            simp at d0 d1 d2 d3 d4
            obtain ⟨e0, e1, e2, e3, e4, f0, f1, f2, eA, eF⟩ := at8.outs
            have eA0 := eA 0
            have eA1 := eA 1
            have eA2 := eA 2
            have eA3 := eA 3
            have eA4 := eA 4
            have eF0 := eF 0
            have eF1 := eF 1
            have eF2 := eF 2
            go_wp2_with fail
            obtain ⟨W9, hW9, c1, c2, k9⟩ := ret_mem at8.bA at8.bF (.string ⟨#[]⟩) (.string (bs p.1)) (.int .i64 (op : Int)) (.string (bs p2.1)) (.slice none 0 0) (.string ⟨#[]⟩) (.int .i64 0) (.int .i64 0)
            rw [← hW9]
            have hk9 : Kept (fun k => k = gr) W W9 := at8.kept.cutR k9 fun i hi => .inr (hi.elim (fun e => by rw [e]; exact at8.hA) (fun e => by rw [e]; exact at8.hF))
            have k0 := c1.cell 0
            have k1 := c1.cell 1
            have k2 := c1.cell 2
            have k3 := c1.cell 3
            have k4 := c1.cell 4
            have m0 := c2.cell 0
            have m1 := c2.cell 1
            have m2 := c2.cell 2
            simp at k0 k1 k2 k3 k4 m0 m1 m2
            refine bodyPost_ret (v := .tuple #[.agg #[.string ⟨#[]⟩, .string (bs p.1), .int .i64 (op : Int), .string (bs p2.1), .slice none 0 0], .agg #[.string ⟨#[]⟩, .int .i64 0, .int .i64 0]]) (by simp [results, Tryd.results29, go_sem, k0, k1, k2, k3, k4, m0, m1, m2]) rfl ?_

            rw [HV.out]
            have hrs9 := at8.rs9 k9
            exact And.intro hk9 ⟨⟨_, rfl, Sk.nil _ _ _ _⟩, hwr2, by simp; omega, hrs9, by omega⟩end Go.Proofs.YtjdcegogkafmoaaDoor


/- The walk of ar.member. -/
import Derived.Test.YtolknddegfcmpaaDoorArD
import Derived.Test.YtolknddegfcmpaaDoorCodT
namespace Go.Proofs.YtolknddegfcmpaaDoor
open Go.RowKit
/-- A field: filled up with blanks. -/
def filB (s : List UInt8) (n : Nat) : List UInt8 := s ++ List.replicate (n - s.length) 32
/-- A member. -/
def memI (name a b c d data : List UInt8) : List UInt8 :=
  filB name 16 ++ filB a 12 ++ filB b 6 ++ filB c 6 ++ filB d 8 ++ filB (Lib.decDigits data.length) 10 ++ [96, 10] ++ data ++ (if data.length % 2 = 1 then [10] else [])
theorem filB_len (s : List UInt8) (n : Nat) (h : s.length ≤ n) : (filB s n).length = n := by rw [filB, List.length_append, List.length_replicate]; omega
structure BX8 (w0 : World) (R0 : Option Nat) (base gx : Nat) (w : World) (v : Value) (l : List UInt8) : Prop where
  box : Blk w gx 26 #[v]
  own : w.ownsRow base 5 1 v l.length (bvs l)
  kept : Kept (fun k => R0 = some k) w0 w
  new : ∀ k, v.ownBlock = some k → R0 = some k ∨ w0.heap.size ≤ k
theorem BX8.put {w0 w w' : World} {R0 : Option Nat} {base gx : Nat} {v v' : Value} {l l' : List UInt8} (h : BX8 w0 R0 base gx w v l) (hgx : w0.heap.size ≤ gx) (hb : Blk w' gx 26 #[v']) (ho : w'.ownsRow base 5 1 v' l'.length (bvs l')) (hk : Kept (fun k => k = gx ∨ v.ownBlock = some k) w w') (hn : ∀ k, v'.ownBlock = some k → v.ownBlock = some k ∨ w.heap.size ≤ k) : BX8 w0 R0 base gx w' v' l' :=
  ⟨hb, ho, h.kept.cut hk fun i hi => hi.elim (fun e => .inr (by rw [e]; exact hgx)) (fun e => h.new i e), fun k hk2 => (hn k hk2).elim (h.new k) fun h2 => .inr (Nat.le_trans h.kept.size h2)⟩
theorem BX8.below {w0 w w' : World} {R0 : Option Nat} {base gx : Nat} {v : Value} {l : List UInt8} (h : BX8 w0 R0 base gx w v l) (hb : Below w.heap.size w w') : BX8 w0 R0 base gx w' v l :=
  ⟨h.box.below hb h.box.lt, own_below h.own hb, h.kept.trans (Kept.of_below hb _), h.new⟩
theorem BX8.row {w0 w w' : World} {R0 : Option Nat} {base gx : Nat} {v v' : Value} {l l' : List UInt8} (h : BX8 w0 R0 base gx w v l) (hgx : w0.heap.size ≤ gx) (hr : Row8 w v.ownBlock base 5 w' v' l') : BX8 w0 R0 base gx (w'.setCell ⟨gx, 0, none⟩ v') v' l' := by
  have hb1 := hr.kept.blk h.box (own_notblk h.own h.box (by decide))
  refine h.put hgx (hb1.set (u := v') 0) (own_other hr.own v' (own_notblk hr.own hb1 (by decide))) ((hr.kept.mono fun k _ e => .inr e).setCell (p := ⟨gx, 0, none⟩) v' fun _ => .inl rfl) fun k hk => hr.new k hk
/-- The decimal digits of a number below ten thousand million are ten at most. -/
theorem dec_ten (n : Nat) (h : n < 10000000000) : (Lib.decDigits n).length ≤ 10 := by
  rw [Lib.decDigits_length]
  exact nd_le 10 n (by omega) h
def gTab : Nat := 1
theorem Tab.lt {w : World} (h : Tab w) : gTab < w.heap.size := by
  by_cases hl : gTab < w.heap.size
  · exact hl
  · unfold Tab Lib.TabIs World.var? at h
    rw [show Tryd.prog.globalNamed "internal/strconv.uint64pow10" = some gTab by kernel_rfl] at h
    simp [Array.getElem?_eq_none (Nat.le_of_not_lt hl)] at h
theorem Tab.kept {X : Nat → Prop} {w w' : World} (h : Tab w) (k : Kept X w w') (hX : ¬ X gTab) : Tab w' := by
  have hlt := h.lt
  unfold Tab Lib.TabIs World.var? at *
  rw [show Tryd.prog.globalNamed "internal/strconv.uint64pow10" = some gTab by kernel_rfl] at *
  simpa [k.block gTab hlt hX] using h
set_option maxRecDepth 20000 in
set_option maxHeartbeats 16000000 in
theorem imember_any (w : World) (base : Nat) (v : Value) (l : List UInt8) (hown : w.ownsRow base 5 1 v l.length (bvs l)) (hbase : base ≤ w.heap.size) (hl : l.length ≤ 100000000)
    (s1 s2 s3 s4 s5 : List UInt8) (h1 : s1.length ≤ 16) (h2 : s2.length ≤ 12) (h3 : s3.length ≤ 6) (h4 : s4.length ≤ 6) (h5 : s5.length ≤ 8) (dv : Value) (data : List UInt8) (hd : Sl 1 Rbyte (fun k => v.ownBlock = some k) w dv data) (hdl : data.length ≤ 100000000) (hT : Tab w) (hgb : gTab < base) :
    Calls Tryd.prog 37 #[v, .string (bs s1), .string (bs s2), .string (bs s3), .string (bs s4), .string (bs s5), dv] w fun r w' => ∃ v', r = .returned v' ∧ Row8 w v.ownBlock base 5 w' v' (l ++ memI s1 s2 s3 s4 s5 data) := by
  obtain ⟨Ad, cd, rfl, hd1, hd2⟩ := hd.form
  unfold maxLen at hd2
  obtain ⟨A0, c0, rfl⟩ := own_form hown
  have hnT : ¬ (Value.slice A0 l.length c0).ownBlock = some gTab := fun e => by have := (hown.lt _ e).1; omega
  have hTlt := hT.lt
  have hnb : ∀ k, (Value.slice A0 l.length c0).ownBlock = some k → k < w.heap.size := fun k hk => (hown.lt k hk).2
  generalize hR0 : (Value.slice A0 l.length c0).ownBlock = R0 at hd hnb hnT ⊢
  have hbA : Below w.heap.size w (w.alloc (.cells #[.slice A0 l.length c0] 26)) := (Below.refl _ w).alloc (Nat.le_refl _) _
  have B0 : BX8 w R0 base w.heap.size (w.alloc (.cells #[.slice A0 l.length c0] 26)) (.slice A0 l.length c0) l :=
    ⟨Blk.new w _ _, own_below hown hbA, Kept.of_below hbA _, fun k hk => .inl (by rw [← hR0]; exact hk)⟩
  have hT0 := hT.below hbA
  have hS0 : base ≤ (w.alloc (.cells #[.slice A0 l.length c0] 26)).heap.size := Nat.le_trans hbase hbA.size
  have HGX : w.heap.size ≤ w.heap.size := Nat.le_refl _
  go_enter Tryd.func37, Tryd.ntmps37
  go_upto_region 2 with fail
  clear hown hbA
  generalize w.alloc (.cells #[.slice A0 l.length c0] 26) = W0 at B0 hT0 hS0 ⊢
  generalize hgx : w.heap.size = gx at B0 HGX ⊢
  have HGX : w.heap.size ≤ gx := by rw [hgx]; exact Nat.le_refl _
  have hp1 := iput_any s1 16 h1 (by omega) W0 gx base _ _ B0.box B0.own hS0 (by omega)
  go_upto_region 3 with (go_at_call 61; refine hp1.mono ?_; clear hp1; rintro r W1 ⟨rfl, v1, hbx, ho, hk, hnw⟩)
  have B1 := B0.put HGX hbx ho hk hnw
  have hT1 : Tab W1 := hT0.kept hk (fun e => e.elim (fun e => by omega) (fun e => (B0.new _ e).elim hnT (fun e => by omega)))
  have hS1 : base ≤ W1.heap.size := Nat.le_trans hS0 hk.size
  obtain ⟨l1, HL1⟩ : ∃ x, Hid (x = l ++ (s1 ++ List.replicate (16 - s1.length) 32)) := ⟨_, Lib.hid rfl⟩
  have hl1 : l1.length ≤ l.length + 16 := by rw [HL1.out, List.length_append, List.length_append, List.length_replicate]; omega
  rw [← HL1.out] at B1
  clear hbx ho hk hnw B0 hT0 hS0
  have hp2 := iput_any s2 12 h2 (by omega) W1 gx base _ _ B1.box B1.own hS1 (by omega)
  go_upto_region 4 with (go_at_call 61; refine hp2.mono ?_; clear hp2; rintro r W2 ⟨rfl, v2, hbx, ho, hk, hnw⟩)
  have B2 := B1.put HGX hbx ho hk hnw
  have hT2 : Tab W2 := hT1.kept hk (fun e => e.elim (fun e => by omega) (fun e => (B1.new _ e).elim hnT (fun e => by omega)))
  have hS2 : base ≤ W2.heap.size := Nat.le_trans hS1 hk.size
  obtain ⟨l2, HL2⟩ : ∃ x, Hid (x = l1 ++ (s2 ++ List.replicate (12 - s2.length) 32)) := ⟨_, Lib.hid rfl⟩
  have hl2 : l2.length ≤ l1.length + 12 := by rw [HL2.out, List.length_append, List.length_append, List.length_replicate]; omega
  rw [← HL2.out] at B2
  clear hbx ho hk hnw B1 hT1 hS1
  have hp3 := iput_any s3 6 h3 (by omega) W2 gx base _ _ B2.box B2.own hS2 (by omega)
  go_upto_region 5 with (go_at_call 61; refine hp3.mono ?_; clear hp3; rintro r W3 ⟨rfl, v3, hbx, ho, hk, hnw⟩)
  have B3 := B2.put HGX hbx ho hk hnw
  have hT3 : Tab W3 := hT2.kept hk (fun e => e.elim (fun e => by omega) (fun e => (B2.new _ e).elim hnT (fun e => by omega)))
  have hS3 : base ≤ W3.heap.size := Nat.le_trans hS2 hk.size
  obtain ⟨l3, HL3⟩ : ∃ x, Hid (x = l2 ++ (s3 ++ List.replicate (6 - s3.length) 32)) := ⟨_, Lib.hid rfl⟩
  have hl3 : l3.length ≤ l2.length + 6 := by rw [HL3.out, List.length_append, List.length_append, List.length_replicate]; omega
  rw [← HL3.out] at B3
  clear hbx ho hk hnw B2 hT2 hS2
  have hp4 := iput_any s4 6 h4 (by omega) W3 gx base _ _ B3.box B3.own hS3 (by omega)
  go_upto_region 6 with (go_at_call 61; refine hp4.mono ?_; clear hp4; rintro r W4 ⟨rfl, v4, hbx, ho, hk, hnw⟩)
  have B4 := B3.put HGX hbx ho hk hnw
  have hT4 : Tab W4 := hT3.kept hk (fun e => e.elim (fun e => by omega) (fun e => (B3.new _ e).elim hnT (fun e => by omega)))
  have hS4 : base ≤ W4.heap.size := Nat.le_trans hS3 hk.size
  obtain ⟨l4, HL4⟩ : ∃ x, Hid (x = l3 ++ (s4 ++ List.replicate (6 - s4.length) 32)) := ⟨_, Lib.hid rfl⟩
  have hl4 : l4.length ≤ l3.length + 6 := by rw [HL4.out, List.length_append, List.length_append, List.length_replicate]; omega
  rw [← HL4.out] at B4
  clear hbx ho hk hnw B3 hT3 hS3
  have hp5 := iput_any s5 8 h5 (by omega) W4 gx base _ _ B4.box B4.own hS4 (by omega)
  go_upto_region 7 with (go_at_call 61; refine hp5.mono ?_; clear hp5; rintro r W5 ⟨rfl, v5, hbx, ho, hk, hnw⟩)
  have B5 := B4.put HGX hbx ho hk hnw
  have hT5 : Tab W5 := hT4.kept hk (fun e => e.elim (fun e => by omega) (fun e => (B4.new _ e).elim hnT (fun e => by omega)))
  have hS5 : base ≤ W5.heap.size := Nat.le_trans hS4 hk.size
  obtain ⟨l5, HL5⟩ : ∃ x, Hid (x = l4 ++ (s5 ++ List.replicate (8 - s5.length) 32)) := ⟨_, Lib.hid rfl⟩
  have hl5 : l5.length ≤ l4.length + 8 := by rw [HL5.out, List.length_append, List.length_append, List.length_replicate]; omega
  rw [← HL5.out] at B5
  clear hbx ho hk hnw B4 hT4 hS4
  obtain ⟨dg, HDG⟩ : ∃ x, Hid (Lib.decDigits data.length = x) := ⟨_, Lib.hid rfl⟩
  have hdg : dg.length ≤ 10 := by rw [← HDG.out]; exact dec_ten _ (by omega)
  have hdc := dec_any data.length W5 (by omega) hT5
  rw [HDG.out] at hdc
  have hdc2 : Calls Tryd.prog 38 #[.int .i64 (data.length : Int)] W5 fun e w' => e = .returned (.string (bs dg)) ∧ Below W5.heap.size W5 w' := hdc
  clear hdc
  have HP6 := Lib.hid (fun (W : World) (hb : Below W5.heap.size W5 W) => (⟨B5.below hb, hT5.below hb, iput_any dg 10 hdg (by omega) W gx base _ _ (B5.below hb).box (B5.below hb).own (Nat.le_trans hS5 hb.size) (by omega)⟩ : _ ∧ _ ∧ _))
  go_upto_region 8 with (first
    | (go_at_call 38; refine hdc2.mono ?_; clear hdc2; rintro r W6 ⟨rfl, hb6⟩; obtain ⟨B6, hT6, hp6⟩ := HP6.out W6 hb6)
    | (go_at_call 61; refine hp6.mono ?_; clear hp6; rintro r W7 ⟨rfl, v7, hbx, ho, hk, hnw⟩))
  have B7 := B6.put HGX hbx ho hk hnw
  have hS7 : base ≤ W7.heap.size := Nat.le_trans (Nat.le_trans hS5 hb6.size) hk.size
  obtain ⟨l7, HL7⟩ : ∃ x, Hid (x = l5 ++ (dg ++ List.replicate (10 - dg.length) 32)) := ⟨_, Lib.hid rfl⟩
  have hl7 : l7.length ≤ l5.length + 10 := by rw [HL7.out, List.length_append, List.length_append, List.length_replicate]; omega
  rw [← HL7.out] at B7
  clear hbx ho hk hnw B5 B6 hT5 hT6 HP6 hb6
  obtain ⟨A7, c7, rfl⟩ := own_form B7.own
  have z7 := B7.box.cell 0
  simp at z7
  have hr7 := Row8.first B7.own hS7
  go_upto_region 9 with (at_builtin; refine wpList_row_text rfl _ _ 26 9 rfl Tryd.underlying26 Tryd.underlying9 u8info rfl hr7 [96, 10] rfl (by simp; omega) ?_; intro v8 W8 hr8; obtain ⟨A8, c8, rfl⟩ := own_form hr8.own; have hbx8 := hr8.kept.blk B7.box (own_notblk B7.own B7.box (by decide)); have y8 := hbx8.cell 0; have f8 := hbx8.frozen 0; simp at y8)
  have B9 := B7.row HGX hr8
  have hl8 : (l7 ++ [96, 10]).length = l7.length + 2 := by simp
  have hS9 : base ≤ (W8.setCell ⟨gx, 0, none⟩ (.slice A8 (l7 ++ [96, 10]).length c8)).heap.size := by have := hr8.kept.size; simp; omega
  rw [hl8] at B9 hS9
  clear hr7 hr8 hbx8 y8 f8 z7 B7
  generalize W8.setCell ⟨gx, 0, none⟩ (.slice A8 (l7.length + 2) c8) = W9 at B9 hS9 ⊢
  obtain ⟨l9, HL9⟩ : ∃ x, Hid (x = l7 ++ [96, 10]) := ⟨_, Lib.hid rfl⟩
  rw [← HL9.out] at B9 hl8
  rw [← hl8] at B9 ⊢
  have hl9 : l9.length ≤ l7.length + 2 := by omega
  clear hl8
  have z9 := B9.box.cell 0
  simp at z9
  have hr9 := Row8.first B9.own hS9
  have hd9 := (hd.keep good_byte B9.kept).sb8
  go_upto_region 10 with (at_builtin; refine wpList_row_bytes rfl _ _ 26 rfl Tryd.underlying26 u8info rfl hr9 _ _ _ data rfl hd9 (by omega) ?_; intro v10 W10 hr10; obtain ⟨A10, c10, rfl⟩ := own_form hr10.own; have hbx10 := hr10.kept.blk B9.box (own_notblk B9.own B9.box (by decide)); have y10 := hbx10.cell 0; have f10 := hbx10.frozen 0; simp at y10)
  have B11 := B9.row HGX hr10
  have hl10 : (l9 ++ data).length = l9.length + data.length := by simp
  have hS11 : base ≤ (W10.setCell ⟨gx, 0, none⟩ (.slice A10 (l9 ++ data).length c10)).heap.size := by have := hr10.kept.size; simp; omega
  rw [hl10] at B11 hS11
  clear hr9 hr10 hbx10 y10 f10 z9 B9 hd9 hd
  generalize W10.setCell ⟨gx, 0, none⟩ (.slice A10 (l9.length + data.length) c10) = W11 at B11 hS11 ⊢
  obtain ⟨la, HLA⟩ : ∃ x, Hid (x = l9 ++ data) := ⟨_, Lib.hid rfl⟩
  rw [← HLA.out] at B11 hl10
  rw [← hl10] at B11 ⊢
  have hla : la.length ≤ l9.length + data.length := by omega
  clear hl10
  have z11 := B11.box.cell 0
  simp at z11
  have HF : Hid (l ++ memI s1 s2 s3 s4 s5 data = la ++ (if data.length % 2 = 1 then [10] else [])) := Lib.hid (by
    rw [HLA.out, HL9.out, HL7.out, HL5.out, HL4.out, HL3.out, HL2.out, HL1.out, memI, HDG.out]
    simp only [filB, List.append_assoc])
  obtain ⟨m2, HM2⟩ : ∃ x, Hid (x = data.length % 2) := ⟨_, Lib.hid rfl⟩
  have wm : (data.length : Int).tmod 2 = (m2 : Int) := by rw [Int.tmod_eq_emod_of_nonneg (by omega), HM2.out]; omega
  have wmb : (data.length : Int) % 2 = (m2 : Int) := by rw [HM2.out]; omega
  by_cases hm : m2 = 1
  · have tm : ((m2 : Int) == 1) = true := by rw [beq_iff_eq]; omega
    have tmb : (m2 == 1) = true := by simpa using hm
    have HFF := Lib.hid (HF.out.trans (by rw [← HM2.out, if_pos hm]) : l ++ memI s1 s2 s3 s4 s5 data = la ++ [10])
    clear hm
    have hr11 := Row8.first B11.own hS11
    go_upto_region 12 with (at_builtin; refine wpList_row_bytes rfl _ _ 26 rfl Tryd.underlying26 u8info rfl (hr11.alloc _) _ 1 1 [10] rfl (SB.made W11 [10] #[.int .u8 10] 5 rfl (by decide)) (by simp; omega) ?_; intro v12 W12 hr12; obtain ⟨A12, c12, rfl⟩ := own_form hr12.own; have hbx12 := hr12.kept.blk B11.box (own_notblk B11.own B11.box (by decide)); have y12 := hbx12.cell 0; have f12 := hbx12.frozen 0; simp at y12)
    have B13 := B11.row HGX hr12
    have hl12 : (la ++ [10]).length = la.length + 1 := by simp
    rw [hl12] at B13
    clear hr11 hr12 hbx12 y12 f12 z11 B11
    generalize W12.setCell ⟨gx, 0, none⟩ (.slice A12 (la.length + 1) c12) = W13 at B13 ⊢
    have z13 := B13.box.cell 0
    simp at z13
    go_wp2_with fail
    go_ret
    refine ⟨_, rfl, ?_⟩
    rw [HFF.out]
    have hob := B13.own
    exact ⟨by rw [hl12]; rw [hl12] at hob; exact hob, B13.new, B13.kept, hbase⟩
  · have tm : ((m2 : Int) == 1) = false := by
      have : ¬ (m2 : Int) = 1 := by omega
      simpa using this
    have tmb : (m2 == 1) = false := by simpa using hm
    have HFF := Lib.hid (HF.out.trans (by rw [← HM2.out, if_neg hm, List.append_nil]) : l ++ memI s1 s2 s3 s4 s5 data = la)
    clear hm
    go_wp2_with fail
    go_ret
    refine ⟨_, rfl, ?_⟩
    rw [HFF.out]
    exact ⟨B11.own, B11.new, B11.kept, hbase⟩
end Go.Proofs.YtolknddegfcmpaaDoor

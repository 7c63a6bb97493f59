/- The walk of cpio's put: a member behind what is there. -/
import Derived.Test.YtolknddegfcmpaaDoorCpHS
import Derived.Test.YtolknddegfcmpaaDoorCpAF
import Derived.Test.YtolknddegfcmpaaDoorRw8
namespace Go.Proofs.YtolknddegfcmpaaDoor
open Go.RowKit
def magicL : List UInt8 := [48, 55, 48, 55, 48, 49]
/-- A member. -/
def memB (ns : List Nat) (name data : List UInt8) : List UInt8 :=
  magicL ++ (ns.map fun n => hxd n 8).flatten ++ name ++ [0] ++ List.replicate (filN (111 + name.length)) 0 ++ data ++ List.replicate (filN data.length) 0
def numL (f md lk ui gi ti sz nz : Nat) : List Nat := [f, md, lk, ui, gi, ti, sz, 0, 0, 0, 0, nz, 0]
def hexK (ns : List Nat) (i : Nat) : List UInt8 := ((ns.take i).map fun n => hxd n 8).flatten
theorem hexK_step (ns : List Nat) (i : Nat) (h : i < ns.length) : hexK ns (i + 1) = hexK ns i ++ hxd ns[i] 8 := by
  rw [hexK, hexK, List.take_succ_eq_append_getElem h, List.map_append, List.flatten_append]; simp
theorem hexK_len (ns : List Nat) (i : Nat) (h : i ≤ ns.length) : (hexK ns i).length = 8 * i := by
  induction i with
  | zero => simp [hexK]
  | succ i ih => rw [hexK_step ns i (by omega), List.length_append, ih (by omega), hxd_length]; omega
theorem at13 (a0 a1 a2 a3 a4 a5 a6 a7 a8 a9 a10 a11 a12 : Nat) (i : Nat) (h : i < 13) (W : World) :
    (Instr.index 57 (.agg #[.int .i64 a0, .int .i64 a1, .int .i64 a2, .int .i64 a3, .int .i64 a4, .int .i64 a5, .int .i64 a6, .int .i64 a7, .int .i64 a8, .int .i64 a9, .int .i64 a10, .int .i64 a11, .int .i64 a12]) (.int .i64 (i : Int))).run Tryd.prog W =
      .ok (.int .i64 (([a0, a1, a2, a3, a4, a5, a6, a7, a8, a9, a10, a11, a12][i]'h : Nat) : Int)) W := by
  have hu : Tryd.prog.underlying 57 = some (.array 13 3) := Tryd.underlying57
  match i, h with
  | 0, _ => simp [Instr.index, run_underlying hu, asInt, asIntOf, part, go_sem]
  | 1, _ => simp [Instr.index, run_underlying hu, asInt, asIntOf, part, go_sem]
  | 2, _ => simp [Instr.index, run_underlying hu, asInt, asIntOf, part, go_sem]
  | 3, _ => simp [Instr.index, run_underlying hu, asInt, asIntOf, part, go_sem]
  | 4, _ => simp [Instr.index, run_underlying hu, asInt, asIntOf, part, go_sem]
  | 5, _ => simp [Instr.index, run_underlying hu, asInt, asIntOf, part, go_sem]
  | 6, _ => simp [Instr.index, run_underlying hu, asInt, asIntOf, part, go_sem]
  | 7, _ => simp [Instr.index, run_underlying hu, asInt, asIntOf, part, go_sem]
  | 8, _ => simp [Instr.index, run_underlying hu, asInt, asIntOf, part, go_sem]
  | 9, _ => simp [Instr.index, run_underlying hu, asInt, asIntOf, part, go_sem]
  | 10, _ => simp [Instr.index, run_underlying hu, asInt, asIntOf, part, go_sem]
  | 11, _ => simp [Instr.index, run_underlying hu, asInt, asIntOf, part, go_sem]
  | 12, _ => simp [Instr.index, run_underlying hu, asInt, asIntOf, part, go_sem]
theorem fil_lt (n : Nat) : filN n < 4 := Nat.mod_lt _ (by omega)
theorem Sl.sb8 {X : Nat → Prop} {w : World} {v : Value} {l : List UInt8} (h : Sl 1 Rbyte X w v l) : SB w v l := by
  obtain ⟨A, cap, hv, h1, h2, h3, h4, _⟩ := h
  refine ⟨A, cap, hv, h1, h2, h3, fun hl => ?_⟩
  obtain ⟨b, off, hA, _, hc⟩ := h4 hl
  refine ⟨b, off, hA, fun j hj => ?_⟩
  obtain ⟨cs, hcs, rfl⟩ := hc j hj
  simpa using hcs 0 _ rfl
set_option maxRecDepth 20000 in
set_option maxHeartbeats 8000000 in
theorem put_any (w : World) (base : Nat) (v : Value) (l : List UInt8) (hown : w.ownsRow base 5 1 v l.length (bvs l)) (hbase : base ≤ w.heap.size) (hl : l.length ≤ 1000000000)
    (f md lk ui gi ti : Nat) (h0 : f ≤ 4294967295) (h1 : md ≤ 4294967295) (h2 : lk ≤ 4294967295) (h3 : ui ≤ 4294967295) (h4 : gi ≤ 4294967295) (h5 : ti ≤ 4294967295) (name : List UInt8) (hnm : name.length ≤ 10000000) (dv : Value) (data : List UInt8)
    (hd : Sl 1 Rbyte (fun k => v.ownBlock = some k) w dv data) (hdl : data.length ≤ 10000000) :
    Calls Tryd.prog 25 #[v, .agg #[.int .i64 f, .int .i64 md, .int .i64 lk, .int .i64 ui, .int .i64 gi, .int .i64 ti, .int .i64 0, .int .i64 0, .int .i64 0, .int .i64 0, .int .i64 0, .int .i64 0, .int .i64 0], .string (bs name), dv] w fun e w' =>
      ∃ v', e = .returned v' ∧ Row8 w v.ownBlock base 5 w' v' (l ++ memB (numL f md lk ui gi ti data.length (name.length + 1)) name data) := by
  obtain ⟨Ad, capd, rfl, hd1, hd2⟩ := hd.form
  unfold maxLen at hd2
  have hr := Row8.first hown hbase
  obtain ⟨nz, HNZ⟩ : ∃ nz, Hid (nz = name.length + 1) := ⟨_, Lib.hid rfl⟩
  have w1 : IntKind.i64.wrap ((name.length : Int) + 1) = (nz : Int) := by rw [i64_in _ (by omega) (by omega), HNZ.out]; omega
  have hns := bs_size name
  obtain ⟨nd, HND⟩ : ∃ nd, Hid (nd = data.length) := ⟨_, Lib.hid rfl⟩
  have hdn := HND.out.symm
  rw [hdn] at hd
  have hnzl : nz ≤ 4294967295 := by rw [HNZ.out]; omega
  have hndl : nd ≤ 4294967295 := by omega
  have HL : Hid (∀ x ∈ numL f md lk ui gi ti nd nz, x ≤ 4294967295) := Lib.hid (by simp [numL]; omega)
  have HAT : Hid (∀ (i : Nat) (h : i < (numL f md lk ui gi ti nd nz).length) (W : World), (Instr.index 57 (.agg #[.int .i64 f, .int .i64 md, .int .i64 lk, .int .i64 ui, .int .i64 gi, .int .i64 ti, .int .i64 nd, .int .i64 0, .int .i64 0, .int .i64 0, .int .i64 0, .int .i64 nz, .int .i64 0]) (.int .i64 (i : Int))).run Tryd.prog W = .ok (.int .i64 (((numL f md lk ui gi ti nd nz)[i]'h : Nat) : Int)) W) := Lib.hid fun i h W => at13 f md lk ui gi ti nd 0 0 0 0 nz 0 i (by simpa [numL] using h) W
  have HLN : Hid ((numL f md lk ui gi ti nd nz).length = 13) := Lib.hid rfl
  rw [show memB (numL f md lk ui gi ti data.length (name.length + 1)) name data = magicL ++ hexK (numL f md lk ui gi ti nd nz) 13 ++ name ++ [0] ++ List.replicate (filN (111 + name.length)) 0 ++ data ++ List.replicate (filN data.length) 0 by rw [HNZ.out, HND.out]; rfl]
  generalize numL f md lk ui gi ti nd nz = ns at HL HAT HLN ⊢
  generalize hR0 : v.ownBlock = R0 at hd hr ⊢
  clear hown
  go_enter Tryd.func25, Tryd.ntmps25
  go_upto_region 2 with fail
  have bN := Blk.new w 57 #[.int .i64 f, .int .i64 md, .int .i64 lk, .int .i64 ui, .int .i64 gi, .int .i64 ti, .int .i64 nd, .int .i64 0, .int .i64 0, .int .i64 0, .int .i64 0, .int .i64 nz, .int .i64 0]
  have hr1 := hr.alloc (.cells #[.int .i64 f, .int .i64 md, .int .i64 lk, .int .i64 ui, .int .i64 gi, .int .i64 ti, .int .i64 nd, .int .i64 0, .int .i64 0, .int .i64 0, .int .i64 0, .int .i64 nz, .int .i64 0] 57)
  have ha : ∀ k, R0 = some k → k ≠ w.heap.size := fun k hk e => by
    have := (hr.own.lt k (by rw [hR0]; exact hk)).2
    omega
  generalize hg : w.heap.size = g at bN ha ⊢
  generalize w.alloc (.cells #[.int .i64 f, .int .i64 md, .int .i64 lk, .int .i64 ui, .int .i64 gi, .int .i64 ti, .int .i64 nd, .int .i64 0, .int .i64 0, .int .i64 0, .int .i64 0, .int .i64 nz, .int .i64 0] 57) = W1 at bN hr1 ⊢
  have hra := hr1.again
  rw [hR0] at hra
  go_upto_region 3 with (at_builtin; refine wpList_row_text rfl _ _ 26 9 rfl Tryd.underlying26 Tryd.underlying9 u8info rfl hra magicL rfl (by simp [magicL]; omega) ?_; intro v2 W2 hr2)
  have b2 := hr2.kept.blk bN (fun e => ha _ e rfl)
  have hr3 := hr1.trans (by rw [hR0]; exact hr2)
  clear hr2 hra hr1 bN ha hr hR0
  have d0 := b2.cell 0
  have d1 := b2.cell 1
  have d2 := b2.cell 2
  have d3 := b2.cell 3
  have d4 := b2.cell 4
  have d5 := b2.cell 5
  have d6 := b2.cell 6
  have d7 := b2.cell 7
  have d8 := b2.cell 8
  have d9 := b2.cell 9
  have d10 := b2.cell 10
  have d11 := b2.cell 11
  have d12 := b2.cell 12
  simp at d0 d1 d2 d3 d4 d5 d6 d7 d8 d9 d10 d11 d12
  go_wp2_with fail
  clear d0 d1 d2 d3 d4 d5 d6 d7 d8 d9 d10 d11 d12 b2
  go_loopg [0, 23] 13 (fun G s0 s23 wr => ∃ k : Nat, k ≤ 13 ∧ G = 13 - k ∧ s23 = .int .i64 k ∧ Row8 w R0 base 5 wr s0 (l ++ magicL ++ hexK ns k))
  case atStart => exact ⟨0, Nat.zero_le _, rfl, rfl, by simpa [hexK] using hr3⟩
  case round =>
    clear hr3
    obtain ⟨k, hk, rfl, rfl, hr4⟩ := hrel
    by_cases hlt : k < 13
    · have hkl : k < ns.length := by rw [HLN.out]; exact hlt
      have hat := HAT.out k hkl
      have hle := HL.out _ (List.getElem_mem hkl)
      have HST := Lib.hid (hexK_step ns k hkl)
      generalize ns[k] = x at hat hle HST
      have hkn := hexK_len ns k (by omega)
      have hxn := hxd_length x 8
      have hmn : magicL.length = 6 := rfl
      have HB : Hid ((l ++ magicL ++ hexK ns k).length + (hxd x 8).length ≤ 70368744177664) := Lib.hid (by simp only [List.length_append]; omega)
      clear hkn hxn hmn HAT HL
      go_wp2_with (first
        | (go_at_call 47; refine (hex8_any x _ hle).mono ?_; rintro e W5 ⟨rfl, hb5⟩; have hr5 := hr4.below hb5)
        | (at_builtin; refine wpList_row_text rfl _ _ 26 9 rfl Tryd.underlying26 Tryd.underlying9 u8info rfl hr5 (hxd x 8) rfl HB.out ?_; intro v6 W6 hr6))
      go_roundg (13 - (k + 1))
      case measure => omega
      case rel => exact ⟨k + 1, by omega, rfl, by simp, by rw [HST.out, ← List.append_assoc]; exact hr6⟩
    · have hke : k = 13 := by omega
      subst hke
      clear HAT HL
      have hkn := hexK_len ns 13 (by rw [HLN.out]; exact Nat.le_refl _)
      have hmn : magicL.length = 6 := rfl
      have HM : Hid ((l ++ magicL ++ hexK ns 13).length ≤ 1000000200) := Lib.hid (by simp only [List.length_append]; omega)
      have hp1 := pfill_any (111 + name.length)
      have hp2 := pfill_any nd
      have HF := fil_lt (111 + name.length)
      have HF2 := fil_lt nd
      obtain ⟨m1, HM1⟩ : ∃ m, Hid (filN (111 + name.length) = m) := ⟨_, Lib.hid rfl⟩
      obtain ⟨m2, HM2⟩ : ∃ m, Hid (filN nd = m) := ⟨_, Lib.hid rfl⟩
      rw [HM1.out] at hp1 HF
      rw [HM2.out] at hp2 HF2
      obtain ⟨nf, HNF⟩ : ∃ nf, Hid (111 + name.length = nf) := ⟨_, Lib.hid rfl⟩
      rw [HNF.out] at hp1
      obtain ⟨n0, HN0⟩ : ∃ n0, Hid (110 + name.length = n0) := ⟨_, Lib.hid rfl⟩
      have w2 : IntKind.i64.wrap (110 + (name.length : Int)) = (n0 : Int) := by rw [i64_in _ (by omega) (by omega), ← HN0.out]; omega
      have w3 : IntKind.i64.wrap ((n0 : Int) + 1) = (nf : Int) := by have := HNF.out; have := HN0.out; rw [i64_in _ (by omega) (by omega)]; omega
      have hnf : nf ≤ 1000000000000 := by have := HNF.out; omega
      have hnd : nd ≤ 1000000000000 := by omega
      have hp1 := fun w => hp1 w hnf
      have hp2 := fun w => hp2 w hnd
      clear hkn hmn
      go_wp2_with (first
        | (at_builtin; refine wpList_row_text rfl _ _ 26 9 rfl Tryd.underlying26 Tryd.underlying9 u8info rfl hr4 name rfl (by have := HM.out; omega) ?_; intro v6 W6 hr6)
        | (at_builtin; refine wpList_row_bytes rfl _ _ 26 rfl Tryd.underlying26 u8info rfl (hr6.alloc _) _ 1 1 [0] rfl (SB.made W6 [0] #[.int .u8 0] 5 rfl (by decide)) (by rw [List.length_append]; have := HM.out; simp only [List.length_singleton]; omega) ?_; intro v7 W7 hr7)
        | (go_at_call 48; refine (hp1 _).mono ?_; rintro e W8 ⟨rfl, rfl⟩)
        | (at_builtin; refine wpList_row_zeros rfl _ _ 26 3 rfl Tryd.underlying26 Tryd.underlying3 u8info rfl hr7 m1 rfl (by rw [List.length_append, List.length_append]; have := HM.out; simp only [List.length_singleton]; omega) ?_; intro v8 W8 hr8; have hs8 := (hr8.sl hd).sb8)
        | (at_builtin; refine wpList_row_bytes rfl _ _ 26 rfl Tryd.underlying26 u8info rfl hr8 _ _ _ data rfl hs8 (by rw [List.length_append, List.length_append, List.length_append]; have := HM.out; simp only [List.length_singleton, List.length_replicate]; omega) ?_; intro v9 W9 hr9)
        | (go_at_call 48; refine (hp2 _).mono ?_; rintro e W10 ⟨rfl, rfl⟩)
        | (at_builtin; refine wpList_row_zeros rfl _ _ 26 3 rfl Tryd.underlying26 Tryd.underlying3 u8info rfl hr9 m2 rfl (by rw [List.length_append, List.length_append, List.length_append, List.length_append]; have := HM.out; simp only [List.length_singleton, List.length_replicate]; omega) ?_; intro v10 W10 hr10))
      go_ret
      refine ⟨_, rfl, ?_⟩
      rw [HM1.out, hdn, HM2.out, show l ++ (magicL ++ hexK ns 13 ++ name ++ [0] ++ List.replicate m1 0 ++ data ++ List.replicate m2 0) = l ++ magicL ++ hexK ns 13 ++ name ++ [0] ++ List.replicate m1 0 ++ data ++ List.replicate m2 0 by simp only [List.append_assoc]]
      exact hr10
end Go.Proofs.YtolknddegfcmpaaDoor

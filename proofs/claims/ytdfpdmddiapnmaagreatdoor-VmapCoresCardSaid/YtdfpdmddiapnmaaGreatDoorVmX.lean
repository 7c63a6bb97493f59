/- The walk of the law on cores' texts. -/
import Derived.Test.YtdfpdmddiapnmaaGreatDoorVmN
import Derived.Test.YtdfpdmddiapnmaaGreatDoorVmH
import Derived.Test.YtdfpdmddiapnmaaGreatDoorVmQ
namespace Go.Proofs.YtdfpdmddiapnmaaGreatDoor
open Go.RowKit
/-- What the law on cores holds. -/
structure CrW (w : World) (c : Co) (nv : Value) (wx : World) : Prop where
  ba : CB wx w.heap.size c nv
  sa : Sl 1 Rint nowhere wx nv c.nums
  va : VarV wx
  below : Below w.heap.size w wx
namespace CrW
variable {w wx wy : World} {c : Co} {nv : Value}
theorem lt' (h : CrW w c nv wx) : w.heap.size < wx.heap.size := Blk.lt h.ba
theorem keep (h : CrW w c nv wx) (hb : Below wx.heap.size wx wy) : CrW w c nv wy :=
  have := h.lt'
  ⟨h.ba.below hb (by omega), Below.sl good_int hb h.sa, h.va.below hb, h.below.trans (hb.mono (by omega))⟩
theorem drew (h : CrW w c nv wx) : CrW w c nv wx.drew := h.keep (Below.refl _ _).drew
end CrW
theorem crw0 (w : World) (c : Co) (nv : Value) (h : Sl 1 Rint nowhere w nv c.nums) (hv : VarV w) : CrW w c nv (chk0 w c nv) := by
  obtain ⟨h1, h2, _⟩ := chk0_cb w c nv
  exact ⟨h1, Below.sl good_int h2 h, hv.below h2, h2⟩
/-- The row of a slice whose numbers from a place on are small, all free to be written. -/
def RowW (b off n k : Nat) (w : World) : Prop := ∀ j, j < n → w.frozen? ⟨b, off + j, none⟩ = false ∧ ∃ m : Int, w.cell? ⟨b, off + j, none⟩ = some (.int .i64 m) ∧ (k ≤ j → 0 ≤ m ∧ m ≤ 999999999)
theorem RowW.set {b off n k : Nat} {w : World} (h : RowW b off n k w) (hk : k < n) (v : Int) : RowW b off n (k + 1) (w.setCell ⟨b, off + k, none⟩ (.int .i64 v)) := fun j hj => by
  obtain ⟨h1, m, h2, h3⟩ := h j hj
  refine ⟨by rw [World.frozen?_setCell]; exact h1, ?_⟩
  by_cases e : j = k
  · subst e
    exact ⟨v, by rw [World.cell?_setCell_same' _ _ _ (by rw [h2]; rfl)], fun h => by omega⟩
  · refine ⟨m, ?_, fun h => h3 (by omega)⟩
    rw [World.cell?_setCell_other _ _ _ _ (fun he => by injection he with _ he _; omega)]
    exact h2
theorem RowW.drew {b off n k : Nat} {w : World} (h : RowW b off n k w) : RowW b off n k w.drew := h
theorem CB.set {w : World} {g : Nat} {c : Co} {nv : Value} (h : CB w g c nv) (p : Addr) (v : Value) (hp : g ≠ p.block) : CB (w.setCell p v) g c nv := (Below.heap_setCell w p v g hp).trans h
set_option maxRecDepth 100000 in
set_option maxHeartbeats 8000000 in
theorem law_cores (f : Int) (nv : Value) (c : Co) (s : ByteArray) (w : World) (_ : I64 f) (hsl : Sl 1 Rint nowhere w nv c.nums) (_ : s.size ≤ maxLen) (h2 : Tab w) (h1 : Words w) (h3 : Pres w) :
    Calls Tryz.prog 3 #[.int .i64 f, coV c nv, .string s] w fun e w' => e = .returned (.bool true) ∧ Below w.heap.size w w' := by
  obtain ⟨l, rfl⟩ : ∃ l, s = bs l := ⟨_, bs_self s⟩
  have h : VarV w := ⟨h1, h2, h3⟩
  have hz : ((bs l).size : Int) = (l.length : Int) := by rw [bs_size]
  obtain ⟨A, cap, rfl, hc1, hc2⟩ := hsl.form
  unfold maxLen at hc2
  have t0 := crw0 w c _ hsl h
  clear h1 h2 h3 h hsl
  show Calls Tryz.prog 3 #[.int .i64 f, .agg #[.int .i64 c.epoch, .slice A c.nums.length cap, .string (bs c.letter), .string (bs c.pre), .int .i64 c.preNum, .int .i64 c.rev], .string (bs l)] w _
  go_enter Tryz.func3, Tryz.ntmps3
  go_upto_region 1 with fail
  have hW : chk0 w c (.slice A c.nums.length cap) = w.alloc (.cells #[.int .i64 c.epoch, .slice A c.nums.length cap, .string (bs c.letter), .string (bs c.pre), .int .i64 c.preNum, .int .i64 c.rev] 24) := rfl
  rw [← hW]
  clear hW
  generalize chk0 w c (.slice A c.nums.length cap) = w0 at t0 ⊢
  go_wp2_with fail
  refine (awakeM _ t0.va).mono ?_
  rintro e w1 ⟨rfl, hb1⟩
  have t1 := t0.keep hb1
  clear t0 hb1
  obtain ⟨d0, d1, d2, d3, d4, d5⟩ := t1.ba.cells
  go_wp2_with fail
  refine (vlight_any c _ nowhere _ t1.sa).mono ?_
  rintro e w2 ⟨rfl, hb2⟩
  have t2 := t1.keep hb2
  clear d0 d1 d2 d3 d4 d5 t1 hb2
  cases hli : lightC c with
  | false =>
    go_wp2_with fail
    go_ret
    exact ⟨rfl, t2.below⟩
  | true =>
  have hZ := light_z c hli
  clear hli
  by_cases h2 : 2000 < l.length
  · have hd : decide ((2000 : Int) < ((bs l).size : Int)) = true := by rw [hz]; simp; omega
    clear hz h2
    go_wp2_with fail
    go_ret
    exact ⟨rfl, t2.below⟩
  have hd : decide ((2000 : Int) < ((bs l).size : Int)) = false := by rw [hz]; simp; omega
  have hl : l.length ≤ 2000 := by omega
  clear hz h2
  obtain ⟨d0, d1, d2, d3, d4, d5⟩ := t2.ba.cells
  obtain ⟨⟨x, y⟩, H1⟩ : ∃ p, Hid (prC f c = p) := ⟨_, Lib.hid rfl⟩
  have c1 := vprint_any f c _ nowhere _ t2.sa hZ t2.va.tt t2.va.pp
  rw [H1.out] at c1
  go_wp2_with fail
  refine c1.mono ?_
  rintro e w3 ⟨rfl, hb3⟩
  have t3 := t2.keep hb3
  clear d0 d1 d2 d3 d4 d5 t2 hb3 c1
  obtain ⟨d0, d1, d2, d3, d4, d5⟩ := t3.ba.cells
  have c1 := rvprint_any f c _ nowhere _ t3.sa hZ
  rw [H1.out] at c1
  go_wp2_with fail
  refine c1.mono ?_
  rintro e w4 ⟨rfl, hb4⟩
  have t4 := t3.keep hb4
  clear d0 d1 d2 d3 d4 d5 t3 hb4 c1
  obtain ⟨⟨z, g⟩, H2⟩ : ∃ p, Hid (paC f l = p) := ⟨_, Lib.hid rfl⟩
  have c1 := vparse_any f l _ hl t4.va.ww t4.va.tt t4.va.pp
  rw [H2.out] at c1
  go_wp2_with fail
  refine c1.mono ?_
  rintro e w5 ⟨nz, rfl, hsz, hb5⟩
  have t5 := t4.keep hb5
  have hsz := hsz.any good_int (by omega)
  clear t4 hb5 c1
  obtain ⟨A5, cap5, rfl, hm1, hm2⟩ := hsz.form
  unfold maxLen at hm2
  unfold coV
  go_upto_region 8 with fail
  obtain ⟨z1, hbz, hzz⟩ := chk0_cb w5 z (.slice A5 z.nums.length cap5)
  have hW : chk0 w5 z (.slice A5 z.nums.length cap5) = w5.alloc (.cells #[.int .i64 z.epoch, .slice A5 z.nums.length cap5, .string (bs z.letter), .string (bs z.pre), .int .i64 z.preNum, .int .i64 z.rev] 24) := rfl
  rw [← hW]
  clear hW
  generalize chk0 w5 z (.slice A5 z.nums.length cap5) = w6 at z1 hbz hzz ⊢
  have t6 := t5.keep hbz
  have s6 := Below.sl good_int hbz hsz
  obtain ⟨g1, Hg1⟩ : ∃ g1, w5.heap.size = g1 := ⟨_, rfl⟩
  have hg1 := Blk.lt z1
  rw [Hg1] at z1 hg1 ⊢
  clear t5 hbz hsz hzz Hg1
  have c1 := rvparse_any f l w6 hl
  rw [H2.out] at c1
  go_wp2_with fail
  refine c1.mono ?_
  rintro e w7 ⟨nz, rfl, hsz, hb7⟩
  have t7 := t6.keep hb7
  have s7 := Below.sl good_int hb7 s6
  have z7 := z1.below hb7 hg1
  have hsz := hsz.any good_int (by omega)
  clear t6 hb7 c1 s6 z1 hg1
  obtain ⟨A7, cap7, rfl, hm3, hm4⟩ := hsz.form
  unfold maxLen at hm4
  unfold coV
  go_upto_region 9 with fail
  obtain ⟨z8, hbz, hzz⟩ := chk0_cb w7 z (.slice A7 z.nums.length cap7)
  have hW : chk0 w7 z (.slice A7 z.nums.length cap7) = w7.alloc (.cells #[.int .i64 z.epoch, .slice A7 z.nums.length cap7, .string (bs z.letter), .string (bs z.pre), .int .i64 z.preNum, .int .i64 z.rev] 24) := rfl
  rw [← hW]
  clear hW
  generalize chk0 w7 z (.slice A7 z.nums.length cap7) = w8 at z8 hbz hzz ⊢
  have t8 := t7.keep hbz
  have s8 := Below.sl good_int hbz s7
  have y8 := z7.below hbz (Blk.lt z7)
  have r8 := Below.sl good_int hbz hsz
  obtain ⟨g2, Hg2⟩ : ∃ g2, w7.heap.size = g2 := ⟨_, rfl⟩
  rw [Hg2] at z8 ⊢
  clear t7 hbz hsz hzz Hg2 s7 z7
  have n1 : ((bs x).toList != (bs x).toList) = false := by simp
  have n2 : (y != y) = false := by simp
  have n3 : (g != g) = false := by simp
  have n4 : (chkC c != chkC c) = false := by simp
  obtain ⟨d0, d1, d2, d3, d4, d5⟩ := t8.ba.cells
  obtain ⟨e0, e1, e2, e3, e4, e5⟩ := y8.cells
  obtain ⟨f0, f1, f2, f3, f4, f5⟩ := z8.cells
  refine wp_region_plan (fun W => W.cell? ⟨w.heap.size, 0, none⟩ = some (.int .i64 c.epoch) ∧ W.cell? ⟨w.heap.size, 1, none⟩ = some (.slice A c.nums.length cap) ∧ W.cell? ⟨w.heap.size, 2, none⟩ = some (.string (bs c.letter)) ∧ W.cell? ⟨w.heap.size, 3, none⟩ = some (.string (bs c.pre)) ∧ W.cell? ⟨w.heap.size, 4, none⟩ = some (.int .i64 c.preNum) ∧ W.cell? ⟨w.heap.size, 5, none⟩ = some (.int .i64 c.rev) ∧ W.cell? ⟨g1, 0, none⟩ = some (.int .i64 z.epoch) ∧ W.cell? ⟨g1, 1, none⟩ = some (.slice A5 z.nums.length cap5) ∧ W.cell? ⟨g1, 2, none⟩ = some (.string (bs z.letter)) ∧ W.cell? ⟨g1, 3, none⟩ = some (.string (bs z.pre)) ∧ W.cell? ⟨g1, 4, none⟩ = some (.int .i64 z.preNum) ∧ W.cell? ⟨g1, 5, none⟩ = some (.int .i64 z.rev) ∧ W.cell? ⟨g2, 0, none⟩ = some (.int .i64 z.epoch) ∧ W.cell? ⟨g2, 1, none⟩ = some (.slice A7 z.nums.length cap7) ∧ W.cell? ⟨g2, 2, none⟩ = some (.string (bs z.letter)) ∧ W.cell? ⟨g2, 3, none⟩ = some (.string (bs z.pre)) ∧ W.cell? ⟨g2, 4, none⟩ = some (.int .i64 z.preNum) ∧ W.cell? ⟨g2, 5, none⟩ = some (.int .i64 z.rev)) [(false, 0), (false, 1), (false, 2), (false, 3), (false, 4), (false, 5), (false, 6), (false, 7), (false, 8), (false, 9), (false, 10), (false, 11), (false, 12), (false, 13), (false, 14), (false, 15), (true, 16), (false, 17), (false, 18), (false, 19), (false, 20), (false, 22), (true, 21), (true, 23), (false, 24), (false, 25)] (by kernel_rfl) (by kernel_rfl) (⟨by simpa using d0, by simpa using d1, by simpa using d2, by simpa using d3, by simpa using d4, by simpa using d5, by simpa using e0, by simpa using e1, by simpa using e2, by simpa using e3, by simpa using e4, by simpa using e5, by simpa using f0, by simpa using f1, by simpa using f2, by simpa using f3, by simpa using f4, by simpa using f5⟩) ?_
  simp only [planOps, List.map, List.getD_cons_zero, List.getD_cons_succ]
  iterate 16 ((first | refine plan_quiet_guarded (v := ?_) rfl (fun w' hw' => ?_) ?_ | refine plan_calm_guarded (v := ?_) (tt_of) (fun w' hw' => ?_) ?_); rotate_left; (focus (go_simp <;> with_reducible rfl)); simp only [Act.put, List.setIfInBounds_toArray, List.set_cons_zero, List.set_cons_succ])
  refine plan_loud_guarded (fun K hK => ?_)
  clear d0 d1 d2 d3 d4 d5 e0 e1 e2 e3 e4 e5 f0 f1 f2 f3 f4 f5
  go_simp
  have t8 := t8.drew
  have y8 := CB.drew y8
  have z8 := CB.drew z8
  have s8 := Below.sl good_int (Below.refl _ _).drew s8
  have r8 := Below.sl good_int (Below.refl _ _).drew r8
  refine (rsame_any z _ _ _ s8 r8).mono ?_
  rintro e w9 ⟨rfl, hb9⟩
  have t9 := t8.keep hb9
  have y9 := y8.below hb9 (Blk.lt y8)
  have z9 := z8.below hb9 (Blk.lt z8)
  obtain ⟨d0, d1, d2, d3, d4, d5⟩ := t9.ba.cells
  obtain ⟨e0, e1, e2, e3, e4, e5⟩ := y9.cells
  obtain ⟨f0, f1, f2, f3, f4, f5⟩ := z9.cells
  refine hK _ _ (⟨d0, d1, d2, d3, d4, d5, e0, e1, e2, e3, e4, e5, f0, f1, f2, f3, f4, f5⟩) ?_
  clear hK K
  (try simp only [Act.put, List.setIfInBounds_toArray, List.set_cons_zero, List.set_cons_succ])
  iterate 5 ((first | refine plan_quiet_guarded (v := ?_) rfl (fun w' hw' => ?_) ?_ | refine plan_calm_guarded (v := ?_) (tt_of) (fun w' hw' => ?_) ?_); rotate_left; (focus (go_simp <;> with_reducible rfl)); simp only [Act.put, List.setIfInBounds_toArray, List.set_cons_zero, List.set_cons_succ])
  refine plan_loud_guarded (fun K hK => ?_)
  clear d0 d1 d2 d3 d4 d5 e0 e1 e2 e3 e4 e5 f0 f1 f2 f3 f4 f5 t8 y8 z8 hb9 s8 r8
  go_simp
  refine (vcheck_any c _ nowhere _ t9.sa hZ t9.va.tt t9.va.pp).mono ?_
  rintro e wa ⟨rfl, hba⟩
  have ta := t9.keep hba
  have ya := y9.below hba (Blk.lt y9)
  have za := z9.below hba (Blk.lt z9)
  obtain ⟨d0, d1, d2, d3, d4, d5⟩ := ta.ba.cells
  obtain ⟨e0, e1, e2, e3, e4, e5⟩ := ya.cells
  obtain ⟨f0, f1, f2, f3, f4, f5⟩ := za.cells
  refine hK _ _ (⟨d0, d1, d2, d3, d4, d5, e0, e1, e2, e3, e4, e5, f0, f1, f2, f3, f4, f5⟩) ?_
  clear hK K
  (try simp only [Act.put, List.setIfInBounds_toArray, List.set_cons_zero, List.set_cons_succ])
  refine plan_loud_guarded (fun K hK => ?_)
  clear d0 d1 d2 d3 d4 d5 e0 e1 e2 e3 e4 e5 f0 f1 f2 f3 f4 f5 t9 y9 z9 hba
  go_simp
  refine (rvcheck_any c _ nowhere _ ta.sa hZ).mono ?_
  rintro e wb ⟨rfl, hbb⟩
  have tb := ta.keep hbb
  have yb := ya.below hbb (Blk.lt ya)
  have zb := za.below hbb (Blk.lt za)
  obtain ⟨d0, d1, d2, d3, d4, d5⟩ := tb.ba.cells
  obtain ⟨e0, e1, e2, e3, e4, e5⟩ := yb.cells
  obtain ⟨f0, f1, f2, f3, f4, f5⟩ := zb.cells
  refine hK _ _ (⟨d0, d1, d2, d3, d4, d5, e0, e1, e2, e3, e4, e5, f0, f1, f2, f3, f4, f5⟩) ?_
  clear hK K
  (try simp only [Act.put, List.setIfInBounds_toArray, List.set_cons_zero, List.set_cons_succ])
  iterate 2 ((first | refine plan_quiet_guarded (v := ?_) rfl (fun w' hw' => ?_) ?_ | refine plan_calm_guarded (v := ?_) (tt_of) (fun w' hw' => ?_) ?_); rotate_left; (focus (go_simp <;> with_reducible rfl)); simp only [Act.put, List.setIfInBounds_toArray, List.set_cons_zero, List.set_cons_succ])
  refine plan_end ?_
  clear d0 d1 d2 d3 d4 d5 e0 e1 e2 e3 e4 e5 f0 f1 f2 f3 f4 f5 ta ya za hbb yb zb
  clear H2 hd hl
  by_cases hy : y = 0
  · subst hy
    have hfit := (back_core f c x H1.out).2.2.1
    have hF := fit_of f c hfit
    have hx64 := pr_len f c x H1.out
    have HRC := Lib.hid (read_core f c x H1.out)
    have hpos : 0 < c.nums.length := List.length_pos_iff.2 hF.n0
    have HSM : Hid (∀ n ∈ c.nums, 0 ≤ n ∧ n ≤ 999999999) := Lib.hid (fun n hn => by
      have := List.all_eq_true.1 hF.nums n hn
      simpa [numOk] using this)
    have hpar := vparse_any f x wb (by omega) tb.va.ww tb.va.tt tb.va.pp
    rw [HRC.out] at hpar
    have HPOS := Lib.hid hpos
    have H64 := Lib.hid hx64
    clear hF hfit hpos hx64 n1 n2 n3 n4
    have HPAR := Lib.hid hpar
    clear hpar
    go_wp2_with fail
    refine HPAR.out.mono ?_
    rintro e wc ⟨nw, rfl, hsw, hbc⟩
    have tc := tb.keep hbc
    clear HPAR
    obtain ⟨A9, cap9, rfl, hm5, hm6⟩ := hsw.form
    unfold maxLen at hm6
    unfold coV
    have hpos := HPOS.out
    obtain ⟨_, _, _, hfind⟩ := hsw.at
    obtain ⟨b, off, rfl, hnx, _⟩ := hfind hpos
    have hbb : wb.heap.size ≤ b := by
      have : ¬ b < wb.heap.size := hnx
      omega
    obtain ⟨_, _, _, b', off', hA', hcs⟩ := hsw.ints hpos
    injection hA' with hA'
    injection hA' with e1 e2
    subst e1 e2
    have hrow : RowW b off c.nums.length 0 wc := fun j hj => ⟨by have := hsw.free j (by rw [Nat.mul_one]; exact hj); exact this, c.nums[j], hcs j hj, fun _ => HSM.out _ (List.getElem_mem hj)⟩
    have hbl : b < wc.heap.size := lt_of_cell (hcs 0 hpos)
    clear hfind hnx hcs hsw
    go_upto_region 15 with fail
    obtain ⟨z3, hbz, hzz⟩ := chk0_cb wc c (.slice (some ⟨b, off, none⟩) c.nums.length cap9)
    have hW : chk0 wc c (.slice (some ⟨b, off, none⟩) c.nums.length cap9) = wc.alloc (.cells #[.int .i64 c.epoch, .slice (some ⟨b, off, none⟩) c.nums.length cap9, .string (bs c.letter), .string (bs c.pre), .int .i64 c.preNum, .int .i64 c.rev] 24) := rfl
    rw [← hW]
    clear hW
    generalize chk0 wc c (.slice (some ⟨b, off, none⟩) c.nums.length cap9) = wd at z3 hbz hzz ⊢
    have hrow : RowW b off c.nums.length 0 wd := fun j hj => by
      obtain ⟨r1, m, r2, r3⟩ := hrow j hj
      exact ⟨by rw [hbz.frozen (p := ⟨b, off + j, none⟩) hbl]; exact r1, m, by rw [hbz.cell (p := ⟨b, off + j, none⟩) hbl]; exact r2, r3⟩
    obtain ⟨g3, Hg3⟩ : ∃ g3, wc.heap.size = g3 := ⟨_, rfl⟩
    have hbd : Below wb.heap.size wb wd := hbc.trans (hbz.mono hbc.size)
    rw [Hg3] at z3 hbl ⊢
    have hne : g3 ≠ b := by omega
    clear hbz hzz Hg3 tc hbc hbl hpos
    obtain ⟨k0, k1, k2, k3, k4, k5⟩ := z3.cells
    go_loopg [17] c.nums.length (fun G s17 wx => ∃ k : Nat, k ≤ c.nums.length ∧ G = c.nums.length - k ∧ s17 = .int .i64 k ∧ Below wb.heap.size wb wx ∧ CB wx g3 c (.slice (some ⟨b, off, none⟩) c.nums.length cap9) ∧ RowW b off c.nums.length k wx)
    case atStart => exact ⟨0, Nat.zero_le _, rfl, rfl, hbd, z3, hrow⟩
    case round =>
      clear k0 k1 k2 k3 k4 k5 z3 hrow hbd
      obtain ⟨k, hk, rfl, rfl, hbd, z3, hrow⟩ := hrel
      obtain ⟨k0, k1, k2, k3, k4, k5⟩ := z3.cells
      by_cases hlt : k < c.nums.length
      · obtain ⟨fr, m, ck, hm⟩ := hrow k hlt
        have hm := hm (Nat.le_refl _)
        have q1 : IntKind.i64.wrap (m + 1) = m + 1 := i64_in _ (by omega) (by omega)
        go_upto_region 17 with fail
        refine wp_region_plan (fun W => W.cell? ⟨g3, 1, none⟩ = some (.slice (some ⟨b, off, none⟩) c.nums.length cap9) ∧ W.cell? ⟨b, off + k, none⟩ = some (.int .i64 m) ∧ W.frozen? ⟨b, off + k, none⟩ = false) [(false, 0), (false, 1), (false, 2), (false, 3), (false, 4), (false, 5), (false, 6), (false, 7), (false, 8), (false, 9), (true, 10)] (by kernel_rfl) (by kernel_rfl) (⟨by simpa using k1, by simpa using ck, by simpa using fr⟩) ?_
        simp only [planOps, List.map, List.getD_cons_zero, List.getD_cons_succ]
        iterate 10 ((first | refine plan_quiet (v := ?_) rfl rfl (fun w' hw' => ?_) ?_ | refine plan_calm (v := ?_) (tt_of) rfl (fun w' hw' => ?_) ?_); rotate_left; (focus (go_simp <;> with_reducible rfl)); simp only [Act.put, List.setIfInBounds_toArray, List.set_cons_zero, List.set_cons_succ])
        refine plan_last rfl (by kernel_rfl) (by kernel_rfl) (fun K hK => ?_)
        go_simp
        refine hK _ _ (trivial) ?_
        clear hK K
        (try simp only [Act.put, List.setIfInBounds_toArray, List.set_cons_zero, List.set_cons_succ])
        refine plan_end ?_
        go_wp2_with fail
        go_roundg (c.nums.length - (k + 1))
        case measure => omega
        case rel => exact ⟨k + 1, by omega, rfl, by go_num, (hbd.setCell (p := ⟨b, off + k, none⟩) hbb _).drew, CB.drew (z3.set ⟨b, off + k, none⟩ _ hne), (hrow.set hlt _).drew⟩
      · obtain rfl : k = c.nums.length := by omega
        have te := tb.keep hbd
        have hpar := vparse_any f x _ (by have := H64.out; omega) te.va.ww te.va.tt te.va.pp
        rw [HRC.out] at hpar
        have HPAR := Lib.hid hpar
        clear hpar hrow tb hbd
        go_wp2_with fail
        refine HPAR.out.mono ?_
        rintro e wf ⟨nv2, rfl, hs2, hbf⟩
        have tf := te.keep hbf
        have hs2 := hs2.any good_int (by omega)
        clear te HPAR k0 k1 k2 k3 k4 k5 z3
        obtain ⟨AA, capA, rfl, hm7, hm8⟩ := hs2.form
        unfold maxLen at hm8
        unfold coV
        go_upto_region 19 with fail
        obtain ⟨z3, hbz, hzz⟩ := chk0_cb wf c (.slice AA c.nums.length capA)
        have hW : chk0 wf c (.slice AA c.nums.length capA) = wf.alloc (.cells #[.int .i64 c.epoch, .slice AA c.nums.length capA, .string (bs c.letter), .string (bs c.pre), .int .i64 c.preNum, .int .i64 c.rev] 24) := rfl
        rw [← hW]
        clear hW
        generalize chk0 wf c (.slice AA c.nums.length capA) = wg at z3 hbz hzz ⊢
        have tg := tf.keep hbz
        have hs3 := Below.sl good_int hbz hs2
        clear hbz hzz tf hs2
        obtain ⟨d0, d1, d2, d3, d4, d5⟩ := tg.ba.cells
        obtain ⟨e0, e1, e2, e3, e4, e5⟩ := z3.cells
        go_wp2_with fail
        refine (rsame_any c _ _ _ hs3 tg.sa).mono ?_
        rintro e wh ⟨rfl, hbh⟩
        have th := tg.keep hbh
        clear d0 d1 d2 d3 d4 d5 e0 e1 e2 e3 e4 e5 tg
        go_wp2_with fail
        go_ret
        exact ⟨rfl, th.below⟩
  · have b1 : (y != 0) = true := by simpa using hy
    clear hy
    go_wp2_with fail
    go_ret
    exact ⟨rfl, tb.below⟩
end Go.Proofs.YtdfpdmddiapnmaaGreatDoor

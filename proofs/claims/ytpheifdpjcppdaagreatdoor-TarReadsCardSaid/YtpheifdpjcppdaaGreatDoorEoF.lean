/- The walk of the document's Same of entries. Printed by gen_same.py. -/
import Derived.Test.YtpheifdpjcppdaaGreatDoorEnMN
import Derived.Test.YtpheifdpjcppdaaGreatDoorEnGH
namespace Go.Proofs.YtpheifdpjcppdaaGreatDoor
open Go.RowKit
/-- Are two entries the same? -/
def sameE (x y : En) : Bool := decide (x.path = y.path) && (decide (x.kind = y.kind) && (alikeE x y && (decide (x.link = y.link) && decide (x.data = y.data))))
def sameFrom : List En → List En → Bool
  | x :: s, y :: t => sameE x y && sameFrom s t
  | _, _ => true
def sameL (a b : List En) : Bool := if a.length = b.length then sameFrom a b else false
theorem same_step (a b : List En) (k : Nat) (h1 : k < a.length) (h2 : k < b.length) : sameFrom (a.drop k) (b.drop k) = (sameE a[k] b[k] && sameFrom (a.drop (k + 1)) (b.drop (k + 1))) := by
  rw [List.drop_eq_getElem_cons h1, List.drop_eq_getElem_cons h2, sameFrom]
theorem same_end (a b : List En) (k : Nat) (h1 : a.length ≤ k) : sameFrom (a.drop k) (b.drop k) = true := by
  rw [List.drop_eq_nil_of_le h1]
  cases b.drop k <;> rfl
theorem sameE_self (x : En) : sameE x x = true := by simp [sameE, alikeE]
theorem sameFrom_self : ∀ a : List En, sameFrom a a = true
  | [] => rfl
  | x :: t => by rw [sameFrom, sameE_self, sameFrom_self t]; rfl
theorem sameL_self (a : List En) : sameL a a = true := by rw [sameL, if_pos rfl, sameFrom_self]
theorem ne_bs (a b : List UInt8) : ((bs a).toList != (bs b).toList) = !decide (a = b) := by
  rw [toList_bs, toList_bs, Bool.eq_iff_iff]; simp
set_option maxRecDepth 20000 in
set_option maxHeartbeats 16000000 in
theorem rsame_any (a b : List En) (v u : Value) (X Y : Nat → Prop) (w : World) (ha : Sl 10 Rent X w v a) (hb : Sl 10 Rent Y w u b) (hla : a.length ≤ 1000000) :
    Calls Tryz.prog 13 #[v, u] w fun e w' => e = .returned (.bool (sameL a b)) ∧ Below w.heap.size w w' := by
  obtain ⟨A, capa, rfl, _, _⟩ := ha.form
  obtain ⟨A2, capb, rfl, _, _⟩ := hb.form
  have HX : Hid (sameL a b = if a.length = b.length then sameFrom a b else false) := Lib.hid rfl
  generalize sameL a b = res at HX
  by_cases hl : a.length = b.length
  rotate_left
  · have hd : ((a.length : Int) == (b.length : Int)) = false := by rw [beq_eq_false_iff_ne]; omega
    have hd' : ((a.length : Int) != (b.length : Int)) = true := by simp; omega
    have HV := Lib.hid (HX.out.trans (if_neg hl))
    clear hl HX
    go_enter Tryz.func13, Tryz.ntmps13
    go_wp2_with fail
    go_ret
    exact ⟨by rw [HV.out]; rfl, Below.refl _ _⟩
  have HE : Hid (res = sameFrom (a.drop 0) (b.drop 0)) := Lib.hid (HX.out.trans (if_pos hl))
  obtain ⟨N, hN⟩ : ∃ N, b.length = N := ⟨_, rfl⟩
  rw [hN] at hl hb ⊢
  rw [hl]
  have HN := Lib.hid hN
  have HL := Lib.hid hl
  have hlN : N ≤ 1000000 := by omega
  rw [hl] at ha
  clear HX hl hN hla
  have hd : ((N : Int) == (N : Int)) = true := by simp
  have hd' : ((N : Int) != (N : Int)) = false := by simp
  go_enter Tryz.func13, Tryz.ntmps13
  go_wp2_with fail
  go_loopg [5] N (fun G s5 wr => ∃ k : Nat, k ≤ N ∧ G = N - k ∧ s5 = .int .i64 k ∧ Below w.heap.size w wr ∧ Hid (res = sameFrom (a.drop k) (b.drop k)))
  case atStart => exact ⟨0, Nat.zero_le _, rfl, rfl, Below.refl _ _, HE⟩
  case round =>
    clear HE hd hd'
    obtain ⟨k, hk, rfl, rfl, hbw, HE⟩ := hrel
    by_cases hlt : k < N
    rotate_left
    · have HV : Hid (res = true) := Lib.hid (HE.out.trans (same_end a b k (by rw [HL.out]; omega)))
      clear HE
      go_wp2_with fail
      go_ret
      exact ⟨by rw [HV.out]; rfl, hbw⟩
    obtain ⟨b1, o1, rfl, _, hca⟩ := (ha.keep good_ent (Kept.of_below hbw X)).ent (by omega)
    obtain ⟨b2, o2, rfl, _, hcb⟩ := (hb.keep good_ent (Kept.of_below hbw Y)).ent (by omega)
    obtain ⟨dx, ⟨x0, x1, x2, x3, x4, x5, x6, x7, x8, x9⟩, hdx⟩ := hca k (by rw [HL.out]; exact hlt)
    obtain ⟨dy, ⟨y0, y1, y2, y3, y4, y5, y6, y7, y8, y9⟩, hdy⟩ := hcb k (by rw [HN.out]; exact hlt)
    have HST := Lib.hid (HE.out.trans (same_step a b k (by rw [HL.out]; exact hlt) (by rw [HN.out]; exact hlt)))
    clear HE hca hcb
    obtain ⟨x, hx⟩ : ∃ x, a[k]'(by rw [HL.out]; exact hlt) = x := ⟨_, rfl⟩
    obtain ⟨y, hy⟩ : ∃ y, b[k]'(by rw [HN.out]; exact hlt) = y := ⟨_, rfl⟩
    rw [hx] at x0 x1 x2 x3 x4 x5 x6 x7 x8 hdx HST
    rw [hy] at y0 y1 y2 y3 y4 y5 y6 y7 y8 hdy HST
    clear hx hy
    obtain ⟨Ax, cx, rfl, _, _⟩ := hdx.form
    obtain ⟨Ay, cy, rfl, _, _⟩ := hdy.form
    have HSE : Hid (sameE x y = (decide (x.path = y.path) && (decide (x.kind = y.kind) && (alikeE x y && (decide (x.link = y.link) && decide (x.data = y.data)))))) := Lib.hid rfl
    generalize sameE x y = se at HST HSE
    have i1 : (0 : Int) ≤ (k : Int) := by omega
    have i2 : (k : Int) < (N : Int) := by omega
    have f1 := beq_bs2 x.path y.path
    have f1' := ne_bs x.path y.path
    have f2 := beq_bs2 x.link y.link
    have f2' := ne_bs x.link y.link
    have f3 := beq_bs2 x.data y.data
    have f3' := ne_bs x.data y.data
    by_cases p1 : x.path = y.path
    rotate_left
    · rw [decide_eq_false p1] at f1
      rw [decide_eq_false p1] at f1'
      have HV : Hid (res = false) := Lib.hid (by rw [HST.out, HSE.out, decide_eq_false p1]; simp)
      clear HST HSE p1 f2 f2' f3 f3'
      go_upto_region 6 with fail
      refine wp_region_plan (fun W => W.cell? ⟨b1, o1 + k * 10, none⟩ = some (.string (bs x.path)) ∧ W.cell? ⟨b1, o1 + k * 10 + 1, none⟩ = some (.int .i64 x.kind) ∧ W.cell? ⟨b1, o1 + k * 10 + 2, none⟩ = some (.int .i64 x.mode) ∧ W.cell? ⟨b1, o1 + k * 10 + 3, none⟩ = some (.int .i64 x.uid) ∧ W.cell? ⟨b1, o1 + k * 10 + 4, none⟩ = some (.int .i64 x.gid) ∧ W.cell? ⟨b1, o1 + k * 10 + 5, none⟩ = some (.string (bs x.owner)) ∧ W.cell? ⟨b1, o1 + k * 10 + 6, none⟩ = some (.string (bs x.group)) ∧ W.cell? ⟨b1, o1 + k * 10 + 7, none⟩ = some (.int .i64 x.mtime) ∧ W.cell? ⟨b1, o1 + k * 10 + 8, none⟩ = some (.string (bs x.link)) ∧ W.cell? ⟨b1, o1 + k * 10 + 9, none⟩ = some (.slice Ax x.data.length cx) ∧ W.cell? ⟨b2, o2 + k * 10, none⟩ = some (.string (bs y.path)) ∧ W.cell? ⟨b2, o2 + k * 10 + 1, none⟩ = some (.int .i64 y.kind) ∧ W.cell? ⟨b2, o2 + k * 10 + 2, none⟩ = some (.int .i64 y.mode) ∧ W.cell? ⟨b2, o2 + k * 10 + 3, none⟩ = some (.int .i64 y.uid) ∧ W.cell? ⟨b2, o2 + k * 10 + 4, none⟩ = some (.int .i64 y.gid) ∧ W.cell? ⟨b2, o2 + k * 10 + 5, none⟩ = some (.string (bs y.owner)) ∧ W.cell? ⟨b2, o2 + k * 10 + 6, none⟩ = some (.string (bs y.group)) ∧ W.cell? ⟨b2, o2 + k * 10 + 7, none⟩ = some (.int .i64 y.mtime) ∧ W.cell? ⟨b2, o2 + k * 10 + 8, none⟩ = some (.string (bs y.link)) ∧ W.cell? ⟨b2, o2 + k * 10 + 9, none⟩ = some (.slice Ay y.data.length cy) ∧ (convert 25 9 (.slice Ax x.data.length cx)).run Tryz.prog W = .ok (.string (bs x.data)) W ∧ (convert 25 9 (.slice Ay y.data.length cy)).run Tryz.prog W = .ok (.string (bs y.data)) W) [(false, 0), (false, 1), (false, 2), (false, 3), (false, 4), (false, 5), (false, 6), (false, 7), (false, 8), (false, 9), (false, 10), (false, 11), (false, 12), (false, 13), (false, 14), (false, 15), (false, 16), (false, 17), (false, 18), (false, 19), (false, 20), (false, 21), (false, 22), (false, 23), (false, 24), (false, 25), (false, 26), (false, 27), (false, 28), (false, 29), (false, 30), (false, 31), (false, 32), (true, 33), (false, 34), (false, 35), (false, 36), (false, 37), (false, 38), (false, 39), (false, 40), (false, 41), (false, 42), (false, 43), (false, 44), (false, 45), (false, 46), (false, 47), (false, 48), (false, 49), (false, 50), (false, 51), (false, 52), (false, 53), (false, 54), (false, 55), (false, 56), (false, 57), (false, 58), (false, 59), (false, 60), (false, 61), (false, 62), (false, 63)] (by kernel_rfl) (by kernel_rfl) (⟨by simpa using x0, by simpa using x1, by simpa using x2, by simpa using x3, by simpa using x4, by simpa using x5, by simpa using x6, by simpa using x7, by simpa using x8, by simpa using x9, by simpa using y0, by simpa using y1, by simpa using y2, by simpa using y3, by simpa using y4, by simpa using y5, by simpa using y6, by simpa using y7, by simpa using y8, by simpa using y9, str8 (Below.sl good_byte ((Below.refl _ _).drew) hdx).sb, str8 (Below.sl good_byte ((Below.refl _ _).drew) hdy).sb⟩) ?_
      simp only [planOps, List.map, List.getD_cons_zero, List.getD_cons_succ]
      iterate 33 ((first | refine plan_quiet_guarded (v := ?_) rfl (fun w' hw' => ?_) ?_ | refine plan_calm_guarded (v := ?_) (tt_of) (fun w' hw' => ?_) ?_); rotate_left; (focus (go_simp <;> (first | with_reducible rfl | (rw [if_neg (by simp [undef])]; try rfl) | omega))); simp only [Act.put, List.setIfInBounds_toArray, List.set_cons_zero, List.set_cons_succ])
      refine plan_loud_guarded (fun K hK => ?_)
      go_simp
      refine hK _ _ (⟨by simpa using x0, by simpa using x1, by simpa using x2, by simpa using x3, by simpa using x4, by simpa using x5, by simpa using x6, by simpa using x7, by simpa using x8, by simpa using x9, by simpa using y0, by simpa using y1, by simpa using y2, by simpa using y3, by simpa using y4, by simpa using y5, by simpa using y6, by simpa using y7, by simpa using y8, by simpa using y9, str8 (Below.sl good_byte ((Below.refl _ _).drew) hdx).sb, str8 (Below.sl good_byte ((Below.refl _ _).drew) hdy).sb⟩) ?_
      clear hK K
      (try simp only [Act.put, List.setIfInBounds_toArray, List.set_cons_zero, List.set_cons_succ])
      iterate 30 ((first | refine plan_quiet_guarded (v := ?_) rfl (fun w' hw' => ?_) ?_ | refine plan_calm_guarded (v := ?_) (tt_of) (fun w' hw' => ?_) ?_); rotate_left; (focus (go_simp <;> (first | with_reducible rfl | (rw [if_neg (by simp [undef])]; try rfl) | omega))); simp only [Act.put, List.setIfInBounds_toArray, List.set_cons_zero, List.set_cons_succ])
      refine plan_end ?_
      have q5 := hbw.drew
      clear x0 x1 x2 x3 x4 x5 x6 x7 x8 x9 y0 y1 y2 y3 y4 y5 y6 y7 y8 y9
      go_wp2_with fail
      go_ret
      exact ⟨by rw [HV.out]; rfl, q5⟩
    rw [decide_eq_true p1] at f1
    rw [decide_eq_true p1] at f1'
    by_cases p2 : x.kind = y.kind
    rotate_left
    · have k1 : (x.kind == y.kind) = false := by simpa using p2
      have k1' : (x.kind != y.kind) = true := by simpa using p2
      have HV : Hid (res = false) := Lib.hid (by rw [HST.out, HSE.out, decide_eq_false p2, decide_eq_true p1]; simp)
      clear HST HSE p1 p2 f2 f2' f3 f3'
      go_upto_region 6 with fail
      refine wp_region_plan (fun W => W.cell? ⟨b1, o1 + k * 10, none⟩ = some (.string (bs x.path)) ∧ W.cell? ⟨b1, o1 + k * 10 + 1, none⟩ = some (.int .i64 x.kind) ∧ W.cell? ⟨b1, o1 + k * 10 + 2, none⟩ = some (.int .i64 x.mode) ∧ W.cell? ⟨b1, o1 + k * 10 + 3, none⟩ = some (.int .i64 x.uid) ∧ W.cell? ⟨b1, o1 + k * 10 + 4, none⟩ = some (.int .i64 x.gid) ∧ W.cell? ⟨b1, o1 + k * 10 + 5, none⟩ = some (.string (bs x.owner)) ∧ W.cell? ⟨b1, o1 + k * 10 + 6, none⟩ = some (.string (bs x.group)) ∧ W.cell? ⟨b1, o1 + k * 10 + 7, none⟩ = some (.int .i64 x.mtime) ∧ W.cell? ⟨b1, o1 + k * 10 + 8, none⟩ = some (.string (bs x.link)) ∧ W.cell? ⟨b1, o1 + k * 10 + 9, none⟩ = some (.slice Ax x.data.length cx) ∧ W.cell? ⟨b2, o2 + k * 10, none⟩ = some (.string (bs y.path)) ∧ W.cell? ⟨b2, o2 + k * 10 + 1, none⟩ = some (.int .i64 y.kind) ∧ W.cell? ⟨b2, o2 + k * 10 + 2, none⟩ = some (.int .i64 y.mode) ∧ W.cell? ⟨b2, o2 + k * 10 + 3, none⟩ = some (.int .i64 y.uid) ∧ W.cell? ⟨b2, o2 + k * 10 + 4, none⟩ = some (.int .i64 y.gid) ∧ W.cell? ⟨b2, o2 + k * 10 + 5, none⟩ = some (.string (bs y.owner)) ∧ W.cell? ⟨b2, o2 + k * 10 + 6, none⟩ = some (.string (bs y.group)) ∧ W.cell? ⟨b2, o2 + k * 10 + 7, none⟩ = some (.int .i64 y.mtime) ∧ W.cell? ⟨b2, o2 + k * 10 + 8, none⟩ = some (.string (bs y.link)) ∧ W.cell? ⟨b2, o2 + k * 10 + 9, none⟩ = some (.slice Ay y.data.length cy) ∧ (convert 25 9 (.slice Ax x.data.length cx)).run Tryz.prog W = .ok (.string (bs x.data)) W ∧ (convert 25 9 (.slice Ay y.data.length cy)).run Tryz.prog W = .ok (.string (bs y.data)) W) [(false, 0), (false, 1), (false, 2), (false, 3), (false, 4), (false, 5), (false, 6), (false, 7), (false, 8), (false, 9), (false, 10), (false, 11), (false, 12), (false, 13), (false, 14), (false, 15), (false, 16), (false, 17), (false, 18), (false, 19), (false, 20), (false, 21), (false, 22), (false, 23), (false, 24), (false, 25), (false, 26), (false, 27), (false, 28), (false, 29), (false, 30), (false, 31), (false, 32), (true, 33), (false, 34), (false, 35), (false, 36), (false, 37), (false, 38), (false, 39), (false, 40), (false, 41), (false, 42), (false, 43), (false, 44), (false, 45), (false, 46), (false, 47), (false, 48), (false, 49), (false, 50), (false, 51), (false, 52), (false, 53), (false, 54), (false, 55), (false, 56), (false, 57), (false, 58), (false, 59), (false, 60), (false, 61), (false, 62), (false, 63)] (by kernel_rfl) (by kernel_rfl) (⟨by simpa using x0, by simpa using x1, by simpa using x2, by simpa using x3, by simpa using x4, by simpa using x5, by simpa using x6, by simpa using x7, by simpa using x8, by simpa using x9, by simpa using y0, by simpa using y1, by simpa using y2, by simpa using y3, by simpa using y4, by simpa using y5, by simpa using y6, by simpa using y7, by simpa using y8, by simpa using y9, str8 (Below.sl good_byte ((Below.refl _ _).drew) hdx).sb, str8 (Below.sl good_byte ((Below.refl _ _).drew) hdy).sb⟩) ?_
      simp only [planOps, List.map, List.getD_cons_zero, List.getD_cons_succ]
      iterate 33 ((first | refine plan_quiet_guarded (v := ?_) rfl (fun w' hw' => ?_) ?_ | refine plan_calm_guarded (v := ?_) (tt_of) (fun w' hw' => ?_) ?_); rotate_left; (focus (go_simp <;> (first | with_reducible rfl | (rw [if_neg (by simp [undef])]; try rfl) | omega))); simp only [Act.put, List.setIfInBounds_toArray, List.set_cons_zero, List.set_cons_succ])
      refine plan_loud_guarded (fun K hK => ?_)
      go_simp
      refine hK _ _ (⟨by simpa using x0, by simpa using x1, by simpa using x2, by simpa using x3, by simpa using x4, by simpa using x5, by simpa using x6, by simpa using x7, by simpa using x8, by simpa using x9, by simpa using y0, by simpa using y1, by simpa using y2, by simpa using y3, by simpa using y4, by simpa using y5, by simpa using y6, by simpa using y7, by simpa using y8, by simpa using y9, str8 (Below.sl good_byte ((Below.refl _ _).drew) hdx).sb, str8 (Below.sl good_byte ((Below.refl _ _).drew) hdy).sb⟩) ?_
      clear hK K
      (try simp only [Act.put, List.setIfInBounds_toArray, List.set_cons_zero, List.set_cons_succ])
      iterate 30 ((first | refine plan_quiet_guarded (v := ?_) rfl (fun w' hw' => ?_) ?_ | refine plan_calm_guarded (v := ?_) (tt_of) (fun w' hw' => ?_) ?_); rotate_left; (focus (go_simp <;> (first | with_reducible rfl | (rw [if_neg (by simp [undef])]; try rfl) | omega))); simp only [Act.put, List.setIfInBounds_toArray, List.set_cons_zero, List.set_cons_succ])
      refine plan_end ?_
      have q5 := hbw.drew
      clear x0 x1 x2 x3 x4 x5 x6 x7 x8 x9 y0 y1 y2 y3 y4 y5 y6 y7 y8 y9
      go_wp2_with fail
      go_ret
      exact ⟨by rw [HV.out]; rfl, q5⟩
    have k1 : (x.kind == y.kind) = true := by simpa using p2
    have k1' : (x.kind != y.kind) = false := by simpa using p2
    have HSE := Lib.hid (show se = (alikeE x y && (decide (x.link = y.link) && decide (x.data = y.data))) by rw [HSE.out, decide_eq_true p1, decide_eq_true p2]; rfl)
    clear p1 p2
    go_upto_region 6 with fail
    cases hal : alikeE x y with
    | false =>
      have HV : Hid (res = false) := Lib.hid (by rw [HST.out, HSE.out, hal]; simp)
      clear HST HSE f2 f2' f3 f3'
      refine wp_region_plan (fun W => W.cell? ⟨b1, o1 + k * 10, none⟩ = some (.string (bs x.path)) ∧ W.cell? ⟨b1, o1 + k * 10 + 1, none⟩ = some (.int .i64 x.kind) ∧ W.cell? ⟨b1, o1 + k * 10 + 2, none⟩ = some (.int .i64 x.mode) ∧ W.cell? ⟨b1, o1 + k * 10 + 3, none⟩ = some (.int .i64 x.uid) ∧ W.cell? ⟨b1, o1 + k * 10 + 4, none⟩ = some (.int .i64 x.gid) ∧ W.cell? ⟨b1, o1 + k * 10 + 5, none⟩ = some (.string (bs x.owner)) ∧ W.cell? ⟨b1, o1 + k * 10 + 6, none⟩ = some (.string (bs x.group)) ∧ W.cell? ⟨b1, o1 + k * 10 + 7, none⟩ = some (.int .i64 x.mtime) ∧ W.cell? ⟨b1, o1 + k * 10 + 8, none⟩ = some (.string (bs x.link)) ∧ W.cell? ⟨b1, o1 + k * 10 + 9, none⟩ = some (.slice Ax x.data.length cx) ∧ W.cell? ⟨b2, o2 + k * 10, none⟩ = some (.string (bs y.path)) ∧ W.cell? ⟨b2, o2 + k * 10 + 1, none⟩ = some (.int .i64 y.kind) ∧ W.cell? ⟨b2, o2 + k * 10 + 2, none⟩ = some (.int .i64 y.mode) ∧ W.cell? ⟨b2, o2 + k * 10 + 3, none⟩ = some (.int .i64 y.uid) ∧ W.cell? ⟨b2, o2 + k * 10 + 4, none⟩ = some (.int .i64 y.gid) ∧ W.cell? ⟨b2, o2 + k * 10 + 5, none⟩ = some (.string (bs y.owner)) ∧ W.cell? ⟨b2, o2 + k * 10 + 6, none⟩ = some (.string (bs y.group)) ∧ W.cell? ⟨b2, o2 + k * 10 + 7, none⟩ = some (.int .i64 y.mtime) ∧ W.cell? ⟨b2, o2 + k * 10 + 8, none⟩ = some (.string (bs y.link)) ∧ W.cell? ⟨b2, o2 + k * 10 + 9, none⟩ = some (.slice Ay y.data.length cy) ∧ (convert 25 9 (.slice Ax x.data.length cx)).run Tryz.prog W = .ok (.string (bs x.data)) W ∧ (convert 25 9 (.slice Ay y.data.length cy)).run Tryz.prog W = .ok (.string (bs y.data)) W) [(false, 0), (false, 1), (false, 2), (false, 3), (false, 4), (false, 5), (false, 6), (false, 7), (false, 8), (false, 9), (false, 10), (false, 11), (false, 12), (false, 13), (false, 14), (false, 15), (false, 16), (false, 17), (false, 18), (false, 19), (false, 20), (false, 21), (false, 22), (false, 23), (false, 24), (false, 25), (false, 26), (false, 27), (false, 28), (false, 29), (false, 30), (false, 31), (false, 32), (true, 33), (false, 34), (false, 35), (false, 36), (false, 37), (false, 38), (false, 39), (false, 40), (false, 41), (false, 42), (false, 43), (false, 44), (false, 45), (false, 46), (false, 47), (false, 48), (false, 49), (false, 50), (false, 51), (false, 52), (false, 53), (false, 54), (false, 55), (false, 56), (false, 57), (false, 58), (false, 59), (false, 60), (false, 61), (false, 62), (false, 63)] (by kernel_rfl) (by kernel_rfl) (⟨by simpa using x0, by simpa using x1, by simpa using x2, by simpa using x3, by simpa using x4, by simpa using x5, by simpa using x6, by simpa using x7, by simpa using x8, by simpa using x9, by simpa using y0, by simpa using y1, by simpa using y2, by simpa using y3, by simpa using y4, by simpa using y5, by simpa using y6, by simpa using y7, by simpa using y8, by simpa using y9, str8 (Below.sl good_byte ((Below.refl _ _).drew) hdx).sb, str8 (Below.sl good_byte ((Below.refl _ _).drew) hdy).sb⟩) ?_
      simp only [planOps, List.map, List.getD_cons_zero, List.getD_cons_succ]
      iterate 33 ((first | refine plan_quiet_guarded (v := ?_) rfl (fun w' hw' => ?_) ?_ | refine plan_calm_guarded (v := ?_) (tt_of) (fun w' hw' => ?_) ?_); rotate_left; (focus (go_simp <;> (first | with_reducible rfl | (rw [if_neg (by simp [undef])]; try rfl) | omega))); simp only [Act.put, List.setIfInBounds_toArray, List.set_cons_zero, List.set_cons_succ])
      refine plan_loud_guarded (fun K hK => ?_)
      go_simp
      refine (alike_any x y _ _ _ _ _ _ _ _ _ rfl rfl).mono ?_
      rintro r W5 ⟨rfl, hb5⟩
      have hb5' : Below wr.heap.size wr W5 := ((Below.refl _ wr).drew).trans hb5
      have kx := Kept.of_below hb5' nowhere
      have q5 := hbw.trans (hb5'.mono hbw.size)
      have cvx := str8 (Below.sl good_byte hb5' hdx).sb
      have cvy := str8 (Below.sl good_byte hb5' hdy).sb
      rw [hal]
      refine hK _ _ (⟨kx.cell x0 (fun h => h), kx.cell x1 (fun h => h), kx.cell x2 (fun h => h), kx.cell x3 (fun h => h), kx.cell x4 (fun h => h), kx.cell x5 (fun h => h), kx.cell x6 (fun h => h), kx.cell x7 (fun h => h), kx.cell x8 (fun h => h), kx.cell x9 (fun h => h), kx.cell y0 (fun h => h), kx.cell y1 (fun h => h), kx.cell y2 (fun h => h), kx.cell y3 (fun h => h), kx.cell y4 (fun h => h), kx.cell y5 (fun h => h), kx.cell y6 (fun h => h), kx.cell y7 (fun h => h), kx.cell y8 (fun h => h), kx.cell y9 (fun h => h), cvx, cvy⟩) ?_
      clear hK K
      (try simp only [Act.put, List.setIfInBounds_toArray, List.set_cons_zero, List.set_cons_succ])
      iterate 30 ((first | refine plan_quiet_guarded (v := ?_) rfl (fun w' hw' => ?_) ?_ | refine plan_calm_guarded (v := ?_) (tt_of) (fun w' hw' => ?_) ?_); rotate_left; (focus (go_simp <;> (first | with_reducible rfl | (rw [if_neg (by simp [undef])]; try rfl) | omega))); simp only [Act.put, List.setIfInBounds_toArray, List.set_cons_zero, List.set_cons_succ])
      refine plan_end ?_
      clear x0 x1 x2 x3 x4 x5 x6 x7 x8 x9 y0 y1 y2 y3 y4 y5 y6 y7 y8 y9 cvx cvy
      go_wp2_with fail
      go_ret
      exact ⟨by rw [HV.out]; rfl, q5⟩
    | true =>
      by_cases p3 : x.link = y.link
      rotate_left
      · rw [decide_eq_false p3] at f2
        rw [decide_eq_false p3] at f2'
        have HV : Hid (res = false) := Lib.hid (by rw [HST.out, HSE.out, hal, decide_eq_false p3]; simp)
        clear HST HSE p3 f3 f3'
        refine wp_region_plan (fun W => W.cell? ⟨b1, o1 + k * 10, none⟩ = some (.string (bs x.path)) ∧ W.cell? ⟨b1, o1 + k * 10 + 1, none⟩ = some (.int .i64 x.kind) ∧ W.cell? ⟨b1, o1 + k * 10 + 2, none⟩ = some (.int .i64 x.mode) ∧ W.cell? ⟨b1, o1 + k * 10 + 3, none⟩ = some (.int .i64 x.uid) ∧ W.cell? ⟨b1, o1 + k * 10 + 4, none⟩ = some (.int .i64 x.gid) ∧ W.cell? ⟨b1, o1 + k * 10 + 5, none⟩ = some (.string (bs x.owner)) ∧ W.cell? ⟨b1, o1 + k * 10 + 6, none⟩ = some (.string (bs x.group)) ∧ W.cell? ⟨b1, o1 + k * 10 + 7, none⟩ = some (.int .i64 x.mtime) ∧ W.cell? ⟨b1, o1 + k * 10 + 8, none⟩ = some (.string (bs x.link)) ∧ W.cell? ⟨b1, o1 + k * 10 + 9, none⟩ = some (.slice Ax x.data.length cx) ∧ W.cell? ⟨b2, o2 + k * 10, none⟩ = some (.string (bs y.path)) ∧ W.cell? ⟨b2, o2 + k * 10 + 1, none⟩ = some (.int .i64 y.kind) ∧ W.cell? ⟨b2, o2 + k * 10 + 2, none⟩ = some (.int .i64 y.mode) ∧ W.cell? ⟨b2, o2 + k * 10 + 3, none⟩ = some (.int .i64 y.uid) ∧ W.cell? ⟨b2, o2 + k * 10 + 4, none⟩ = some (.int .i64 y.gid) ∧ W.cell? ⟨b2, o2 + k * 10 + 5, none⟩ = some (.string (bs y.owner)) ∧ W.cell? ⟨b2, o2 + k * 10 + 6, none⟩ = some (.string (bs y.group)) ∧ W.cell? ⟨b2, o2 + k * 10 + 7, none⟩ = some (.int .i64 y.mtime) ∧ W.cell? ⟨b2, o2 + k * 10 + 8, none⟩ = some (.string (bs y.link)) ∧ W.cell? ⟨b2, o2 + k * 10 + 9, none⟩ = some (.slice Ay y.data.length cy) ∧ (convert 25 9 (.slice Ax x.data.length cx)).run Tryz.prog W = .ok (.string (bs x.data)) W ∧ (convert 25 9 (.slice Ay y.data.length cy)).run Tryz.prog W = .ok (.string (bs y.data)) W) [(false, 0), (false, 1), (false, 2), (false, 3), (false, 4), (false, 5), (false, 6), (false, 7), (false, 8), (false, 9), (false, 10), (false, 11), (false, 12), (false, 13), (false, 14), (false, 15), (false, 16), (false, 17), (false, 18), (false, 19), (false, 20), (false, 21), (false, 22), (false, 23), (false, 24), (false, 25), (false, 26), (false, 27), (false, 28), (false, 29), (false, 30), (false, 31), (false, 32), (true, 33), (false, 34), (false, 35), (false, 36), (false, 37), (false, 38), (false, 39), (false, 40), (false, 41), (false, 42), (false, 43), (false, 44), (false, 45), (false, 46), (false, 47), (false, 48), (false, 49), (false, 50), (false, 51), (false, 52), (false, 53), (false, 54), (false, 55), (false, 56), (false, 57), (false, 58), (false, 59), (false, 60), (false, 61), (false, 62), (false, 63)] (by kernel_rfl) (by kernel_rfl) (⟨by simpa using x0, by simpa using x1, by simpa using x2, by simpa using x3, by simpa using x4, by simpa using x5, by simpa using x6, by simpa using x7, by simpa using x8, by simpa using x9, by simpa using y0, by simpa using y1, by simpa using y2, by simpa using y3, by simpa using y4, by simpa using y5, by simpa using y6, by simpa using y7, by simpa using y8, by simpa using y9, str8 (Below.sl good_byte ((Below.refl _ _).drew) hdx).sb, str8 (Below.sl good_byte ((Below.refl _ _).drew) hdy).sb⟩) ?_
        simp only [planOps, List.map, List.getD_cons_zero, List.getD_cons_succ]
        iterate 33 ((first | refine plan_quiet_guarded (v := ?_) rfl (fun w' hw' => ?_) ?_ | refine plan_calm_guarded (v := ?_) (tt_of) (fun w' hw' => ?_) ?_); rotate_left; (focus (go_simp <;> (first | with_reducible rfl | (rw [if_neg (by simp [undef])]; try rfl) | omega))); simp only [Act.put, List.setIfInBounds_toArray, List.set_cons_zero, List.set_cons_succ])
        refine plan_loud_guarded (fun K hK => ?_)
        go_simp
        refine (alike_any x y _ _ _ _ _ _ _ _ _ rfl rfl).mono ?_
        rintro r W5 ⟨rfl, hb5⟩
        have hb5' : Below wr.heap.size wr W5 := ((Below.refl _ wr).drew).trans hb5
        have kx := Kept.of_below hb5' nowhere
        have q5 := hbw.trans (hb5'.mono hbw.size)
        have cvx := str8 (Below.sl good_byte hb5' hdx).sb
        have cvy := str8 (Below.sl good_byte hb5' hdy).sb
        rw [hal]
        refine hK _ _ (⟨kx.cell x0 (fun h => h), kx.cell x1 (fun h => h), kx.cell x2 (fun h => h), kx.cell x3 (fun h => h), kx.cell x4 (fun h => h), kx.cell x5 (fun h => h), kx.cell x6 (fun h => h), kx.cell x7 (fun h => h), kx.cell x8 (fun h => h), kx.cell x9 (fun h => h), kx.cell y0 (fun h => h), kx.cell y1 (fun h => h), kx.cell y2 (fun h => h), kx.cell y3 (fun h => h), kx.cell y4 (fun h => h), kx.cell y5 (fun h => h), kx.cell y6 (fun h => h), kx.cell y7 (fun h => h), kx.cell y8 (fun h => h), kx.cell y9 (fun h => h), cvx, cvy⟩) ?_
        clear hK K
        (try simp only [Act.put, List.setIfInBounds_toArray, List.set_cons_zero, List.set_cons_succ])
        iterate 30 ((first | refine plan_quiet_guarded (v := ?_) rfl (fun w' hw' => ?_) ?_ | refine plan_calm_guarded (v := ?_) (tt_of) (fun w' hw' => ?_) ?_); rotate_left; (focus (go_simp <;> (first | with_reducible rfl | (rw [if_neg (by simp [undef])]; try rfl) | omega))); simp only [Act.put, List.setIfInBounds_toArray, List.set_cons_zero, List.set_cons_succ])
        refine plan_end ?_
        clear x0 x1 x2 x3 x4 x5 x6 x7 x8 x9 y0 y1 y2 y3 y4 y5 y6 y7 y8 y9 cvx cvy
        go_wp2_with fail
        go_ret
        exact ⟨by rw [HV.out]; rfl, q5⟩
      rw [decide_eq_true p3] at f2
      rw [decide_eq_true p3] at f2'
      by_cases p4 : x.data = y.data
      rotate_left
      · rw [decide_eq_false p4] at f3
        rw [decide_eq_false p4] at f3'
        have HV : Hid (res = false) := Lib.hid (by rw [HST.out, HSE.out, hal, decide_eq_false p4]; simp)
        clear HST HSE p3 p4
        refine wp_region_plan (fun W => W.cell? ⟨b1, o1 + k * 10, none⟩ = some (.string (bs x.path)) ∧ W.cell? ⟨b1, o1 + k * 10 + 1, none⟩ = some (.int .i64 x.kind) ∧ W.cell? ⟨b1, o1 + k * 10 + 2, none⟩ = some (.int .i64 x.mode) ∧ W.cell? ⟨b1, o1 + k * 10 + 3, none⟩ = some (.int .i64 x.uid) ∧ W.cell? ⟨b1, o1 + k * 10 + 4, none⟩ = some (.int .i64 x.gid) ∧ W.cell? ⟨b1, o1 + k * 10 + 5, none⟩ = some (.string (bs x.owner)) ∧ W.cell? ⟨b1, o1 + k * 10 + 6, none⟩ = some (.string (bs x.group)) ∧ W.cell? ⟨b1, o1 + k * 10 + 7, none⟩ = some (.int .i64 x.mtime) ∧ W.cell? ⟨b1, o1 + k * 10 + 8, none⟩ = some (.string (bs x.link)) ∧ W.cell? ⟨b1, o1 + k * 10 + 9, none⟩ = some (.slice Ax x.data.length cx) ∧ W.cell? ⟨b2, o2 + k * 10, none⟩ = some (.string (bs y.path)) ∧ W.cell? ⟨b2, o2 + k * 10 + 1, none⟩ = some (.int .i64 y.kind) ∧ W.cell? ⟨b2, o2 + k * 10 + 2, none⟩ = some (.int .i64 y.mode) ∧ W.cell? ⟨b2, o2 + k * 10 + 3, none⟩ = some (.int .i64 y.uid) ∧ W.cell? ⟨b2, o2 + k * 10 + 4, none⟩ = some (.int .i64 y.gid) ∧ W.cell? ⟨b2, o2 + k * 10 + 5, none⟩ = some (.string (bs y.owner)) ∧ W.cell? ⟨b2, o2 + k * 10 + 6, none⟩ = some (.string (bs y.group)) ∧ W.cell? ⟨b2, o2 + k * 10 + 7, none⟩ = some (.int .i64 y.mtime) ∧ W.cell? ⟨b2, o2 + k * 10 + 8, none⟩ = some (.string (bs y.link)) ∧ W.cell? ⟨b2, o2 + k * 10 + 9, none⟩ = some (.slice Ay y.data.length cy) ∧ (convert 25 9 (.slice Ax x.data.length cx)).run Tryz.prog W = .ok (.string (bs x.data)) W ∧ (convert 25 9 (.slice Ay y.data.length cy)).run Tryz.prog W = .ok (.string (bs y.data)) W) [(false, 0), (false, 1), (false, 2), (false, 3), (false, 4), (false, 5), (false, 6), (false, 7), (false, 8), (false, 9), (false, 10), (false, 11), (false, 12), (false, 13), (false, 14), (false, 15), (false, 16), (false, 17), (false, 18), (false, 19), (false, 20), (false, 21), (false, 22), (false, 23), (false, 24), (false, 25), (false, 26), (false, 27), (false, 28), (false, 29), (false, 30), (false, 31), (false, 32), (true, 33), (false, 34), (false, 35), (false, 36), (false, 37), (false, 38), (false, 39), (false, 40), (false, 41), (false, 42), (false, 43), (false, 44), (false, 45), (false, 46), (false, 47), (false, 48), (false, 49), (false, 50), (false, 51), (false, 52), (false, 53), (false, 54), (false, 55), (false, 56), (false, 57), (false, 58), (false, 59), (false, 60), (false, 61), (false, 62), (false, 63)] (by kernel_rfl) (by kernel_rfl) (⟨by simpa using x0, by simpa using x1, by simpa using x2, by simpa using x3, by simpa using x4, by simpa using x5, by simpa using x6, by simpa using x7, by simpa using x8, by simpa using x9, by simpa using y0, by simpa using y1, by simpa using y2, by simpa using y3, by simpa using y4, by simpa using y5, by simpa using y6, by simpa using y7, by simpa using y8, by simpa using y9, str8 (Below.sl good_byte ((Below.refl _ _).drew) hdx).sb, str8 (Below.sl good_byte ((Below.refl _ _).drew) hdy).sb⟩) ?_
        simp only [planOps, List.map, List.getD_cons_zero, List.getD_cons_succ]
        iterate 33 ((first | refine plan_quiet_guarded (v := ?_) rfl (fun w' hw' => ?_) ?_ | refine plan_calm_guarded (v := ?_) (tt_of) (fun w' hw' => ?_) ?_); rotate_left; (focus (go_simp <;> (first | with_reducible rfl | (rw [if_neg (by simp [undef])]; try rfl) | omega))); simp only [Act.put, List.setIfInBounds_toArray, List.set_cons_zero, List.set_cons_succ])
        refine plan_loud_guarded (fun K hK => ?_)
        go_simp
        refine (alike_any x y _ _ _ _ _ _ _ _ _ rfl rfl).mono ?_
        rintro r W5 ⟨rfl, hb5⟩
        have hb5' : Below wr.heap.size wr W5 := ((Below.refl _ wr).drew).trans hb5
        have kx := Kept.of_below hb5' nowhere
        have q5 := hbw.trans (hb5'.mono hbw.size)
        have cvx := str8 (Below.sl good_byte hb5' hdx).sb
        have cvy := str8 (Below.sl good_byte hb5' hdy).sb
        rw [hal]
        refine hK _ _ (⟨kx.cell x0 (fun h => h), kx.cell x1 (fun h => h), kx.cell x2 (fun h => h), kx.cell x3 (fun h => h), kx.cell x4 (fun h => h), kx.cell x5 (fun h => h), kx.cell x6 (fun h => h), kx.cell x7 (fun h => h), kx.cell x8 (fun h => h), kx.cell x9 (fun h => h), kx.cell y0 (fun h => h), kx.cell y1 (fun h => h), kx.cell y2 (fun h => h), kx.cell y3 (fun h => h), kx.cell y4 (fun h => h), kx.cell y5 (fun h => h), kx.cell y6 (fun h => h), kx.cell y7 (fun h => h), kx.cell y8 (fun h => h), kx.cell y9 (fun h => h), cvx, cvy⟩) ?_
        clear hK K
        (try simp only [Act.put, List.setIfInBounds_toArray, List.set_cons_zero, List.set_cons_succ])
        iterate 30 ((first | refine plan_quiet_guarded (v := ?_) rfl (fun w' hw' => ?_) ?_ | refine plan_calm_guarded (v := ?_) (tt_of) (fun w' hw' => ?_) ?_); rotate_left; (focus (go_simp <;> (first | with_reducible rfl | (rw [if_neg (by simp [undef])]; try rfl) | omega))); simp only [Act.put, List.setIfInBounds_toArray, List.set_cons_zero, List.set_cons_succ])
        refine plan_end ?_
        clear x0 x1 x2 x3 x4 x5 x6 x7 x8 x9 y0 y1 y2 y3 y4 y5 y6 y7 y8 y9 cvx cvy
        go_wp2_with fail
        go_ret
        exact ⟨by rw [HV.out]; rfl, q5⟩
      rw [decide_eq_true p4] at f3
      rw [decide_eq_true p4] at f3'
      have HV : Hid (res = sameFrom (a.drop (k + 1)) (b.drop (k + 1))) := Lib.hid (by rw [HST.out, HSE.out, hal, decide_eq_true p3, decide_eq_true p4]; rfl)
      clear HST HSE p3 p4
      refine wp_region_plan (fun W => W.cell? ⟨b1, o1 + k * 10, none⟩ = some (.string (bs x.path)) ∧ W.cell? ⟨b1, o1 + k * 10 + 1, none⟩ = some (.int .i64 x.kind) ∧ W.cell? ⟨b1, o1 + k * 10 + 2, none⟩ = some (.int .i64 x.mode) ∧ W.cell? ⟨b1, o1 + k * 10 + 3, none⟩ = some (.int .i64 x.uid) ∧ W.cell? ⟨b1, o1 + k * 10 + 4, none⟩ = some (.int .i64 x.gid) ∧ W.cell? ⟨b1, o1 + k * 10 + 5, none⟩ = some (.string (bs x.owner)) ∧ W.cell? ⟨b1, o1 + k * 10 + 6, none⟩ = some (.string (bs x.group)) ∧ W.cell? ⟨b1, o1 + k * 10 + 7, none⟩ = some (.int .i64 x.mtime) ∧ W.cell? ⟨b1, o1 + k * 10 + 8, none⟩ = some (.string (bs x.link)) ∧ W.cell? ⟨b1, o1 + k * 10 + 9, none⟩ = some (.slice Ax x.data.length cx) ∧ W.cell? ⟨b2, o2 + k * 10, none⟩ = some (.string (bs y.path)) ∧ W.cell? ⟨b2, o2 + k * 10 + 1, none⟩ = some (.int .i64 y.kind) ∧ W.cell? ⟨b2, o2 + k * 10 + 2, none⟩ = some (.int .i64 y.mode) ∧ W.cell? ⟨b2, o2 + k * 10 + 3, none⟩ = some (.int .i64 y.uid) ∧ W.cell? ⟨b2, o2 + k * 10 + 4, none⟩ = some (.int .i64 y.gid) ∧ W.cell? ⟨b2, o2 + k * 10 + 5, none⟩ = some (.string (bs y.owner)) ∧ W.cell? ⟨b2, o2 + k * 10 + 6, none⟩ = some (.string (bs y.group)) ∧ W.cell? ⟨b2, o2 + k * 10 + 7, none⟩ = some (.int .i64 y.mtime) ∧ W.cell? ⟨b2, o2 + k * 10 + 8, none⟩ = some (.string (bs y.link)) ∧ W.cell? ⟨b2, o2 + k * 10 + 9, none⟩ = some (.slice Ay y.data.length cy) ∧ (convert 25 9 (.slice Ax x.data.length cx)).run Tryz.prog W = .ok (.string (bs x.data)) W ∧ (convert 25 9 (.slice Ay y.data.length cy)).run Tryz.prog W = .ok (.string (bs y.data)) W) [(false, 0), (false, 1), (false, 2), (false, 3), (false, 4), (false, 5), (false, 6), (false, 7), (false, 8), (false, 9), (false, 10), (false, 11), (false, 12), (false, 13), (false, 14), (false, 15), (false, 16), (false, 17), (false, 18), (false, 19), (false, 20), (false, 21), (false, 22), (false, 23), (false, 24), (false, 25), (false, 26), (false, 27), (false, 28), (false, 29), (false, 30), (false, 31), (false, 32), (true, 33), (false, 34), (false, 35), (false, 36), (false, 37), (false, 38), (false, 39), (false, 40), (false, 41), (false, 42), (false, 43), (false, 44), (false, 45), (false, 46), (false, 47), (false, 48), (false, 49), (false, 50), (false, 51), (false, 52), (false, 53), (false, 54), (false, 55), (false, 56), (false, 57), (false, 58), (false, 59), (false, 60), (false, 61), (false, 62), (false, 63)] (by kernel_rfl) (by kernel_rfl) (⟨by simpa using x0, by simpa using x1, by simpa using x2, by simpa using x3, by simpa using x4, by simpa using x5, by simpa using x6, by simpa using x7, by simpa using x8, by simpa using x9, by simpa using y0, by simpa using y1, by simpa using y2, by simpa using y3, by simpa using y4, by simpa using y5, by simpa using y6, by simpa using y7, by simpa using y8, by simpa using y9, str8 (Below.sl good_byte ((Below.refl _ _).drew) hdx).sb, str8 (Below.sl good_byte ((Below.refl _ _).drew) hdy).sb⟩) ?_
      simp only [planOps, List.map, List.getD_cons_zero, List.getD_cons_succ]
      iterate 33 ((first | refine plan_quiet_guarded (v := ?_) rfl (fun w' hw' => ?_) ?_ | refine plan_calm_guarded (v := ?_) (tt_of) (fun w' hw' => ?_) ?_); rotate_left; (focus (go_simp <;> (first | with_reducible rfl | (rw [if_neg (by simp [undef])]; try rfl) | omega))); simp only [Act.put, List.setIfInBounds_toArray, List.set_cons_zero, List.set_cons_succ])
      refine plan_loud_guarded (fun K hK => ?_)
      go_simp
      refine (alike_any x y _ _ _ _ _ _ _ _ _ rfl rfl).mono ?_
      rintro r W5 ⟨rfl, hb5⟩
      have hb5' : Below wr.heap.size wr W5 := ((Below.refl _ wr).drew).trans hb5
      have kx := Kept.of_below hb5' nowhere
      have q5 := hbw.trans (hb5'.mono hbw.size)
      have cvx := str8 (Below.sl good_byte hb5' hdx).sb
      have cvy := str8 (Below.sl good_byte hb5' hdy).sb
      rw [hal]
      refine hK _ _ (⟨kx.cell x0 (fun h => h), kx.cell x1 (fun h => h), kx.cell x2 (fun h => h), kx.cell x3 (fun h => h), kx.cell x4 (fun h => h), kx.cell x5 (fun h => h), kx.cell x6 (fun h => h), kx.cell x7 (fun h => h), kx.cell x8 (fun h => h), kx.cell x9 (fun h => h), kx.cell y0 (fun h => h), kx.cell y1 (fun h => h), kx.cell y2 (fun h => h), kx.cell y3 (fun h => h), kx.cell y4 (fun h => h), kx.cell y5 (fun h => h), kx.cell y6 (fun h => h), kx.cell y7 (fun h => h), kx.cell y8 (fun h => h), kx.cell y9 (fun h => h), cvx, cvy⟩) ?_
      clear hK K
      (try simp only [Act.put, List.setIfInBounds_toArray, List.set_cons_zero, List.set_cons_succ])
      iterate 30 ((first | refine plan_quiet_guarded (v := ?_) rfl (fun w' hw' => ?_) ?_ | refine plan_calm_guarded (v := ?_) (tt_of) (fun w' hw' => ?_) ?_); rotate_left; (focus (go_simp <;> (first | with_reducible rfl | (rw [if_neg (by simp [undef])]; try rfl) | omega))); simp only [Act.put, List.setIfInBounds_toArray, List.set_cons_zero, List.set_cons_succ])
      refine plan_end ?_
      clear x0 x1 x2 x3 x4 x5 x6 x7 x8 x9 y0 y1 y2 y3 y4 y5 y6 y7 y8 y9 cvx cvy
      go_wp2_with fail
      go_roundg (N - (k + 1))
      case measure => omega
      case rel => exact ⟨k + 1, by omega, rfl, by simp, q5, HV⟩
end Go.Proofs.YtpheifdpjcppdaaGreatDoor

/- The walk of the document's first (cpio). Printed by gen_cqf.py. -/
import Derived.Test.YtolknddegfcmpaaDoorCqD
namespace Go.Proofs.YtolknddegfcmpaaDoor
open Go.RowKit
/-- A row of 13 numbers. -/
def NumAt (w : World) (g : Nat) (ns : List Nat) : Prop := ∀ i, i < 13 → w.cell? ⟨g, i, none⟩ = some (.int .i64 ((ns.getD i 0 : Nat) : Int))
theorem NumAt.keep {X : Nat → Prop} {w w' : World} {g : Nat} {ns : List Nat} (h : NumAt w g ns) (k : Kept X w w') (hg : ¬ X g) : NumAt w' g ns := fun i hi => k.cell (h i hi) hg
/-- A row of such rows. -/
def HeadsAt (w : World) (hv : Value) (heads : List (List Nat)) : Prop :=
  ∃ Ah ch, hv = .slice Ah heads.length ch ∧ ∀ j (h : j < heads.length), ∃ gh gj cj, Ah = some ⟨gh, 0, none⟩ ∧ w.cell? ⟨gh, j, none⟩ = some (.slice (some ⟨gj, 0, none⟩) 13 cj) ∧ NumAt w gj heads[j]
def frsI (o : Option Nat) : Int := match o with | none => -1 | some i => (i : Int)
theorem frs_step (k : List Nat) (heads : List (List Nat)) (L : List En) (i : Nat) (h1 : i < heads.length) (h2 : i < L.length) :
    frs k ((heads.drop i).zip (L.drop i)) i = if L[i].kind = 1 ∧ 1 < heads[i].getD 2 0 ∧ keyG heads[i] = k then some i else frs k ((heads.drop (i + 1)).zip (L.drop (i + 1))) (i + 1) := by
  rw [List.drop_eq_getElem_cons h1, List.drop_eq_getElem_cons h2, List.zip_cons_cons, frs]
theorem frs_end (k : List Nat) (heads : List (List Nat)) (L : List En) (i : Nat) (h1 : heads.length ≤ i) : frs k ((heads.drop i).zip (L.drop i)) i = none := by
  rw [List.drop_eq_nil_of_le h1]; rfl
theorem key_ne {a b : List Nat} (i : Nat) (h : (keyG a).getD i 0 ≠ (keyG b).getD i 0) : keyG a ≠ keyG b := fun e => h (by rw [e])
set_option maxRecDepth 20000 in
set_option maxHeartbeats 32000000 in
theorem first_any (heads : List (List Nat)) (L : List En) (ns : List Nat) (hv lv : Value) (gn cn : Nat) (w : World) (X : Nat → Prop) (hH : HeadsAt w hv heads) (hsl : Sl 10 Rent X w lv L) (hN : NumAt w gn ns) (hlen : heads.length = L.length) (hL : L.length ≤ 100000) :
    Calls Tryd.prog 32 #[hv, lv, .slice (some ⟨gn, 0, none⟩) 13 cn] w fun r w' => r = .returned (.int .i64 (frsI (frs (keyG ns) (heads.zip L) 0))) ∧ Below w.heap.size w w' := by
  obtain ⟨Ah, ch, rfl, hHc⟩ := hH
  obtain ⟨Al, cl, rfl, _, _⟩ := hsl.form
  have HR : Hid (frs (keyG ns) (heads.zip L) 0 = frs (keyG ns) ((heads.drop 0).zip (L.drop 0)) 0) := Lib.hid rfl
  obtain ⟨R, HRR⟩ : ∃ R, Hid (frs (keyG ns) (heads.zip L) 0 = R) := ⟨_, Lib.hid rfl⟩
  rw [HRR.out] at HR ⊢
  obtain ⟨nl, HNL⟩ : ∃ n, Hid (L.length = n) := ⟨_, Lib.hid rfl⟩
  rw [hlen, HNL.out]
  go_enter Tryd.func32, Tryd.ntmps32
  go_wp2_with fail
  go_loopg [7] nl (fun G s7 wr => ∃ k : Nat, k ≤ nl ∧ G = nl - k ∧ s7 = .int .i64 k ∧ Below w.heap.size w wr ∧ Hid (R = frs (keyG ns) ((heads.drop k).zip (L.drop k)) k))
  case atStart => exact ⟨0, Nat.zero_le _, rfl, rfl, Below.refl _ _, HR⟩
  case round =>
    obtain ⟨k, hk, rfl, rfl, hb, HE⟩ := hrel
    by_cases hlt : k < nl
    · have hkl : k < L.length := by rw [HNL.out]; exact hlt
      have hkh : k < heads.length := by rw [hlen]; exact hkl
      have HST := Lib.hid (HE.out.trans (frs_step (keyG ns) heads L k hkh hkl))
      obtain ⟨gh, gj, cj, hAh, hcj, hNj⟩ := hHc k hkh
      have KK := Kept.of_below hb nowhere
      obtain ⟨b, off, hAl, _, hent⟩ := Sl.ent (hsl.keep good_ent (Kept.of_below hb X)) (by omega)
      obtain ⟨dvk, hat, _⟩ := hent k hkl
      subst hAh
      subst hAl
      have hcj := KK.cell hcj (fun h => h)
      have hNj := hNj.keep KK (fun h => h)
      have hNn := hN.keep KK (fun h => h)
      have b2 := hNj 2 (by omega)
      have b0 := hNj 0 (by omega)
      have b7 := hNj 7 (by omega)
      have b8 := hNj 8 (by omega)
      have b9 := hNj 9 (by omega)
      have b10 := hNj 10 (by omega)
      have m0 := hNn 0 (by omega)
      have m7 := hNn 7 (by omega)
      have m8 := hNn 8 (by omega)
      have m9 := hNn 9 (by omega)
      have m10 := hNn 10 (by omega)
      have hk1 := hat.c1
      have hkey : keyG heads[k] = [heads[k].getD 0 0, heads[k].getD 7 0, heads[k].getD 8 0, heads[k].getD 9 0, heads[k].getD 10 0] := rfl
      have hkey2 : keyG ns = [ns.getD 0 0, ns.getD 7 0, ns.getD 8 0, ns.getD 9 0, ns.getD 10 0] := rfl
      have HKE : Hid (keyG heads[k] = keyG ns ↔ (heads[k].getD 0 0 = ns.getD 0 0 ∧ heads[k].getD 7 0 = ns.getD 7 0 ∧ heads[k].getD 8 0 = ns.getD 8 0 ∧ heads[k].getD 9 0 = ns.getD 9 0 ∧ heads[k].getD 10 0 = ns.getD 10 0)) := Lib.hid (by rw [hkey, hkey2]; simp)
      clear hkey hkey2
      generalize heads[k].getD 0 0 = p0 at b0 HKE
      generalize heads[k].getD 7 0 = p7 at b7 HKE
      generalize heads[k].getD 8 0 = p8 at b8 HKE
      generalize heads[k].getD 9 0 = p9 at b9 HKE
      generalize heads[k].getD 10 0 = p10 at b10 HKE
      generalize heads[k].getD 2 0 = p2 at b2 HST
      generalize ns.getD 0 0 = n0 at m0 HKE
      generalize ns.getD 7 0 = n7 at m7 HKE
      generalize ns.getD 8 0 = n8 at m8 HKE
      generalize ns.getD 9 0 = n9 at m9 HKE
      generalize ns.getD 10 0 = n10 at m10 HKE
      generalize L[k].kind = kd at hk1 HST
      obtain ⟨k1, HK1⟩ : ∃ x, Hid (x = k + 1) := ⟨_, Lib.hid rfl⟩
      have wk1 : IntKind.i64.wrap ((k : Int) + 1) = (k1 : Int) := by rw [i64_in _ (by omega) (by omega), HK1.out]; omega
      have tk : decide ((k : Int) < (nl : Int)) = true := decide_eq_true (by omega)
      have tkb : decide (k < nl) = true := decide_eq_true hlt
      have j0 : (0 : Int) ≤ (k : Int) := by omega
      have j1 : (k : Int) < (nl : Int) := by omega
      have hbd := hb.drew
      clear hNj hNn hat hent KK HE
      go_upto_region 5 with fail
      clear hcj
      by_cases e0 : kd = 1
      rotate_left
      · have t0 : (kd == 1) = false := by simpa using e0
        have HV := Lib.hid (HST.out.trans (if_neg (fun h => e0 h.1)))
        clear e0
        refine wp_region_plan (fun W => W.cell? ⟨b, off + k * 10 + 1, none⟩ = some (.int .i64 kd) ∧ W.cell? ⟨gj, 2, none⟩ = some (.int .i64 (p2 : Int)) ∧ W.cell? ⟨gj, 0, none⟩ = some (.int .i64 (p0 : Int)) ∧ W.cell? ⟨gj, 7, none⟩ = some (.int .i64 (p7 : Int)) ∧ W.cell? ⟨gj, 8, none⟩ = some (.int .i64 (p8 : Int)) ∧ W.cell? ⟨gj, 9, none⟩ = some (.int .i64 (p9 : Int)) ∧ W.cell? ⟨gj, 10, none⟩ = some (.int .i64 (p10 : Int)) ∧ W.cell? ⟨gn, 0, none⟩ = some (.int .i64 (n0 : Int)) ∧ W.cell? ⟨gn, 7, none⟩ = some (.int .i64 (n7 : Int)) ∧ W.cell? ⟨gn, 8, none⟩ = some (.int .i64 (n8 : Int)) ∧ W.cell? ⟨gn, 9, none⟩ = some (.int .i64 (n9 : Int)) ∧ W.cell? ⟨gn, 10, none⟩ = some (.int .i64 (n10 : Int))) [(false, 0), (false, 1), (false, 2), (false, 3), (false, 4), (false, 5), (false, 6), (false, 7), (false, 8), (false, 9), (false, 10), (false, 11), (false, 12), (false, 13), (false, 14), (false, 15), (false, 16), (false, 17), (false, 18), (false, 19), (false, 20), (false, 21), (false, 22), (false, 23), (false, 24), (false, 25), (false, 26), (false, 27), (false, 28), (false, 29), (false, 30), (false, 31), (false, 32), (false, 33), (false, 34), (false, 35), (false, 36), (false, 37), (false, 38), (false, 39), (false, 40), (false, 41), (false, 42), (false, 43), (false, 44), (false, 45), (false, 46), (false, 47), (false, 48), (false, 49), (false, 50), (false, 51), (false, 52), (false, 53), (false, 54), (false, 55), (false, 56)] (by kernel_rfl) (by kernel_rfl) (⟨hk1, b2, b0, b7, b8, b9, b10, m0, m7, m8, m9, m10⟩) ?_
        simp only [planOps, List.map, List.getD_cons_zero, List.getD_cons_succ]
        iterate 57 ((first | refine plan_quiet_guarded (v := ?_) rfl (fun w' hw' => ?_) ?_ | refine plan_calm_guarded (v := ?_) (tt_of) (fun w' hw' => ?_) ?_); rotate_left; (focus (go_simp <;> (first | with_reducible rfl | (rw [if_neg (by simp [undef])]; try rfl)))); simp only [Act.put, List.setIfInBounds_toArray, List.set_cons_zero, List.set_cons_succ])
        refine plan_end ?_
        clear hk1 b2 b0 b7 b8 b9 b10 m0 m7 m8 m9 m10
        go_wp2_with fail
        go_roundg (nl - (k + 1))
        case measure => omega
        case rel => exact ⟨k + 1, by omega, rfl, by have := HK1.out; first | (simp; done) | (simp; omega) | (subst this; rfl), hbd, by rw [HV.out]; exact Lib.hid rfl⟩
      have t0 : (kd == 1) = true := by simpa using e0
      by_cases e2 : 1 < p2
      rotate_left
      · have t2 : decide ((1 : Int) < (p2 : Int)) = false := decide_eq_false (by omega)
        have t2b : decide (1 < p2) = false := decide_eq_false e2
        have HV := Lib.hid (HST.out.trans (if_neg (fun h => e2 h.2.1)))
        clear e0 e2
        refine wp_region_plan (fun W => W.cell? ⟨b, off + k * 10 + 1, none⟩ = some (.int .i64 kd) ∧ W.cell? ⟨gj, 2, none⟩ = some (.int .i64 (p2 : Int)) ∧ W.cell? ⟨gj, 0, none⟩ = some (.int .i64 (p0 : Int)) ∧ W.cell? ⟨gj, 7, none⟩ = some (.int .i64 (p7 : Int)) ∧ W.cell? ⟨gj, 8, none⟩ = some (.int .i64 (p8 : Int)) ∧ W.cell? ⟨gj, 9, none⟩ = some (.int .i64 (p9 : Int)) ∧ W.cell? ⟨gj, 10, none⟩ = some (.int .i64 (p10 : Int)) ∧ W.cell? ⟨gn, 0, none⟩ = some (.int .i64 (n0 : Int)) ∧ W.cell? ⟨gn, 7, none⟩ = some (.int .i64 (n7 : Int)) ∧ W.cell? ⟨gn, 8, none⟩ = some (.int .i64 (n8 : Int)) ∧ W.cell? ⟨gn, 9, none⟩ = some (.int .i64 (n9 : Int)) ∧ W.cell? ⟨gn, 10, none⟩ = some (.int .i64 (n10 : Int))) [(false, 0), (false, 1), (false, 2), (false, 3), (false, 4), (false, 5), (false, 6), (false, 7), (false, 8), (false, 9), (false, 10), (false, 11), (false, 12), (false, 13), (false, 14), (false, 15), (false, 16), (false, 17), (false, 18), (false, 19), (false, 20), (false, 21), (false, 22), (false, 23), (false, 24), (false, 25), (false, 26), (false, 27), (false, 28), (false, 29), (false, 30), (false, 31), (false, 32), (false, 33), (false, 34), (false, 35), (false, 36), (false, 37), (false, 38), (false, 39), (false, 40), (false, 41), (false, 42), (false, 43), (false, 44), (false, 45), (false, 46), (false, 47), (false, 48), (false, 49), (false, 50), (false, 51), (false, 52), (false, 53), (false, 54), (false, 55), (false, 56)] (by kernel_rfl) (by kernel_rfl) (⟨hk1, b2, b0, b7, b8, b9, b10, m0, m7, m8, m9, m10⟩) ?_
        simp only [planOps, List.map, List.getD_cons_zero, List.getD_cons_succ]
        iterate 57 ((first | refine plan_quiet_guarded (v := ?_) rfl (fun w' hw' => ?_) ?_ | refine plan_calm_guarded (v := ?_) (tt_of) (fun w' hw' => ?_) ?_); rotate_left; (focus (go_simp <;> (first | with_reducible rfl | (rw [if_neg (by simp [undef])]; try rfl)))); simp only [Act.put, List.setIfInBounds_toArray, List.set_cons_zero, List.set_cons_succ])
        refine plan_end ?_
        clear hk1 b2 b0 b7 b8 b9 b10 m0 m7 m8 m9 m10
        go_wp2_with fail
        go_roundg (nl - (k + 1))
        case measure => omega
        case rel => exact ⟨k + 1, by omega, rfl, by have := HK1.out; first | (simp; done) | (simp; omega) | (subst this; rfl), hbd, by rw [HV.out]; exact Lib.hid rfl⟩
      have t2 : decide ((1 : Int) < (p2 : Int)) = true := decide_eq_true (by omega)
      have t2b : decide (1 < p2) = true := decide_eq_true e2
      by_cases y0 : p0 = n0
      rotate_left
      · have u0 : ((p0 : Int) == (n0 : Int)) = false := by
          have : ¬ (p0 : Int) = (n0 : Int) := by omega
          simpa using this
        have u0b : (p0 == n0) = false := by simpa using y0
        have HV := Lib.hid (HST.out.trans (if_neg (fun h => y0 (HKE.out.1 h.2.2).1)))
        clear e0 e2 y0
        refine wp_region_plan (fun W => W.cell? ⟨b, off + k * 10 + 1, none⟩ = some (.int .i64 kd) ∧ W.cell? ⟨gj, 2, none⟩ = some (.int .i64 (p2 : Int)) ∧ W.cell? ⟨gj, 0, none⟩ = some (.int .i64 (p0 : Int)) ∧ W.cell? ⟨gj, 7, none⟩ = some (.int .i64 (p7 : Int)) ∧ W.cell? ⟨gj, 8, none⟩ = some (.int .i64 (p8 : Int)) ∧ W.cell? ⟨gj, 9, none⟩ = some (.int .i64 (p9 : Int)) ∧ W.cell? ⟨gj, 10, none⟩ = some (.int .i64 (p10 : Int)) ∧ W.cell? ⟨gn, 0, none⟩ = some (.int .i64 (n0 : Int)) ∧ W.cell? ⟨gn, 7, none⟩ = some (.int .i64 (n7 : Int)) ∧ W.cell? ⟨gn, 8, none⟩ = some (.int .i64 (n8 : Int)) ∧ W.cell? ⟨gn, 9, none⟩ = some (.int .i64 (n9 : Int)) ∧ W.cell? ⟨gn, 10, none⟩ = some (.int .i64 (n10 : Int))) [(false, 0), (false, 1), (false, 2), (false, 3), (false, 4), (false, 5), (false, 6), (false, 7), (false, 8), (false, 9), (false, 10), (false, 11), (false, 12), (false, 13), (false, 14), (false, 15), (false, 16), (false, 17), (false, 18), (false, 19), (false, 20), (false, 21), (false, 22), (false, 23), (false, 24), (false, 25), (false, 26), (false, 27), (false, 28), (false, 29), (false, 30), (false, 31), (false, 32), (false, 33), (false, 34), (false, 35), (false, 36), (false, 37), (false, 38), (false, 39), (false, 40), (false, 41), (false, 42), (false, 43), (false, 44), (false, 45), (false, 46), (false, 47), (false, 48), (false, 49), (false, 50), (false, 51), (false, 52), (false, 53), (false, 54), (false, 55), (false, 56)] (by kernel_rfl) (by kernel_rfl) (⟨hk1, b2, b0, b7, b8, b9, b10, m0, m7, m8, m9, m10⟩) ?_
        simp only [planOps, List.map, List.getD_cons_zero, List.getD_cons_succ]
        iterate 57 ((first | refine plan_quiet_guarded (v := ?_) rfl (fun w' hw' => ?_) ?_ | refine plan_calm_guarded (v := ?_) (tt_of) (fun w' hw' => ?_) ?_); rotate_left; (focus (go_simp <;> (first | with_reducible rfl | (rw [if_neg (by simp [undef])]; try rfl)))); simp only [Act.put, List.setIfInBounds_toArray, List.set_cons_zero, List.set_cons_succ])
        refine plan_end ?_
        clear hk1 b2 b0 b7 b8 b9 b10 m0 m7 m8 m9 m10
        go_wp2_with fail
        go_roundg (nl - (k + 1))
        case measure => omega
        case rel => exact ⟨k + 1, by omega, rfl, by have := HK1.out; first | (simp; done) | (simp; omega) | (subst this; rfl), hbd, by rw [HV.out]; exact Lib.hid rfl⟩
      have u0 : ((p0 : Int) == (n0 : Int)) = true := by rw [beq_iff_eq]; omega
      have u0b : (p0 == n0) = true := by simpa using y0
      by_cases y7 : p7 = n7
      rotate_left
      · have u7 : ((p7 : Int) == (n7 : Int)) = false := by
          have : ¬ (p7 : Int) = (n7 : Int) := by omega
          simpa using this
        have u7b : (p7 == n7) = false := by simpa using y7
        have HV := Lib.hid (HST.out.trans (if_neg (fun h => y7 (HKE.out.1 h.2.2).2.1)))
        clear e0 e2 y0 y7
        refine wp_region_plan (fun W => W.cell? ⟨b, off + k * 10 + 1, none⟩ = some (.int .i64 kd) ∧ W.cell? ⟨gj, 2, none⟩ = some (.int .i64 (p2 : Int)) ∧ W.cell? ⟨gj, 0, none⟩ = some (.int .i64 (p0 : Int)) ∧ W.cell? ⟨gj, 7, none⟩ = some (.int .i64 (p7 : Int)) ∧ W.cell? ⟨gj, 8, none⟩ = some (.int .i64 (p8 : Int)) ∧ W.cell? ⟨gj, 9, none⟩ = some (.int .i64 (p9 : Int)) ∧ W.cell? ⟨gj, 10, none⟩ = some (.int .i64 (p10 : Int)) ∧ W.cell? ⟨gn, 0, none⟩ = some (.int .i64 (n0 : Int)) ∧ W.cell? ⟨gn, 7, none⟩ = some (.int .i64 (n7 : Int)) ∧ W.cell? ⟨gn, 8, none⟩ = some (.int .i64 (n8 : Int)) ∧ W.cell? ⟨gn, 9, none⟩ = some (.int .i64 (n9 : Int)) ∧ W.cell? ⟨gn, 10, none⟩ = some (.int .i64 (n10 : Int))) [(false, 0), (false, 1), (false, 2), (false, 3), (false, 4), (false, 5), (false, 6), (false, 7), (false, 8), (false, 9), (false, 10), (false, 11), (false, 12), (false, 13), (false, 14), (false, 15), (false, 16), (false, 17), (false, 18), (false, 19), (false, 20), (false, 21), (false, 22), (false, 23), (false, 24), (false, 25), (false, 26), (false, 27), (false, 28), (false, 29), (false, 30), (false, 31), (false, 32), (false, 33), (false, 34), (false, 35), (false, 36), (false, 37), (false, 38), (false, 39), (false, 40), (false, 41), (false, 42), (false, 43), (false, 44), (false, 45), (false, 46), (false, 47), (false, 48), (false, 49), (false, 50), (false, 51), (false, 52), (false, 53), (false, 54), (false, 55), (false, 56)] (by kernel_rfl) (by kernel_rfl) (⟨hk1, b2, b0, b7, b8, b9, b10, m0, m7, m8, m9, m10⟩) ?_
        simp only [planOps, List.map, List.getD_cons_zero, List.getD_cons_succ]
        iterate 57 ((first | refine plan_quiet_guarded (v := ?_) rfl (fun w' hw' => ?_) ?_ | refine plan_calm_guarded (v := ?_) (tt_of) (fun w' hw' => ?_) ?_); rotate_left; (focus (go_simp <;> (first | with_reducible rfl | (rw [if_neg (by simp [undef])]; try rfl)))); simp only [Act.put, List.setIfInBounds_toArray, List.set_cons_zero, List.set_cons_succ])
        refine plan_end ?_
        clear hk1 b2 b0 b7 b8 b9 b10 m0 m7 m8 m9 m10
        go_wp2_with fail
        go_roundg (nl - (k + 1))
        case measure => omega
        case rel => exact ⟨k + 1, by omega, rfl, by have := HK1.out; first | (simp; done) | (simp; omega) | (subst this; rfl), hbd, by rw [HV.out]; exact Lib.hid rfl⟩
      have u7 : ((p7 : Int) == (n7 : Int)) = true := by rw [beq_iff_eq]; omega
      have u7b : (p7 == n7) = true := by simpa using y7
      by_cases y8 : p8 = n8
      rotate_left
      · have u8 : ((p8 : Int) == (n8 : Int)) = false := by
          have : ¬ (p8 : Int) = (n8 : Int) := by omega
          simpa using this
        have u8b : (p8 == n8) = false := by simpa using y8
        have HV := Lib.hid (HST.out.trans (if_neg (fun h => y8 (HKE.out.1 h.2.2).2.2.1)))
        clear e0 e2 y0 y7 y8
        refine wp_region_plan (fun W => W.cell? ⟨b, off + k * 10 + 1, none⟩ = some (.int .i64 kd) ∧ W.cell? ⟨gj, 2, none⟩ = some (.int .i64 (p2 : Int)) ∧ W.cell? ⟨gj, 0, none⟩ = some (.int .i64 (p0 : Int)) ∧ W.cell? ⟨gj, 7, none⟩ = some (.int .i64 (p7 : Int)) ∧ W.cell? ⟨gj, 8, none⟩ = some (.int .i64 (p8 : Int)) ∧ W.cell? ⟨gj, 9, none⟩ = some (.int .i64 (p9 : Int)) ∧ W.cell? ⟨gj, 10, none⟩ = some (.int .i64 (p10 : Int)) ∧ W.cell? ⟨gn, 0, none⟩ = some (.int .i64 (n0 : Int)) ∧ W.cell? ⟨gn, 7, none⟩ = some (.int .i64 (n7 : Int)) ∧ W.cell? ⟨gn, 8, none⟩ = some (.int .i64 (n8 : Int)) ∧ W.cell? ⟨gn, 9, none⟩ = some (.int .i64 (n9 : Int)) ∧ W.cell? ⟨gn, 10, none⟩ = some (.int .i64 (n10 : Int))) [(false, 0), (false, 1), (false, 2), (false, 3), (false, 4), (false, 5), (false, 6), (false, 7), (false, 8), (false, 9), (false, 10), (false, 11), (false, 12), (false, 13), (false, 14), (false, 15), (false, 16), (false, 17), (false, 18), (false, 19), (false, 20), (false, 21), (false, 22), (false, 23), (false, 24), (false, 25), (false, 26), (false, 27), (false, 28), (false, 29), (false, 30), (false, 31), (false, 32), (false, 33), (false, 34), (false, 35), (false, 36), (false, 37), (false, 38), (false, 39), (false, 40), (false, 41), (false, 42), (false, 43), (false, 44), (false, 45), (false, 46), (false, 47), (false, 48), (false, 49), (false, 50), (false, 51), (false, 52), (false, 53), (false, 54), (false, 55), (false, 56)] (by kernel_rfl) (by kernel_rfl) (⟨hk1, b2, b0, b7, b8, b9, b10, m0, m7, m8, m9, m10⟩) ?_
        simp only [planOps, List.map, List.getD_cons_zero, List.getD_cons_succ]
        iterate 57 ((first | refine plan_quiet_guarded (v := ?_) rfl (fun w' hw' => ?_) ?_ | refine plan_calm_guarded (v := ?_) (tt_of) (fun w' hw' => ?_) ?_); rotate_left; (focus (go_simp <;> (first | with_reducible rfl | (rw [if_neg (by simp [undef])]; try rfl)))); simp only [Act.put, List.setIfInBounds_toArray, List.set_cons_zero, List.set_cons_succ])
        refine plan_end ?_
        clear hk1 b2 b0 b7 b8 b9 b10 m0 m7 m8 m9 m10
        go_wp2_with fail
        go_roundg (nl - (k + 1))
        case measure => omega
        case rel => exact ⟨k + 1, by omega, rfl, by have := HK1.out; first | (simp; done) | (simp; omega) | (subst this; rfl), hbd, by rw [HV.out]; exact Lib.hid rfl⟩
      have u8 : ((p8 : Int) == (n8 : Int)) = true := by rw [beq_iff_eq]; omega
      have u8b : (p8 == n8) = true := by simpa using y8
      by_cases y9 : p9 = n9
      rotate_left
      · have u9 : ((p9 : Int) == (n9 : Int)) = false := by
          have : ¬ (p9 : Int) = (n9 : Int) := by omega
          simpa using this
        have u9b : (p9 == n9) = false := by simpa using y9
        have HV := Lib.hid (HST.out.trans (if_neg (fun h => y9 (HKE.out.1 h.2.2).2.2.2.1)))
        clear e0 e2 y0 y7 y8 y9
        refine wp_region_plan (fun W => W.cell? ⟨b, off + k * 10 + 1, none⟩ = some (.int .i64 kd) ∧ W.cell? ⟨gj, 2, none⟩ = some (.int .i64 (p2 : Int)) ∧ W.cell? ⟨gj, 0, none⟩ = some (.int .i64 (p0 : Int)) ∧ W.cell? ⟨gj, 7, none⟩ = some (.int .i64 (p7 : Int)) ∧ W.cell? ⟨gj, 8, none⟩ = some (.int .i64 (p8 : Int)) ∧ W.cell? ⟨gj, 9, none⟩ = some (.int .i64 (p9 : Int)) ∧ W.cell? ⟨gj, 10, none⟩ = some (.int .i64 (p10 : Int)) ∧ W.cell? ⟨gn, 0, none⟩ = some (.int .i64 (n0 : Int)) ∧ W.cell? ⟨gn, 7, none⟩ = some (.int .i64 (n7 : Int)) ∧ W.cell? ⟨gn, 8, none⟩ = some (.int .i64 (n8 : Int)) ∧ W.cell? ⟨gn, 9, none⟩ = some (.int .i64 (n9 : Int)) ∧ W.cell? ⟨gn, 10, none⟩ = some (.int .i64 (n10 : Int))) [(false, 0), (false, 1), (false, 2), (false, 3), (false, 4), (false, 5), (false, 6), (false, 7), (false, 8), (false, 9), (false, 10), (false, 11), (false, 12), (false, 13), (false, 14), (false, 15), (false, 16), (false, 17), (false, 18), (false, 19), (false, 20), (false, 21), (false, 22), (false, 23), (false, 24), (false, 25), (false, 26), (false, 27), (false, 28), (false, 29), (false, 30), (false, 31), (false, 32), (false, 33), (false, 34), (false, 35), (false, 36), (false, 37), (false, 38), (false, 39), (false, 40), (false, 41), (false, 42), (false, 43), (false, 44), (false, 45), (false, 46), (false, 47), (false, 48), (false, 49), (false, 50), (false, 51), (false, 52), (false, 53), (false, 54), (false, 55), (false, 56)] (by kernel_rfl) (by kernel_rfl) (⟨hk1, b2, b0, b7, b8, b9, b10, m0, m7, m8, m9, m10⟩) ?_
        simp only [planOps, List.map, List.getD_cons_zero, List.getD_cons_succ]
        iterate 57 ((first | refine plan_quiet_guarded (v := ?_) rfl (fun w' hw' => ?_) ?_ | refine plan_calm_guarded (v := ?_) (tt_of) (fun w' hw' => ?_) ?_); rotate_left; (focus (go_simp <;> (first | with_reducible rfl | (rw [if_neg (by simp [undef])]; try rfl)))); simp only [Act.put, List.setIfInBounds_toArray, List.set_cons_zero, List.set_cons_succ])
        refine plan_end ?_
        clear hk1 b2 b0 b7 b8 b9 b10 m0 m7 m8 m9 m10
        go_wp2_with fail
        go_roundg (nl - (k + 1))
        case measure => omega
        case rel => exact ⟨k + 1, by omega, rfl, by have := HK1.out; first | (simp; done) | (simp; omega) | (subst this; rfl), hbd, by rw [HV.out]; exact Lib.hid rfl⟩
      have u9 : ((p9 : Int) == (n9 : Int)) = true := by rw [beq_iff_eq]; omega
      have u9b : (p9 == n9) = true := by simpa using y9
      by_cases y10 : p10 = n10
      rotate_left
      · have u10 : ((p10 : Int) == (n10 : Int)) = false := by
          have : ¬ (p10 : Int) = (n10 : Int) := by omega
          simpa using this
        have u10b : (p10 == n10) = false := by simpa using y10
        have HV := Lib.hid (HST.out.trans (if_neg (fun h => y10 (HKE.out.1 h.2.2).2.2.2.2)))
        clear e0 e2 y0 y7 y8 y9 y10
        refine wp_region_plan (fun W => W.cell? ⟨b, off + k * 10 + 1, none⟩ = some (.int .i64 kd) ∧ W.cell? ⟨gj, 2, none⟩ = some (.int .i64 (p2 : Int)) ∧ W.cell? ⟨gj, 0, none⟩ = some (.int .i64 (p0 : Int)) ∧ W.cell? ⟨gj, 7, none⟩ = some (.int .i64 (p7 : Int)) ∧ W.cell? ⟨gj, 8, none⟩ = some (.int .i64 (p8 : Int)) ∧ W.cell? ⟨gj, 9, none⟩ = some (.int .i64 (p9 : Int)) ∧ W.cell? ⟨gj, 10, none⟩ = some (.int .i64 (p10 : Int)) ∧ W.cell? ⟨gn, 0, none⟩ = some (.int .i64 (n0 : Int)) ∧ W.cell? ⟨gn, 7, none⟩ = some (.int .i64 (n7 : Int)) ∧ W.cell? ⟨gn, 8, none⟩ = some (.int .i64 (n8 : Int)) ∧ W.cell? ⟨gn, 9, none⟩ = some (.int .i64 (n9 : Int)) ∧ W.cell? ⟨gn, 10, none⟩ = some (.int .i64 (n10 : Int))) [(false, 0), (false, 1), (false, 2), (false, 3), (false, 4), (false, 5), (false, 6), (false, 7), (false, 8), (false, 9), (false, 10), (false, 11), (false, 12), (false, 13), (false, 14), (false, 15), (false, 16), (false, 17), (false, 18), (false, 19), (false, 20), (false, 21), (false, 22), (false, 23), (false, 24), (false, 25), (false, 26), (false, 27), (false, 28), (false, 29), (false, 30), (false, 31), (false, 32), (false, 33), (false, 34), (false, 35), (false, 36), (false, 37), (false, 38), (false, 39), (false, 40), (false, 41), (false, 42), (false, 43), (false, 44), (false, 45), (false, 46), (false, 47), (false, 48), (false, 49), (false, 50), (false, 51), (false, 52), (false, 53), (false, 54), (false, 55), (false, 56)] (by kernel_rfl) (by kernel_rfl) (⟨hk1, b2, b0, b7, b8, b9, b10, m0, m7, m8, m9, m10⟩) ?_
        simp only [planOps, List.map, List.getD_cons_zero, List.getD_cons_succ]
        iterate 57 ((first | refine plan_quiet_guarded (v := ?_) rfl (fun w' hw' => ?_) ?_ | refine plan_calm_guarded (v := ?_) (tt_of) (fun w' hw' => ?_) ?_); rotate_left; (focus (go_simp <;> (first | with_reducible rfl | (rw [if_neg (by simp [undef])]; try rfl)))); simp only [Act.put, List.setIfInBounds_toArray, List.set_cons_zero, List.set_cons_succ])
        refine plan_end ?_
        clear hk1 b2 b0 b7 b8 b9 b10 m0 m7 m8 m9 m10
        go_wp2_with fail
        go_roundg (nl - (k + 1))
        case measure => omega
        case rel => exact ⟨k + 1, by omega, rfl, by have := HK1.out; first | (simp; done) | (simp; omega) | (subst this; rfl), hbd, by rw [HV.out]; exact Lib.hid rfl⟩
      have u10 : ((p10 : Int) == (n10 : Int)) = true := by rw [beq_iff_eq]; omega
      have u10b : (p10 == n10) = true := by simpa using y10
      have HV := Lib.hid (HST.out.trans (if_pos ⟨e0, e2, HKE.out.2 ⟨y0, y7, y8, y9, y10⟩⟩))
      clear e0 e2 y0 y7 y8 y9 y10
      refine wp_region_plan (fun W => W.cell? ⟨b, off + k * 10 + 1, none⟩ = some (.int .i64 kd) ∧ W.cell? ⟨gj, 2, none⟩ = some (.int .i64 (p2 : Int)) ∧ W.cell? ⟨gj, 0, none⟩ = some (.int .i64 (p0 : Int)) ∧ W.cell? ⟨gj, 7, none⟩ = some (.int .i64 (p7 : Int)) ∧ W.cell? ⟨gj, 8, none⟩ = some (.int .i64 (p8 : Int)) ∧ W.cell? ⟨gj, 9, none⟩ = some (.int .i64 (p9 : Int)) ∧ W.cell? ⟨gj, 10, none⟩ = some (.int .i64 (p10 : Int)) ∧ W.cell? ⟨gn, 0, none⟩ = some (.int .i64 (n0 : Int)) ∧ W.cell? ⟨gn, 7, none⟩ = some (.int .i64 (n7 : Int)) ∧ W.cell? ⟨gn, 8, none⟩ = some (.int .i64 (n8 : Int)) ∧ W.cell? ⟨gn, 9, none⟩ = some (.int .i64 (n9 : Int)) ∧ W.cell? ⟨gn, 10, none⟩ = some (.int .i64 (n10 : Int))) [(false, 0), (false, 1), (false, 2), (false, 3), (false, 4), (false, 5), (false, 6), (false, 7), (false, 8), (false, 9), (false, 10), (false, 11), (false, 12), (false, 13), (false, 14), (false, 15), (false, 16), (false, 17), (false, 18), (false, 19), (false, 20), (false, 21), (false, 22), (false, 23), (false, 24), (false, 25), (false, 26), (false, 27), (false, 28), (false, 29), (false, 30), (false, 31), (false, 32), (false, 33), (false, 34), (false, 35), (false, 36), (false, 37), (false, 38), (false, 39), (false, 40), (false, 41), (false, 42), (false, 43), (false, 44), (false, 45), (false, 46), (false, 47), (false, 48), (false, 49), (false, 50), (false, 51), (false, 52), (false, 53), (false, 54), (false, 55), (false, 56)] (by kernel_rfl) (by kernel_rfl) (⟨hk1, b2, b0, b7, b8, b9, b10, m0, m7, m8, m9, m10⟩) ?_
      simp only [planOps, List.map, List.getD_cons_zero, List.getD_cons_succ]
      iterate 57 ((first | refine plan_quiet_guarded (v := ?_) rfl (fun w' hw' => ?_) ?_ | refine plan_calm_guarded (v := ?_) (tt_of) (fun w' hw' => ?_) ?_); rotate_left; (focus (go_simp <;> (first | with_reducible rfl | (rw [if_neg (by simp [undef])]; try rfl)))); simp only [Act.put, List.setIfInBounds_toArray, List.set_cons_zero, List.set_cons_succ])
      refine plan_end ?_
      clear hk1 b2 b0 b7 b8 b9 b10 m0 m7 m8 m9 m10
      go_wp2_with fail
      go_ret
      exact ⟨by rw [HV.out]; rfl, hbd⟩
    · have hke : nl ≤ k := by omega
      have HV := Lib.hid (HE.out.trans (frs_end (keyG ns) heads L k (by rw [hlen, HNL.out]; exact hke)))
      have tk : decide ((k : Int) < (nl : Int)) = false := decide_eq_false (by omega)
      have tkb : decide (k < nl) = false := decide_eq_false (by omega)
      clear HE
      go_wp2_with fail
      go_ret
      exact ⟨by rw [HV.out]; rfl, hb⟩
end Go.Proofs.YtolknddegfcmpaaDoor

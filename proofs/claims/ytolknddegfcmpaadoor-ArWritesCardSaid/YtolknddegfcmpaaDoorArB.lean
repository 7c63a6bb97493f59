/- The walks of ar.Check, the program's and the document's. -/
import Derived.Test.YtolknddegfcmpaaDoorArA
import Derived.Test.YtolknddegfcmpaaDoorShelfT
namespace Go.Proofs.YtolknddegfcmpaaDoor
open Go.RowKit
theorem any3 (s : List UInt8) : (s.any fun c => [47, 0, 10].contains c) = (s.contains 47 || (s.contains 0 || s.contains 10)) := by
  rw [Bool.eq_iff_iff]
  simp only [List.any_eq_true, Bool.or_eq_true, List.contains_iff_mem, List.mem_cons, List.not_mem_nil, or_false]
  constructor
  · rintro ⟨x, hx, rfl | rfl | rfl⟩
    · exact .inl hx
    · exact .inr (.inl hx)
    · exact .inr (.inr hx)
  · rintro (h | h | h)
    · exact ⟨_, h, .inl rfl⟩
    · exact ⟨_, h, .inr (.inl rfl)⟩
    · exact ⟨_, h, .inr (.inr rfl)⟩
set_option maxRecDepth 20000 in
set_option maxHeartbeats 8000000 in
theorem icheck_any (e : It) (A : Option Addr) (cap : Nat) (w : World) (hn : e.name.length ≤ 1000000000) :
    Calls Tryd.prog 21 #[itV e (.slice A e.data.length cap)] w fun r w' => r = .returned (.int .i64 (chkI e)) ∧ Below w.heap.size w w' := by
  obtain ⟨name, mtime, uid, gid, mode, data⟩ := e
  have HC : Hid (chkI ⟨name, mtime, uid, gid, mode, data⟩ = if nmBad name = true then 10 else if nuBad ⟨name, mtime, uid, gid, mode, data⟩ = true then 1 else if 1048576 < data.length then 4 else 0) := Lib.hid rfl
  have HB : Hid (nmBad name = (decide (name.length < 1) || (decide (200 < name.length) || (name.contains 47 || (name.contains 0 || (name.contains 10 || (decide (name[0]? = some 32) || decide (name[name.length - 1]? = some 32)))))))) := Lib.hid rfl
  have HN : Hid (nuBad ⟨name, mtime, uid, gid, mode, data⟩ = (decide (mtime < 0) || (decide (8589934591 < mtime) || (decide (uid < 0) || (decide (999999 < uid) || (decide (gid < 0) || (decide (999999 < gid) || (decide (mode < 0) || decide (4095 < mode))))))))) := Lib.hid rfl
  obtain ⟨R, HR⟩ : ∃ R, Hid (chkI ⟨name, mtime, uid, gid, mode, data⟩ = R) := ⟨_, Lib.hid rfl⟩
  obtain ⟨B1, HB1⟩ : ∃ R, Hid (nmBad name = R) := ⟨_, Lib.hid rfl⟩
  obtain ⟨B2, HB2⟩ : ∃ R, Hid (nuBad ⟨name, mtime, uid, gid, mode, data⟩ = R) := ⟨_, Lib.hid rfl⟩
  rw [HB1.out] at HB HC
  rw [HB2.out] at HN HC
  rw [HR.out] at HC ⊢
  simp only [itV]
  simp only at hn
  have hns := bs_size name
  go_enter Tryd.func21, Tryd.ntmps21
  go_upto_region 1 with fail
  have bE := Blk.new w 46 #[.string (bs name), .int .i64 mtime, .int .i64 uid, .int .i64 gid, .int .i64 mode, .slice A data.length cap]
  have hq := (Below.refl w.heap.size w).alloc (Nat.le_refl _) (.cells #[.string (bs name), .int .i64 mtime, .int .i64 uid, .int .i64 gid, .int .i64 mode, .slice A data.length cap] 46)
  generalize w.alloc (.cells #[.string (bs name), .int .i64 mtime, .int .i64 uid, .int .i64 gid, .int .i64 mode, .slice A data.length cap] 46) = W at bE hq ⊢
  generalize hg : w.heap.size = g at bE ⊢
  have d0 := bE.cell 0
  have d1 := bE.cell 1
  have d2 := bE.cell 2
  have d3 := bE.cell 3
  have d4 := bE.cell 4
  have d5 := bE.cell 5
  simp at d0 d1 d2 d3 d4 d5
  have hqf := hq
  have bad : B1 = true → R = 10 := fun h => by rw [HC.out, if_pos h]
  have HBAD := Lib.hid bad
  clear bad
  obtain ⟨nn, HNN⟩ : ∃ n, Hid (name.length = n) := ⟨_, Lib.hid rfl⟩
  rw [HNN.out] at hns HB hn
  by_cases h1 : nn < 1
  · have t1 : decide ((nn : Int) < 1) = true := decide_eq_true (by omega)
    have HV := Lib.hid (HBAD.out (by rw [HB.out, decide_eq_true h1]; rfl))
    clear h1 HB HC HN HBAD bE hq
    go_wp2_with fail
    go_ret
    exact ⟨by rw [HV.out]; rfl, hqf⟩
  have t1 : decide ((nn : Int) < 1) = false := decide_eq_false (by omega)
  by_cases h2 : 200 < nn
  · have t2 : decide ((200 : Int) < (nn : Int)) = true := decide_eq_true (by omega)
    have t2b : decide (200 < nn) = true := decide_eq_true h2
    have HV := Lib.hid (HBAD.out (by rw [HB.out, decide_eq_true h2]; simp))
    clear h1 h2 HB HC HN HBAD bE hq
    go_wp2_with fail
    go_ret
    exact ⟨by rw [HV.out]; rfl, hqf⟩
  have t2 : decide ((200 : Int) < (nn : Int)) = false := decide_eq_false (by omega)
  have t2b : decide (200 < nn) = false := decide_eq_false h2
  have HB3 := Lib.hid (HB.out.trans (by rw [decide_eq_false h1, decide_eq_false h2, Bool.false_or, Bool.false_or]))
  clear HB
  have hca := cany_any name ⟨#[47, 0, 10]⟩ [47, 0, 10] rfl W (by rw [HNN.out]; exact hn) (by decide) (by decide) (by decide)
  have HA3 : Hid ((name.any fun c => [47, 0, 10].contains c) = (name.contains 47 || (name.contains 0 || name.contains 10))) := Lib.hid (any3 name)
  cases hcb : (name.any fun c => [47, 0, 10].contains c) with
  | true =>
    rw [hcb] at hca HA3
    have HV := Lib.hid (HBAD.out (by
      rw [HB3.out]
      have := HA3.out
      cases q1 : name.contains 47 with
      | true => rfl
      | false =>
        cases q2 : name.contains 0 with
        | true => rfl
        | false =>
          have h3 : name.contains 10 = true := by rw [q1, q2] at this; simpa using this.symm
          rw [h3]; rfl))
    clear h1 h2 HB3 HC HN HBAD bE hq HA3 hcb
    go_wp2_with (go_at_call 45; refine hca.mono ?_; rintro e W2 ⟨rfl, hb2⟩; clear hca)
    go_ret
    exact ⟨by rw [HV.out]; rfl, hqf.trans (hb2.mono hqf.size)⟩
  | false =>
    rw [hcb] at hca HA3
    have q1 : name.contains 47 = false := by cases q : name.contains 47 with | false => rfl | true => have := HA3.out; rw [q] at this; cases this
    have q2 : name.contains 0 = false := by cases q : name.contains 0 with | false => rfl | true => have := HA3.out; rw [q1, q] at this; cases this
    have q3 : name.contains 10 = false := by cases q : name.contains 10 with | false => rfl | true => have := HA3.out; rw [q1, q2, q] at this; cases this
    have HB4 := Lib.hid (HB3.out.trans (by rw [q1, q2, q3, Bool.false_or, Bool.false_or, Bool.false_or]))
    have hne : name ≠ [] := fun h => h1 (by rw [← HNN.out, h]; decide)
    have htb := trimB_same name hne
    clear h1 h2 HB3 HA3 hcb q1 q2 q3
    go_upto_region 3 with (go_at_call 45; refine hca.mono ?_; rintro e W2 ⟨rfl, hb2⟩; clear hca)
    have bE2 := bE.below hb2 bE.lt
    have hq2 := hqf.trans (hb2.mono hqf.size)
    clear bE hqf hb2 hq d0 d1 d2 d3 d4 d5
    have d0 := bE2.cell 0
    simp at d0
    have htr := Tryd.strings_Trim_one (bs name) 32 (by decide) W2.drew (by rw [bs_size, HNN.out]; omega)
    have htb2 : (Lib.trimB (bs name).data.toList 32) = Lib.trimB name 32 := rfl
    rw [htb2] at htr
    obtain ⟨tn, HTN⟩ : ∃ x, Hid (Lib.trimB name 32 = x) := ⟨_, Lib.hid rfl⟩
    rw [HTN.out] at htr htb
    have htr2 : Calls Tryd.prog 46 #[.string (bs name), .string ⟨#[32]⟩] W2.drew fun e w' => e = .returned (.string (bs tn)) ∧ (w' = W2.drew ∨ w' = W2.drew.drew) := htr
    clear htr htb2
    by_cases hts : tn = name
    rotate_left
    · have ts : ((bs tn).toList == (bs name).toList) = false := by
        rw [toList_bs, toList_bs]
        simpa using hts
      have ts2 : (tn == name) = false := by simpa using hts
      have HV := Lib.hid (HBAD.out (by
        rw [HB4.out]
        cases hx : (decide (name[0]? = some 32) || decide (name[nn - 1]? = some 32)) with
        | true => rfl
        | false =>
          rw [Bool.or_eq_false_iff, decide_eq_false_iff_not, decide_eq_false_iff_not] at hx
          rw [HNN.out] at htb
          exact absurd (htb.2 hx) hts))
      clear hts HB4 HC HN HBAD htb HTN
      refine wp_region_plan (fun W => W.cell? ⟨g, 0, none⟩ = some (.string (bs name))) [(false, 0), (false, 1), (false, 3), (false, 4), (true, 2), (false, 5), (false, 6)] (by kernel_rfl) (by kernel_rfl) (d0) ?_
      simp only [planOps, List.map, List.getD_cons_zero, List.getD_cons_succ]
      iterate 4 ((first | refine plan_quiet (v := ?_) rfl rfl (fun w' hw' => ?_) ?_ | refine plan_calm (v := ?_) (tt_of) rfl (fun w' hw' => ?_) ?_); rotate_left; (focus (go_simp <;> (first | with_reducible rfl | (rw [if_neg (by simp [undef])]; try rfl) | omega))); simp only [Act.put, List.setIfInBounds_toArray, List.set_cons_zero, List.set_cons_succ])
      refine plan_loud rfl (fun K hK => ?_)
      go_simp
      refine htr2.mono ?_
      rintro e W5 ⟨rfl, hor⟩
      have hb5 : Below W2.heap.size W2 W5 := by
        rcases hor with rfl | rfl
        · exact (Below.refl _ W2).drew
        · exact ((Below.refl _ W2).drew).drew
      have bE5 := bE2.below hb5 bE2.lt
      have hq5 := hq2.trans (hb5.mono hq2.size)
      have d0 := bE5.cell 0
      have d1 := bE5.cell 1
      have d2 := bE5.cell 2
      have d3 := bE5.cell 3
      have d4 := bE5.cell 4
      have d5 := bE5.cell 5
      simp at d0 d1 d2 d3 d4 d5
      clear hor htr2 hb5 bE2 hq2
      refine hK _ _ (d0) ?_
      clear hK K
      (try simp only [Act.put, List.setIfInBounds_toArray, List.set_cons_zero, List.set_cons_succ])
      iterate 2 ((first | refine plan_quiet (v := ?_) rfl rfl (fun w' hw' => ?_) ?_ | refine plan_calm (v := ?_) (tt_of) rfl (fun w' hw' => ?_) ?_); rotate_left; (focus (go_simp <;> (first | with_reducible rfl | (rw [if_neg (by simp [undef])]; try rfl) | omega))); simp only [Act.put, List.setIfInBounds_toArray, List.set_cons_zero, List.set_cons_succ])
      refine plan_end ?_
      clear bE5
      go_wp2_with fail
      go_ret
      exact ⟨by rw [HV.out]; rfl, by first | exact hq5 | (rw [← hg]; exact hq5)⟩
    have ts : ((bs tn).toList == (bs name).toList) = true := by rw [hts]; simp
    have HB5 : Hid (B1 = false) := Lib.hid (by
      rw [HB4.out, Bool.or_eq_false_iff, decide_eq_false_iff_not, decide_eq_false_iff_not]
      rw [HNN.out] at htb
      exact htb.1 hts)
    have ts2 : (tn == name) = true := by simpa using hts
    clear hts
    have HC3 := Lib.hid (HC.out.trans (if_neg (by rw [HB5.out]; simp)))
    have HNUM := Lib.hid (fun (h : B2 = true) => (HC3.out.trans (if_pos h) : R = 1))
    clear HC HB5 HB4 HBAD htb HTN
    have HN0 := HN
    clear HN
    refine wp_region_plan (fun W => W.cell? ⟨g, 0, none⟩ = some (.string (bs name))) [(false, 0), (false, 1), (false, 3), (false, 4), (true, 2), (false, 5), (false, 6)] (by kernel_rfl) (by kernel_rfl) (d0) ?_
    simp only [planOps, List.map, List.getD_cons_zero, List.getD_cons_succ]
    iterate 4 ((first | refine plan_quiet (v := ?_) rfl rfl (fun w' hw' => ?_) ?_ | refine plan_calm (v := ?_) (tt_of) rfl (fun w' hw' => ?_) ?_); rotate_left; (focus (go_simp <;> (first | with_reducible rfl | (rw [if_neg (by simp [undef])]; try rfl) | omega))); simp only [Act.put, List.setIfInBounds_toArray, List.set_cons_zero, List.set_cons_succ])
    refine plan_loud rfl (fun K hK => ?_)
    go_simp
    refine htr2.mono ?_
    rintro e W5 ⟨rfl, hor⟩
    have hb5 : Below W2.heap.size W2 W5 := by
      rcases hor with rfl | rfl
      · exact (Below.refl _ W2).drew
      · exact ((Below.refl _ W2).drew).drew
    have bE5 := bE2.below hb5 bE2.lt
    have hq5 := hq2.trans (hb5.mono hq2.size)
    have d0 := bE5.cell 0
    have d1 := bE5.cell 1
    have d2 := bE5.cell 2
    have d3 := bE5.cell 3
    have d4 := bE5.cell 4
    have d5 := bE5.cell 5
    simp at d0 d1 d2 d3 d4 d5
    clear hor htr2 hb5 bE2 hq2
    refine hK _ _ (d0) ?_
    clear hK K
    (try simp only [Act.put, List.setIfInBounds_toArray, List.set_cons_zero, List.set_cons_succ])
    iterate 2 ((first | refine plan_quiet (v := ?_) rfl rfl (fun w' hw' => ?_) ?_ | refine plan_calm (v := ?_) (tt_of) rfl (fun w' hw' => ?_) ?_); rotate_left; (focus (go_simp <;> (first | with_reducible rfl | (rw [if_neg (by simp [undef])]; try rfl) | omega))); simp only [Act.put, List.setIfInBounds_toArray, List.set_cons_zero, List.set_cons_succ])
    refine plan_end ?_
    by_cases a1 : mtime < 0
    · have u1 : decide (mtime < 0) = true := decide_eq_true a1
      have HV := Lib.hid (HNUM.out (by rw [HN0.out, u1]; rfl))
      clear a1 HNUM HC3 HN0 bE5
      go_wp2_with fail
      go_ret
      exact ⟨by rw [HV.out]; rfl, by first | exact hq5 | (rw [← hg]; exact hq5)⟩
    have u1 : decide (mtime < 0) = false := decide_eq_false a1
    by_cases b1 : 8589934591 < mtime
    · have v1 : decide (8589934591 < mtime) = true := decide_eq_true b1
      have HV := Lib.hid (HNUM.out (by rw [HN0.out, u1, v1]; rfl))
      clear a1 b1 HNUM HC3 HN0 bE5
      go_wp2_with fail
      go_ret
      exact ⟨by rw [HV.out]; rfl, by first | exact hq5 | (rw [← hg]; exact hq5)⟩
    have v1 : decide (8589934591 < mtime) = false := decide_eq_false b1
    have HN1 := Lib.hid (HN0.out.trans (by rw [u1, v1, Bool.false_or, Bool.false_or]))
    clear HN0
    by_cases a2 : uid < 0
    · have u2 : decide (uid < 0) = true := decide_eq_true a2
      have HV := Lib.hid (HNUM.out (by rw [HN1.out, u2]; rfl))
      clear a2 HNUM HC3 HN1 bE5
      go_wp2_with fail
      go_ret
      exact ⟨by rw [HV.out]; rfl, by first | exact hq5 | (rw [← hg]; exact hq5)⟩
    have u2 : decide (uid < 0) = false := decide_eq_false a2
    by_cases b2 : 999999 < uid
    · have v2 : decide (999999 < uid) = true := decide_eq_true b2
      have HV := Lib.hid (HNUM.out (by rw [HN1.out, u2, v2]; rfl))
      clear a2 b2 HNUM HC3 HN1 bE5
      go_wp2_with fail
      go_ret
      exact ⟨by rw [HV.out]; rfl, by first | exact hq5 | (rw [← hg]; exact hq5)⟩
    have v2 : decide (999999 < uid) = false := decide_eq_false b2
    have HN2 := Lib.hid (HN1.out.trans (by rw [u2, v2, Bool.false_or, Bool.false_or]))
    clear HN1
    by_cases a3 : gid < 0
    · have u3 : decide (gid < 0) = true := decide_eq_true a3
      have HV := Lib.hid (HNUM.out (by rw [HN2.out, u3]; rfl))
      clear a3 HNUM HC3 HN2 bE5
      go_wp2_with fail
      go_ret
      exact ⟨by rw [HV.out]; rfl, by first | exact hq5 | (rw [← hg]; exact hq5)⟩
    have u3 : decide (gid < 0) = false := decide_eq_false a3
    by_cases b3 : 999999 < gid
    · have v3 : decide (999999 < gid) = true := decide_eq_true b3
      have HV := Lib.hid (HNUM.out (by rw [HN2.out, u3, v3]; rfl))
      clear a3 b3 HNUM HC3 HN2 bE5
      go_wp2_with fail
      go_ret
      exact ⟨by rw [HV.out]; rfl, by first | exact hq5 | (rw [← hg]; exact hq5)⟩
    have v3 : decide (999999 < gid) = false := decide_eq_false b3
    have HN3 := Lib.hid (HN2.out.trans (by rw [u3, v3, Bool.false_or, Bool.false_or]))
    clear HN2
    by_cases a4 : mode < 0
    · have u4 : decide (mode < 0) = true := decide_eq_true a4
      have HV := Lib.hid (HNUM.out (by rw [HN3.out, u4]; rfl))
      clear a4 HNUM HC3 HN3 bE5
      go_wp2_with fail
      go_ret
      exact ⟨by rw [HV.out]; rfl, by first | exact hq5 | (rw [← hg]; exact hq5)⟩
    have u4 : decide (mode < 0) = false := decide_eq_false a4
    by_cases b4 : 4095 < mode
    · have v4 : decide (4095 < mode) = true := decide_eq_true b4
      have HV := Lib.hid (HNUM.out (by rw [HN3.out, u4, v4]; rfl))
      clear a4 b4 HNUM HC3 HN3 bE5
      go_wp2_with fail
      go_ret
      exact ⟨by rw [HV.out]; rfl, by first | exact hq5 | (rw [← hg]; exact hq5)⟩
    have v4 : decide (4095 < mode) = false := decide_eq_false b4
    have HN4 := Lib.hid (HN3.out.trans (by rw [u4, v4, Bool.false_or]))
    clear HN3
    have HC4 := Lib.hid (HC3.out.trans (if_neg (by rw [HN4.out]; simp)))
    clear HC3 HNUM HN4
    by_cases hd : 1048576 < data.length
    · have td : decide ((1048576 : Int) < (data.length : Int)) = true := decide_eq_true (by omega)
      have tdb : decide (1048576 < data.length) = true := decide_eq_true hd
      have HV := Lib.hid (HC4.out.trans (if_pos hd))
      clear hd HC4 bE5
      go_wp2_with fail
      go_ret
      exact ⟨by rw [HV.out]; rfl, by first | exact hq5 | (rw [← hg]; exact hq5)⟩
    · have td : decide ((1048576 : Int) < (data.length : Int)) = false := decide_eq_false (by omega)
      have tdb : decide (1048576 < data.length) = false := decide_eq_false hd
      have HV := Lib.hid (HC4.out.trans (if_neg hd))
      clear hd HC4 bE5
      go_wp2_with fail
      go_ret
      exact ⟨by rw [HV.out]; rfl, by first | exact hq5 | (rw [← hg]; exact hq5)⟩
end Go.Proofs.YtolknddegfcmpaaDoor

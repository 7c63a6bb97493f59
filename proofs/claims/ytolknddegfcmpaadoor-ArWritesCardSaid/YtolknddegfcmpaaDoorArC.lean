/- The walk of the document's ar Check. Printed by gen_arc.py. -/
import Derived.Test.YtolknddegfcmpaaDoorArA
namespace Go.Proofs.YtolknddegfcmpaaDoor
open Go.RowKit
set_option maxRecDepth 20000 in
set_option maxHeartbeats 8000000 in
theorem richeck_any (e : It) (A : Option Addr) (cap : Nat) (w : World) (hn : e.name.length ≤ 1000000000) :
    Calls Tryd.prog 22 #[itV e (.slice A e.data.length cap)] w fun r w' => r = .returned (.int .i64 (chkI e)) ∧ Below w.heap.size w w' := by
  obtain ⟨name, mtime, uid, gid, mode, data⟩ := e
  have HC : Hid (chkI ⟨name, mtime, uid, gid, mode, data⟩ = if nmBad name = true then 10 else if nuBad ⟨name, mtime, uid, gid, mode, data⟩ = true then 1 else if 1048576 < data.length then 4 else 0) := Lib.hid rfl
  have HB : Hid (nmBad name = (decide (name.length < 1) || (decide (200 < name.length) || (name.contains 47 || (name.contains 0 || (name.contains 10 || (decide (name[0]? = some 32) || decide (name[name.length - 1]? = some 32)))))))) := Lib.hid rfl
  have HN : Hid (nuBad ⟨name, mtime, uid, gid, mode, data⟩ = (decide (mtime < 0) || (decide (8589934591 < mtime) || (decide (uid < 0) || (decide (999999 < uid) || (decide (gid < 0) || (decide (999999 < gid) || (decide (mode < 0) || decide (4095 < mode))))))))) := Lib.hid rfl
  obtain ⟨R, HR⟩ : ∃ R, Hid (chkI ⟨name, mtime, uid, gid, mode, data⟩ = R) := ⟨_, Lib.hid rfl⟩
  obtain ⟨B1, HB1⟩ : ∃ R, Hid (nmBad name = R) := ⟨_, Lib.hid rfl⟩
  obtain ⟨B2, HB2⟩ : ∃ R, Hid (nuBad ⟨name, mtime, uid, gid, mode, data⟩ = R) := ⟨_, Lib.hid rfl⟩
  rw [HB1.out] at HB HC
  rw [HB2.out] at HN HC
  rw [HR.out] at HC ⊢
  simp only [itV]
  simp only at hn
  have hns := bs_size name
  have h47 : ∀ W, Calls Tryd.prog 42 #[.string (bs name), .int .u8 47] W fun e w' => e = .returned (.bool (name.contains 47)) ∧ W = w' := fun W => has_any name 47 W hn
  have h0 : ∀ W, Calls Tryd.prog 42 #[.string (bs name), .int .u8 0] W fun e w' => e = .returned (.bool (name.contains 0)) ∧ W = w' := fun W => has_any name 0 W hn
  have h10 : ∀ W, Calls Tryd.prog 42 #[.string (bs name), .int .u8 10] W fun e w' => e = .returned (.bool (name.contains 10)) ∧ W = w' := fun W => has_any name 10 W hn
  obtain ⟨nn, HNN⟩ : ∃ n, Hid (name.length = n) := ⟨_, Lib.hid rfl⟩
  rw [HNN.out] at hns HB hn
  go_enter Tryd.func22, Tryd.ntmps22
  go_upto_region 2 with fail
  have bE := Blk.new w 46 #[.string (bs name), .int .i64 mtime, .int .i64 uid, .int .i64 gid, .int .i64 mode, .slice A data.length cap]
  have hq := (Below.refl w.heap.size w).alloc (Nat.le_refl _) (.cells #[.string (bs name), .int .i64 mtime, .int .i64 uid, .int .i64 gid, .int .i64 mode, .slice A data.length cap] 46)
  generalize w.alloc (.cells #[.string (bs name), .int .i64 mtime, .int .i64 uid, .int .i64 gid, .int .i64 mode, .slice A data.length cap] 46) = W at bE hq ⊢
  generalize hg : w.heap.size = g at bE ⊢
  have d0 := bE.cell 0
  have d1 := bE.cell 1
  have d2 := bE.cell 2
  have d3 := bE.cell 3
  have d4 := bE.cell 4
  have d5 := bE.cell 5
  simp at d0 d1 d2 d3 d4 d5
  clear bE
  have HBAD := Lib.hid (fun (h : B1 = true) => (HC.out.trans (if_pos h) : R = 10))
  by_cases h1 : nn < 1
  · have t1 : decide ((nn : Int) < 1) = true := decide_eq_true (by omega)
    have HV := Lib.hid (HBAD.out (by rw [HB.out, decide_eq_true h1]; rfl))
    clear h1 HB HC HN HBAD h47 h0 h10
    go_wp2_with fail
    go_ret
    exact ⟨by rw [HV.out]; rfl, by first | exact hq | (rw [← hg]; exact hq)⟩
  have t1 : decide ((nn : Int) < 1) = false := decide_eq_false (by omega)
  by_cases h2 : 200 < nn
  · have t2 : decide ((200 : Int) < (nn : Int)) = true := decide_eq_true (by omega)
    have t2b : decide (200 < nn) = true := decide_eq_true h2
    have HV := Lib.hid (HBAD.out (by rw [HB.out, decide_eq_true h2]; simp))
    clear h1 h2 HB HC HN HBAD h47 h0 h10
    go_wp2_with fail
    go_ret
    exact ⟨by rw [HV.out]; rfl, by first | exact hq | (rw [← hg]; exact hq)⟩
  have t2 : decide ((200 : Int) < (nn : Int)) = false := decide_eq_false (by omega)
  have t2b : decide (200 < nn) = false := decide_eq_false h2
  have HB3 := Lib.hid (HB.out.trans (by rw [decide_eq_false h1, decide_eq_false h2, Bool.false_or, Bool.false_or]))
  clear HB
  have k1 : (0 : Int) < (nn : Int) := by omega
  have k2 : 0 < nn := by omega
  have hl0 : 0 < name.length := by rw [HNN.out]; exact k2
  have k3 : 0 < (bs name).size := by rw [bs_size]; exact hl0
  obtain ⟨n1, HN1⟩ : ∃ x, Hid (x + 1 = nn) := ⟨nn - 1, Lib.hid (by omega)⟩
  have wn1 : IntKind.i64.wrap ((nn : Int) - 1) = (n1 : Int) := by have := HN1.out; rw [i64_in _ (by omega) (by omega)]; omega
  have k4 : (n1 : Int) < (nn : Int) := by have := HN1.out; omega
  have k5 : n1 < nn := by have := HN1.out; omega
  have k6 : (0 : Int) ≤ (n1 : Int) := by omega
  have hl1 : n1 < name.length := by rw [HNN.out]; exact k5
  have k7 : n1 < (bs name).size := by rw [bs_size]; exact hl1
  obtain ⟨ya, Hya⟩ : ∃ y, Hid (y = name[0]'hl0) := ⟨_, Lib.hid rfl⟩
  obtain ⟨yb, Hyb⟩ : ∃ y, Hid (y = name[n1]'hl1) := ⟨_, Lib.hid rfl⟩
  have hba : (bs name)[0]'k3 = ya := Hya.out.symm
  have hbb : (bs name)[n1]'k7 = yb := Hyb.out.symm
  have HB4 := Lib.hid (HB3.out.trans (by rw [show name[0]? = some ya by rw [List.getElem?_eq_getElem hl0, Hya.out], show name[nn - 1]? = some yb by rw [show nn - 1 = n1 by have := HN1.out; omega, List.getElem?_eq_getElem hl1, Hyb.out]]) : B1 = (name.contains 47 || (name.contains 0 || (name.contains 10 || (decide (some ya = some (32 : UInt8)) || decide (some yb = some (32 : UInt8)))))))
  clear HB3 Hya Hyb h1 h2
  obtain ⟨na, HNA⟩ : ∃ n, Hid (ya.toNat = n) := ⟨_, Lib.hid rfl⟩
  obtain ⟨nb, HNB⟩ : ∃ n, Hid (yb.toNat = n) := ⟨_, Lib.hid rfl⟩
  have hna : ya.toNat = na := HNA.out
  have hnb : yb.toNat = nb := HNB.out
  have HEA : Hid (decide (some ya = some (32 : UInt8)) = ((na : Int) == 32)) := Lib.hid (by
    rw [← HNA.out, Bool.eq_iff_iff, decide_eq_true_iff, beq_iff_eq]
    constructor
    · intro h; injection h with h; rw [h]; rfl
    · intro h; congr 1; exact UInt8.toNat_inj.1 (by have : (32 : UInt8).toNat = 32 := rfl; omega))
  have HEB : Hid (decide (some yb = some (32 : UInt8)) = ((nb : Int) == 32)) := Lib.hid (by
    rw [← HNB.out, Bool.eq_iff_iff, decide_eq_true_iff, beq_iff_eq]
    constructor
    · intro h; injection h with h; rw [h]; rfl
    · intro h; congr 1; exact UInt8.toNat_inj.1 (by have : (32 : UInt8).toNat = 32 := rfl; omega))
  rw [HEA.out, HEB.out] at HB4
  clear HEA HEB HNA HNB
  cases q47 : name.contains 47 with
  | true =>
    rw [q47] at h47
    have HV := Lib.hid (HBAD.out (by rw [HB4.out, q47]; simp))
    clear HB4 HC HN HBAD
    go_wp2_with (first | (go_at_call 42; with_reducible refine (h47 _).mono ?_; rintro e w2 ⟨rfl, rfl⟩))
    go_ret
    exact ⟨by rw [HV.out]; rfl, by first | exact hq | (rw [← hg]; exact hq)⟩
  | false =>
  rw [q47] at h47
  cases q0 : name.contains 0 with
  | true =>
    rw [q0] at h0
    have HV := Lib.hid (HBAD.out (by rw [HB4.out, q47, q0]; simp))
    clear HB4 HC HN HBAD
    go_wp2_with (first | (go_at_call 42; with_reducible refine (h47 _).mono ?_; rintro e w2 ⟨rfl, rfl⟩) | (go_at_call 42; with_reducible refine (h0 _).mono ?_; rintro e w2 ⟨rfl, rfl⟩))
    go_ret
    exact ⟨by rw [HV.out]; rfl, by first | exact hq | (rw [← hg]; exact hq)⟩
  | false =>
  rw [q0] at h0
  cases q10 : name.contains 10 with
  | true =>
    rw [q10] at h10
    have HV := Lib.hid (HBAD.out (by rw [HB4.out, q47, q0, q10]; simp))
    clear HB4 HC HN HBAD
    go_wp2_with (first | (go_at_call 42; with_reducible refine (h47 _).mono ?_; rintro e w2 ⟨rfl, rfl⟩) | (go_at_call 42; with_reducible refine (h0 _).mono ?_; rintro e w2 ⟨rfl, rfl⟩) | (go_at_call 42; with_reducible refine (h10 _).mono ?_; rintro e w2 ⟨rfl, rfl⟩))
    go_ret
    exact ⟨by rw [HV.out]; rfl, by first | exact hq | (rw [← hg]; exact hq)⟩
  | false =>
  rw [q10] at h10
  have HB5 := Lib.hid (HB4.out.trans (by rw [q47, q0, q10, Bool.false_or, Bool.false_or, Bool.false_or]))
  clear HB4
  cases e1 : ((na : Int) == 32) with
  | true =>
    have HV := Lib.hid (HBAD.out (by rw [HB5.out, e1]; simp))
    have e1b : (na == 32) = true := by
      have h := eq_of_beq e1
      rw [beq_iff_eq]; omega
    clear HB5 HC HN HBAD
    go_wp2_with (first | (go_at_call 42; with_reducible refine (h47 _).mono ?_; rintro e w2 ⟨rfl, rfl⟩) | (go_at_call 42; with_reducible refine (h0 _).mono ?_; rintro e w2 ⟨rfl, rfl⟩) | (go_at_call 42; with_reducible refine (h10 _).mono ?_; rintro e w2 ⟨rfl, rfl⟩))
    go_ret
    exact ⟨by rw [HV.out]; rfl, by first | exact hq | (rw [← hg]; exact hq)⟩
  | false =>
  cases e2 : ((nb : Int) == 32) with
  | true =>
    have HV := Lib.hid (HBAD.out (by rw [HB5.out, e1, e2]; simp))
    have e2b : (nb == 32) = true := by
      have h := eq_of_beq e2
      rw [beq_iff_eq]; omega
    clear HB5 HC HN HBAD
    go_wp2_with (first | (go_at_call 42; with_reducible refine (h47 _).mono ?_; rintro e w2 ⟨rfl, rfl⟩) | (go_at_call 42; with_reducible refine (h0 _).mono ?_; rintro e w2 ⟨rfl, rfl⟩) | (go_at_call 42; with_reducible refine (h10 _).mono ?_; rintro e w2 ⟨rfl, rfl⟩))
    go_ret
    exact ⟨by rw [HV.out]; rfl, by first | exact hq | (rw [← hg]; exact hq)⟩
  | false =>
  have HB6 : Hid (B1 = false) := Lib.hid (by rw [HB5.out, e1, e2]; rfl)
  have HC3 := Lib.hid (HC.out.trans (if_neg (by rw [HB6.out]; simp)))
  have HNUM := Lib.hid (fun (h : B2 = true) => (HC3.out.trans (if_pos h) : R = 1))
  clear HC HB5 HB6 HBAD
  have HN0 := HN
  clear HN
  by_cases a1 : mtime < 0
  · have u1 : decide (mtime < 0) = true := decide_eq_true a1
    have HV := Lib.hid (HNUM.out (by rw [HN0.out, u1]; rfl))
    clear a1 HNUM HC3 HN0
    go_wp2_with (first | (go_at_call 42; with_reducible refine (h47 _).mono ?_; rintro e w2 ⟨rfl, rfl⟩) | (go_at_call 42; with_reducible refine (h0 _).mono ?_; rintro e w2 ⟨rfl, rfl⟩) | (go_at_call 42; with_reducible refine (h10 _).mono ?_; rintro e w2 ⟨rfl, rfl⟩))
    go_ret
    exact ⟨by rw [HV.out]; rfl, by first | exact hq | (rw [← hg]; exact hq)⟩
  have u1 : decide (mtime < 0) = false := decide_eq_false a1
  by_cases b1 : 8589934591 < mtime
  · have v1 : decide (8589934591 < mtime) = true := decide_eq_true b1
    have HV := Lib.hid (HNUM.out (by rw [HN0.out, u1, v1]; rfl))
    clear a1 b1 HNUM HC3 HN0
    go_wp2_with (first | (go_at_call 42; with_reducible refine (h47 _).mono ?_; rintro e w2 ⟨rfl, rfl⟩) | (go_at_call 42; with_reducible refine (h0 _).mono ?_; rintro e w2 ⟨rfl, rfl⟩) | (go_at_call 42; with_reducible refine (h10 _).mono ?_; rintro e w2 ⟨rfl, rfl⟩))
    go_ret
    exact ⟨by rw [HV.out]; rfl, by first | exact hq | (rw [← hg]; exact hq)⟩
  have v1 : decide (8589934591 < mtime) = false := decide_eq_false b1
  have HN1_ := Lib.hid (HN0.out.trans (by rw [u1, v1, Bool.false_or, Bool.false_or]))
  clear HN0
  by_cases a2 : uid < 0
  · have u2 : decide (uid < 0) = true := decide_eq_true a2
    have HV := Lib.hid (HNUM.out (by rw [HN1_.out, u2]; rfl))
    clear a2 HNUM HC3 HN1_
    go_wp2_with (first | (go_at_call 42; with_reducible refine (h47 _).mono ?_; rintro e w2 ⟨rfl, rfl⟩) | (go_at_call 42; with_reducible refine (h0 _).mono ?_; rintro e w2 ⟨rfl, rfl⟩) | (go_at_call 42; with_reducible refine (h10 _).mono ?_; rintro e w2 ⟨rfl, rfl⟩))
    go_ret
    exact ⟨by rw [HV.out]; rfl, by first | exact hq | (rw [← hg]; exact hq)⟩
  have u2 : decide (uid < 0) = false := decide_eq_false a2
  by_cases b2 : 999999 < uid
  · have v2 : decide (999999 < uid) = true := decide_eq_true b2
    have HV := Lib.hid (HNUM.out (by rw [HN1_.out, u2, v2]; rfl))
    clear a2 b2 HNUM HC3 HN1_
    go_wp2_with (first | (go_at_call 42; with_reducible refine (h47 _).mono ?_; rintro e w2 ⟨rfl, rfl⟩) | (go_at_call 42; with_reducible refine (h0 _).mono ?_; rintro e w2 ⟨rfl, rfl⟩) | (go_at_call 42; with_reducible refine (h10 _).mono ?_; rintro e w2 ⟨rfl, rfl⟩))
    go_ret
    exact ⟨by rw [HV.out]; rfl, by first | exact hq | (rw [← hg]; exact hq)⟩
  have v2 : decide (999999 < uid) = false := decide_eq_false b2
  have HN2_ := Lib.hid (HN1_.out.trans (by rw [u2, v2, Bool.false_or, Bool.false_or]))
  clear HN1_
  by_cases a3 : gid < 0
  · have u3 : decide (gid < 0) = true := decide_eq_true a3
    have HV := Lib.hid (HNUM.out (by rw [HN2_.out, u3]; rfl))
    clear a3 HNUM HC3 HN2_
    go_wp2_with (first | (go_at_call 42; with_reducible refine (h47 _).mono ?_; rintro e w2 ⟨rfl, rfl⟩) | (go_at_call 42; with_reducible refine (h0 _).mono ?_; rintro e w2 ⟨rfl, rfl⟩) | (go_at_call 42; with_reducible refine (h10 _).mono ?_; rintro e w2 ⟨rfl, rfl⟩))
    go_ret
    exact ⟨by rw [HV.out]; rfl, by first | exact hq | (rw [← hg]; exact hq)⟩
  have u3 : decide (gid < 0) = false := decide_eq_false a3
  by_cases b3 : 999999 < gid
  · have v3 : decide (999999 < gid) = true := decide_eq_true b3
    have HV := Lib.hid (HNUM.out (by rw [HN2_.out, u3, v3]; rfl))
    clear a3 b3 HNUM HC3 HN2_
    go_wp2_with (first | (go_at_call 42; with_reducible refine (h47 _).mono ?_; rintro e w2 ⟨rfl, rfl⟩) | (go_at_call 42; with_reducible refine (h0 _).mono ?_; rintro e w2 ⟨rfl, rfl⟩) | (go_at_call 42; with_reducible refine (h10 _).mono ?_; rintro e w2 ⟨rfl, rfl⟩))
    go_ret
    exact ⟨by rw [HV.out]; rfl, by first | exact hq | (rw [← hg]; exact hq)⟩
  have v3 : decide (999999 < gid) = false := decide_eq_false b3
  have HN3_ := Lib.hid (HN2_.out.trans (by rw [u3, v3, Bool.false_or, Bool.false_or]))
  clear HN2_
  by_cases a4 : mode < 0
  · have u4 : decide (mode < 0) = true := decide_eq_true a4
    have HV := Lib.hid (HNUM.out (by rw [HN3_.out, u4]; rfl))
    clear a4 HNUM HC3 HN3_
    go_wp2_with (first | (go_at_call 42; with_reducible refine (h47 _).mono ?_; rintro e w2 ⟨rfl, rfl⟩) | (go_at_call 42; with_reducible refine (h0 _).mono ?_; rintro e w2 ⟨rfl, rfl⟩) | (go_at_call 42; with_reducible refine (h10 _).mono ?_; rintro e w2 ⟨rfl, rfl⟩))
    go_ret
    exact ⟨by rw [HV.out]; rfl, by first | exact hq | (rw [← hg]; exact hq)⟩
  have u4 : decide (mode < 0) = false := decide_eq_false a4
  by_cases b4 : 4095 < mode
  · have v4 : decide (4095 < mode) = true := decide_eq_true b4
    have HV := Lib.hid (HNUM.out (by rw [HN3_.out, u4, v4]; rfl))
    clear a4 b4 HNUM HC3 HN3_
    go_wp2_with (first | (go_at_call 42; with_reducible refine (h47 _).mono ?_; rintro e w2 ⟨rfl, rfl⟩) | (go_at_call 42; with_reducible refine (h0 _).mono ?_; rintro e w2 ⟨rfl, rfl⟩) | (go_at_call 42; with_reducible refine (h10 _).mono ?_; rintro e w2 ⟨rfl, rfl⟩))
    go_ret
    exact ⟨by rw [HV.out]; rfl, by first | exact hq | (rw [← hg]; exact hq)⟩
  have v4 : decide (4095 < mode) = false := decide_eq_false b4
  have HN4_ := Lib.hid (HN3_.out.trans (by rw [u4, v4, Bool.false_or]))
  clear HN3_
  have HC4 := Lib.hid (HC3.out.trans (if_neg (by rw [HN4_.out]; simp)))
  clear HC3 HNUM HN4_
  by_cases hd : 1048576 < data.length
  · have td : decide ((1048576 : Int) < (data.length : Int)) = true := decide_eq_true (by omega)
    have tdb : decide (1048576 < data.length) = true := decide_eq_true hd
    have HV := Lib.hid (HC4.out.trans (if_pos hd))
    clear hd HC4
    go_wp2_with (first | (go_at_call 42; with_reducible refine (h47 _).mono ?_; rintro e w2 ⟨rfl, rfl⟩) | (go_at_call 42; with_reducible refine (h0 _).mono ?_; rintro e w2 ⟨rfl, rfl⟩) | (go_at_call 42; with_reducible refine (h10 _).mono ?_; rintro e w2 ⟨rfl, rfl⟩))
    go_ret
    exact ⟨by rw [HV.out]; rfl, by first | exact hq | (rw [← hg]; exact hq)⟩
  · have td : decide ((1048576 : Int) < (data.length : Int)) = false := decide_eq_false (by omega)
    have tdb : decide (1048576 < data.length) = false := decide_eq_false hd
    have HV := Lib.hid (HC4.out.trans (if_neg hd))
    clear hd HC4
    go_wp2_with (first | (go_at_call 42; with_reducible refine (h47 _).mono ?_; rintro e w2 ⟨rfl, rfl⟩) | (go_at_call 42; with_reducible refine (h0 _).mono ?_; rintro e w2 ⟨rfl, rfl⟩) | (go_at_call 42; with_reducible refine (h10 _).mono ?_; rintro e w2 ⟨rfl, rfl⟩))
    go_ret
    exact ⟨by rw [HV.out]; rfl, by first | exact hq | (rw [← hg]; exact hq)⟩
end Go.Proofs.YtolknddegfcmpaaDoor

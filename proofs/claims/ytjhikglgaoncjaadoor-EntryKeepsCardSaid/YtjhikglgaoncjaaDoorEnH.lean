/- The walks of the document's above, alike, bad and CheckAll. Printed by gen_enbad.py. -/
import Derived.Test.YtjhikglgaoncjaaDoorEnG
namespace Go.Proofs.YtjhikglgaoncjaaDoor
open Go.RowKit
set_option maxRecDepth 20000 in
set_option maxHeartbeats 8000000 in
theorem above_any (a b : List UInt8) (w : World) (ha : a.length ≤ 1000000000) (hb : b.length ≤ 1000000000) :
    Calls Tryd.prog 47 #[.string (bs a), .string (bs b)] w fun e w' => e = .returned (.bool (aboveL a b)) ∧ w = w' := by
  have HX : Hid (aboveL a b = (decide (a.length < b.length) && (decide (b.take a.length = a) && decide (b[a.length]? = some 47)))) := Lib.hid rfl
  generalize aboveL a b = res at HX
  have hz : ((bs a).size : Int) = (a.length : Int) := by rw [bs_size]
  have hz2 : ((bs b).size : Int) = (b.length : Int) := by rw [bs_size]
  go_enter Tryd.func47, Tryd.ntmps47
  by_cases h1 : a.length < b.length
  · have d0 : (bs a).size < (bs b).size := by rw [bs_size, bs_size]; exact h1
    have d1 : decide ((a.length : Int) < (b.length : Int)) = true := by simp; omega
    have i1 : (a.length : Int) ≤ ((bs b).size : Int) := by omega
    have i2 : (a.length : Int) ≤ (b.length : Int) := by omega
    have i3 : a.length ≤ b.length := by omega
    have hext : (bs b).extract 0 a.length = bs (b.take a.length) := by rw [ext_take _ _ (by rw [bs_size]; omega), bs_list]
    have hext2 : (bs b).extract 0 (bs a).size = bs (b.take a.length) := by rw [bs_size]; exact hext
    have hq := beq_bs2 (b.take a.length) a
    have HX := Lib.hid (show res = (decide (b.take a.length = a) && decide (b[a.length]? = some 47)) by rw [HX.out, decide_eq_true h1, Bool.true_and])
    by_cases h2 : b.take a.length = a
    · rw [decide_eq_true h2] at hq
      have hks2 : a.length < (bs b).size := by rw [bs_size]; exact h1
      obtain ⟨c, hc⟩ : ∃ c, c = b[a.length]'h1 := ⟨_, rfl⟩
      have hbb : (bs b)[a.length]'hks2 = c := hc.symm
      have HX := Lib.hid (show res = ((c.toNat : Int) == 47) by
        rw [HX.out, decide_eq_true h2, Bool.true_and, List.getElem?_eq_getElem h1, ← hc, show (47 : Int) = ((47 : UInt8).toNat : Int) from rfl, beq_byte]
        simp)
      have i4 : (0 : Int) ≤ (a.length : Int) := by omega
      have i5 : (a.length : Int) < ((bs b).size : Int) := by omega
      have i6 : (a.length : Int) < (b.length : Int) := by omega
      clear hc h2
      generalize b.take a.length = tk at hext hext2 hq
      go_wp2_with fail
      go_ret
      exact ⟨by rw [HX.out]; rfl, rfl⟩
    · rw [decide_eq_false h2] at hq
      have HV := Lib.hid (show res = false by rw [HX.out, decide_eq_false h2]; rfl)
      clear h2
      generalize b.take a.length = tk at hext hext2 hq
      go_wp2_with fail
      go_ret
      exact ⟨by rw [HV.out]; rfl, rfl⟩
  · have d0 : ¬ (bs a).size < (bs b).size := by rw [bs_size, bs_size]; exact h1
    have d1 : decide ((a.length : Int) < (b.length : Int)) = false := by simp; omega
    have HV := Lib.hid (show res = false by rw [HX.out, decide_eq_false h1]; rfl)
    clear HX
    go_wp2_with fail
    go_ret
    exact ⟨by rw [HV.out]; rfl, rfl⟩
set_option maxRecDepth 20000 in
set_option maxHeartbeats 8000000 in
theorem alike_any (e f : En) (dv dv' : Value) (w : World) (A A' : Option Addr) (n n' cap cap' : Nat) (h : dv = .slice A n cap) (h' : dv' = .slice A' n' cap') :
    Calls Tryd.prog 37 #[entV e dv, entV f dv'] w fun r w' => r = .returned (.bool (alikeE e f)) ∧ Below w.heap.size w w' := by
  subst h h'
  obtain ⟨path, kind, mode, uid, gid, owner, group, mtime, link, data⟩ := e
  obtain ⟨path', kind', mode', uid', gid', owner', group', mtime', link', data'⟩ := f
  have HX : Hid (alikeE ⟨path, kind, mode, uid, gid, owner, group, mtime, link, data⟩ ⟨path', kind', mode', uid', gid', owner', group', mtime', link', data'⟩ = (decide (mode = mode') && (decide (uid = uid') && (decide (gid = gid') && (decide (owner = owner') && (decide (group = group') && decide (mtime = mtime'))))))) := Lib.hid rfl
  generalize alikeE ⟨path, kind, mode, uid, gid, owner, group, mtime, link, data⟩ ⟨path', kind', mode', uid', gid', owner', group', mtime', link', data'⟩ = res at HX
  simp only [entV]
  go_enter Tryd.func37, Tryd.ntmps37
  go_upto_region 1 with fail
  have bE := (Blk.new w tE #[.string (bs path), .int .i64 kind, .int .i64 mode, .int .i64 uid, .int .i64 gid, .string (bs owner), .string (bs group), .int .i64 mtime, .string (bs link), .slice A n cap]).alloc (.cells #[.string (bs path'), .int .i64 kind', .int .i64 mode', .int .i64 uid', .int .i64 gid', .string (bs owner'), .string (bs group'), .int .i64 mtime', .string (bs link'), .slice A' n' cap'] tE)
  have bF := Blk.new (w.alloc (.cells #[.string (bs path), .int .i64 kind, .int .i64 mode, .int .i64 uid, .int .i64 gid, .string (bs owner), .string (bs group), .int .i64 mtime, .string (bs link), .slice A n cap] tE)) tE #[.string (bs path'), .int .i64 kind', .int .i64 mode', .int .i64 uid', .int .i64 gid', .string (bs owner'), .string (bs group'), .int .i64 mtime', .string (bs link'), .slice A' n' cap']
  have hs : (w.alloc (.cells #[.string (bs path), .int .i64 kind, .int .i64 mode, .int .i64 uid, .int .i64 gid, .string (bs owner), .string (bs group), .int .i64 mtime, .string (bs link), .slice A n cap] tE)).heap.size = w.heap.size + 1 := by simp
  rw [hs] at bF
  have hq := ((Below.refl w.heap.size w).alloc (Nat.le_refl _) (.cells #[.string (bs path), .int .i64 kind, .int .i64 mode, .int .i64 uid, .int .i64 gid, .string (bs owner), .string (bs group), .int .i64 mtime, .string (bs link), .slice A n cap] tE)).alloc (by rw [hs]; omega) (.cells #[.string (bs path'), .int .i64 kind', .int .i64 mode', .int .i64 uid', .int .i64 gid', .string (bs owner'), .string (bs group'), .int .i64 mtime', .string (bs link'), .slice A' n' cap'] tE)
  generalize (w.alloc (.cells #[.string (bs path), .int .i64 kind, .int .i64 mode, .int .i64 uid, .int .i64 gid, .string (bs owner), .string (bs group), .int .i64 mtime, .string (bs link), .slice A n cap] tE)).alloc (.cells #[.string (bs path'), .int .i64 kind', .int .i64 mode', .int .i64 uid', .int .i64 gid', .string (bs owner'), .string (bs group'), .int .i64 mtime', .string (bs link'), .slice A' n' cap'] tE) = W at bE bF hq ⊢
  generalize hg : w.heap.size = g at bE bF ⊢
  have a2 := bE.cell 2
  have b2 := bF.cell 2
  have a3 := bE.cell 3
  have b3 := bF.cell 3
  have a4 := bE.cell 4
  have b4 := bF.cell 4
  have a5 := bE.cell 5
  have b5 := bF.cell 5
  have a6 := bE.cell 6
  have b6 := bF.cell 6
  have a7 := bE.cell 7
  have b7 := bF.cell 7
  simp at a2 a3 a4 a5 a6 a7 b2 b3 b4 b5 b6 b7
  clear bE bF hs
  have qo := beq_bs2 owner owner'
  have qg := beq_bs2 group group'
  by_cases h0 : mode = mode'
  rotate_left
  · have HV := Lib.hid (show res = false by rw [HX.out, decide_eq_false h0]; first | done | simp)
    have e0 : (mode == mode') = false := by simpa using h0
    clear HX h0
    go_wp2_with fail
    go_ret
    exact ⟨by rw [HV.out]; rfl, by first | exact hq | (rw [← hg]; exact hq)⟩
  have HX := Lib.hid (HX.out.trans (by rw [decide_eq_true h0, Bool.true_and]))
  have e0 : (mode == mode') = true := by simpa using h0
  clear h0
  by_cases h1 : uid = uid'
  rotate_left
  · have HV := Lib.hid (show res = false by rw [HX.out, decide_eq_false h1]; first | done | simp)
    have e1 : (uid == uid') = false := by simpa using h1
    clear HX h1
    go_wp2_with fail
    go_ret
    exact ⟨by rw [HV.out]; rfl, by first | exact hq | (rw [← hg]; exact hq)⟩
  have HX := Lib.hid (HX.out.trans (by rw [decide_eq_true h1, Bool.true_and]))
  have e1 : (uid == uid') = true := by simpa using h1
  clear h1
  by_cases h2 : gid = gid'
  rotate_left
  · have HV := Lib.hid (show res = false by rw [HX.out, decide_eq_false h2]; first | done | simp)
    have e2 : (gid == gid') = false := by simpa using h2
    clear HX h2
    go_wp2_with fail
    go_ret
    exact ⟨by rw [HV.out]; rfl, by first | exact hq | (rw [← hg]; exact hq)⟩
  have HX := Lib.hid (HX.out.trans (by rw [decide_eq_true h2, Bool.true_and]))
  have e2 : (gid == gid') = true := by simpa using h2
  clear h2
  by_cases h3 : owner = owner'
  rotate_left
  · have HV := Lib.hid (show res = false by rw [HX.out, decide_eq_false h3]; first | done | simp)
    rw [decide_eq_false h3] at qo
    clear HX h3
    go_wp2_with fail
    go_ret
    exact ⟨by rw [HV.out]; rfl, by first | exact hq | (rw [← hg]; exact hq)⟩
  have HX := Lib.hid (HX.out.trans (by rw [decide_eq_true h3, Bool.true_and]))
  rw [decide_eq_true h3] at qo
  clear h3
  by_cases h4 : group = group'
  rotate_left
  · have HV := Lib.hid (show res = false by rw [HX.out, decide_eq_false h4]; first | done | simp)
    rw [decide_eq_false h4] at qg
    clear HX h4
    go_wp2_with fail
    go_ret
    exact ⟨by rw [HV.out]; rfl, by first | exact hq | (rw [← hg]; exact hq)⟩
  have HX := Lib.hid (HX.out.trans (by rw [decide_eq_true h4, Bool.true_and]))
  rw [decide_eq_true h4] at qg
  clear h4
  by_cases h5 : mtime = mtime'
  rotate_left
  · have HV := Lib.hid (show res = false by rw [HX.out, decide_eq_false h5]; first | done | simp)
    have e5 : (mtime == mtime') = false := by simpa using h5
    clear HX h5
    go_wp2_with fail
    go_ret
    exact ⟨by rw [HV.out]; rfl, by first | exact hq | (rw [← hg]; exact hq)⟩
  have HX := Lib.hid (show res = true by rw [HX.out, decide_eq_true h5])
  have e5 : (mtime == mtime') = true := by simpa using h5
  clear h5
  go_wp2_with fail
  go_ret
  exact ⟨by rw [HX.out]; rfl, by first | exact hq | (rw [← hg]; exact hq)⟩
end Go.Proofs.YtjhikglgaoncjaaDoor

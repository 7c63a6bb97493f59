/- The walks of both Checks of one entry. Printed by gen_enchk.py. The walks of the document's above, alike, bad and CheckAll. Printed by gen_enbad.py. -/
import Derived.Test.YtpheifdpjcppdaaGreatDoorEnEF
namespace Go.Proofs.YtpheifdpjcppdaaGreatDoor
open Go.RowKit
abbrev tE : TypeId := 41
/-- An entry's texts are not too long to be looked at. -/
def EB (e : En) : Prop := e.path.length ≤ 1000000000 ∧ e.owner.length ≤ 1000000000 ∧ e.group.length ≤ 1000000000 ∧ e.link.length ≤ 1000000000
def restE (kind : Int) (link path data : List UInt8) : Int :=
  if kind = 3 ∧ tgtOk link = false then 10
  else if kind = 4 ∧ (pathOk link = false ∨ link = path) then 10
  else if kind ≠ 3 ∧ kind ≠ 4 ∧ link ≠ [] then 1
  else if kind ≠ 1 ∧ data ≠ [] then 1
  else if 1048576 < data.length then 4
  else 0
theorem isE (l : List UInt8) : (bs l).toList.isEmpty = decide (l = []) := by rw [toList_bs, Bool.eq_iff_iff]; simp
set_option maxRecDepth 20000 in
set_option maxHeartbeats 16000000 in
theorem pechk_any (e : En) (dv : Value) (X : Nat → Prop) (w : World) (hd : Sl 1 Rbyte X w dv e.data) (hB : EB e) :
    Calls Tryz.prog 57 #[entV e dv] w fun r w' => r = .returned (.int .i64 (chkE e)) ∧ Below w.heap.size w w' := by
  obtain ⟨A, cap, rfl, _, hcap⟩ := hd.form
  unfold maxLen at hcap
  obtain ⟨path, kind, mode, uid, gid, owner, group, mtime, link, data⟩ := e
  obtain ⟨l0, l1, l2, l3⟩ := hB
  simp only at l0 l1 l2 l3 hd
  clear hd
  have HX : Hid (chkE ⟨path, kind, mode, uid, gid, owner, group, mtime, link, data⟩ = if pathOk path = false then 10 else if kind < 1 ∨ 4 < kind then 9 else if (decide (mode < 0) || (decide (4095 < mode) || (decide (uid < 0) || (decide (2097151 < uid) || (decide (gid < 0) || (decide (2097151 < gid) || (decide (mtime < 0) || decide (8589934591 < mtime)))))))) = true then 1 else if ownOk owner = false ∨ ownOk group = false then 10 else restE kind link path data) := Lib.hid rfl
  generalize chkE ⟨path, kind, mode, uid, gid, owner, group, mtime, link, data⟩ = res at HX
  simp only [entV]
  go_enter Tryz.func57, Tryz.ntmps57
  go_upto_region 1 with fail
  have bE := Blk.new w tE #[.string (bs path), .int .i64 kind, .int .i64 mode, .int .i64 uid, .int .i64 gid, .string (bs owner), .string (bs group), .int .i64 mtime, .string (bs link), .slice A data.length cap]
  have hq := (Below.refl w.heap.size w).alloc (Nat.le_refl _) (.cells #[.string (bs path), .int .i64 kind, .int .i64 mode, .int .i64 uid, .int .i64 gid, .string (bs owner), .string (bs group), .int .i64 mtime, .string (bs link), .slice A data.length cap] tE)
  generalize w.alloc (.cells #[.string (bs path), .int .i64 kind, .int .i64 mode, .int .i64 uid, .int .i64 gid, .string (bs owner), .string (bs group), .int .i64 mtime, .string (bs link), .slice A data.length cap] tE) = W at bE hq ⊢
  generalize hg : w.heap.size = g at bE ⊢
  have d0 := bE.cell 0
  simp at d0
  go_wp2_with fail
  refine (ppath_any path _ l0).mono ?_
  rintro e W1 ⟨rfl, hb1⟩
  have b1 := bE.below hb1 bE.lt
  have q1 := hq.trans (hb1.mono hq.size)
  clear bE hq hb1 d0
  cases hp : pathOk path with
  | false =>
    have HV := Lib.hid (show res = 10 by rw [HX.out, if_pos hp])
    clear HX hp
    go_wp2_with fail
    go_ret
    exact ⟨by rw [HV.out]; rfl, by first | exact q1 | (rw [← hg]; exact q1)⟩
  | true =>
    have HX := Lib.hid (HX.out.trans (if_neg (by rw [hp]; simp)))
    clear hp
    have d1 := b1.cell 1
    simp at d1
    by_cases k1 : kind < 1
    · have e1 : decide (kind < 1) = true := by simpa using k1
      have HV := Lib.hid (show res = 9 by rw [HX.out, if_pos (.inl k1)])
      clear HX k1
      go_wp2_with fail
      go_ret
      exact ⟨by rw [HV.out]; rfl, by first | exact q1 | (rw [← hg]; exact q1)⟩
    · have e1 : decide (kind < 1) = false := by simpa using k1
      by_cases k4 : 4 < kind
      · have e2 : decide (4 < kind) = true := by simpa using k4
        have HV := Lib.hid (show res = 9 by rw [HX.out, if_pos (.inr k4)])
        clear HX k4 k1
        go_wp2_with fail
        go_ret
        exact ⟨by rw [HV.out]; rfl, by first | exact q1 | (rw [← hg]; exact q1)⟩
      · have e2 : decide (4 < kind) = false := by simpa using k4
        have HX := Lib.hid (HX.out.trans (if_neg (by rintro (h | h); exact k1 h; exact k4 h)))
        have d2 := b1.cell 2
        have d3 := b1.cell 3
        have d4 := b1.cell 4
        have d7 := b1.cell 7
        simp at d2 d3 d4 d7
        clear k1 k4
        by_cases m0 : mode < 0
        · have e_m0 : decide (mode < 0) = true := by simpa using m0
          have HV := Lib.hid (show res = 1 by rw [HX.out, if_pos (by simp [m0])])
          clear HX m0
          go_wp2_with fail
          go_ret
          exact ⟨by rw [HV.out]; rfl, by first | exact q1 | (rw [← hg]; exact q1)⟩
        · have e_m0 : decide (mode < 0) = false := by simpa using m0
          by_cases m1 : 4095 < mode
          · have e_m1 : decide (4095 < mode) = true := by simpa using m1
            have HV := Lib.hid (show res = 1 by rw [HX.out, if_pos (by simp [m1])])
            clear HX m0 m1
            go_wp2_with fail
            go_ret
            exact ⟨by rw [HV.out]; rfl, by first | exact q1 | (rw [← hg]; exact q1)⟩
          · have e_m1 : decide (4095 < mode) = false := by simpa using m1
            by_cases m2 : uid < 0
            · have e_m2 : decide (uid < 0) = true := by simpa using m2
              have HV := Lib.hid (show res = 1 by rw [HX.out, if_pos (by simp [m2])])
              clear HX m0 m1 m2
              go_wp2_with fail
              go_ret
              exact ⟨by rw [HV.out]; rfl, by first | exact q1 | (rw [← hg]; exact q1)⟩
            · have e_m2 : decide (uid < 0) = false := by simpa using m2
              by_cases m3 : 2097151 < uid
              · have e_m3 : decide (2097151 < uid) = true := by simpa using m3
                have HV := Lib.hid (show res = 1 by rw [HX.out, if_pos (by simp [m3])])
                clear HX m0 m1 m2 m3
                go_wp2_with fail
                go_ret
                exact ⟨by rw [HV.out]; rfl, by first | exact q1 | (rw [← hg]; exact q1)⟩
              · have e_m3 : decide (2097151 < uid) = false := by simpa using m3
                by_cases m4 : gid < 0
                · have e_m4 : decide (gid < 0) = true := by simpa using m4
                  have HV := Lib.hid (show res = 1 by rw [HX.out, if_pos (by simp [m4])])
                  clear HX m0 m1 m2 m3 m4
                  go_wp2_with fail
                  go_ret
                  exact ⟨by rw [HV.out]; rfl, by first | exact q1 | (rw [← hg]; exact q1)⟩
                · have e_m4 : decide (gid < 0) = false := by simpa using m4
                  by_cases m5 : 2097151 < gid
                  · have e_m5 : decide (2097151 < gid) = true := by simpa using m5
                    have HV := Lib.hid (show res = 1 by rw [HX.out, if_pos (by simp [m5])])
                    clear HX m0 m1 m2 m3 m4 m5
                    go_wp2_with fail
                    go_ret
                    exact ⟨by rw [HV.out]; rfl, by first | exact q1 | (rw [← hg]; exact q1)⟩
                  · have e_m5 : decide (2097151 < gid) = false := by simpa using m5
                    by_cases m6 : mtime < 0
                    · have e_m6 : decide (mtime < 0) = true := by simpa using m6
                      have HV := Lib.hid (show res = 1 by rw [HX.out, if_pos (by simp [m6])])
                      clear HX m0 m1 m2 m3 m4 m5 m6
                      go_wp2_with fail
                      go_ret
                      exact ⟨by rw [HV.out]; rfl, by first | exact q1 | (rw [← hg]; exact q1)⟩
                    · have e_m6 : decide (mtime < 0) = false := by simpa using m6
                      by_cases m7 : 8589934591 < mtime
                      · have e_m7 : decide (8589934591 < mtime) = true := by simpa using m7
                        have HV := Lib.hid (show res = 1 by rw [HX.out, if_pos (by simp [m7])])
                        clear HX m0 m1 m2 m3 m4 m5 m6 m7
                        go_wp2_with fail
                        go_ret
                        exact ⟨by rw [HV.out]; rfl, by first | exact q1 | (rw [← hg]; exact q1)⟩
                      · have e_m7 : decide (8589934591 < mtime) = false := by simpa using m7
                        have HX := Lib.hid (HX.out.trans (if_neg (by simp [m0, m1, m2, m3, m4, m5, m6, m7])))
                        clear m0 m1 m2 m3 m4 m5 m6 m7
                        have d5 := b1.cell 5
                        simp at d5
                        go_wp2_with fail
                        refine (powner_any owner _ l1).mono ?_
                        rintro e W2 ⟨rfl, hb2⟩
                        have b2 := b1.below hb2 b1.lt
                        have q2 := q1.trans (hb2.mono q1.size)
                        clear b1 q1 hb2 d1 d2 d3 d4 d5 d7
                        cases ho : ownOk owner with
                        | false =>
                          have HV := Lib.hid (show res = 10 by rw [HX.out, if_pos (.inl ho)])
                          clear HX ho
                          go_wp2_with fail
                          go_ret
                          exact ⟨by rw [HV.out]; rfl, by first | exact q2 | (rw [← hg]; exact q2)⟩
                        | true =>
                          have d6 := b2.cell 6
                          simp at d6
                          go_wp2_with fail
                          refine (powner_any group _ l2).mono ?_
                          rintro e W3 ⟨rfl, hb3⟩
                          have b3 := b2.below hb3 b2.lt
                          have q3 := q2.trans (hb3.mono q2.size)
                          clear b2 q2 hb3 d6
                          cases hgo : ownOk group with
                          | false =>
                            have HV := Lib.hid (show res = 10 by rw [HX.out, if_pos (.inr hgo)])
                            clear HX ho hgo
                            go_wp2_with fail
                            go_ret
                            exact ⟨by rw [HV.out]; rfl, by first | exact q3 | (rw [← hg]; exact q3)⟩
                          | true =>
                            have HX := Lib.hid (HX.out.trans (if_neg (by rw [ho, hgo]; simp)))
                            clear ho hgo
                            have d1 := b3.cell 1
                            have d8 := b3.cell 8
                            have d9 := b3.cell 9
                            have d0 := b3.cell 0
                            simp at d0 d1 d8 d9
                            have HR : Hid (restE kind link path data = if kind = 3 ∧ tgtOk link = false then 10 else if kind = 4 ∧ (pathOk link = false ∨ link = path) then 10 else if kind ≠ 3 ∧ kind ≠ 4 ∧ link ≠ [] then 1 else if kind ≠ 1 ∧ data ≠ [] then 1 else if 1048576 < data.length then 4 else 0) := Lib.hid rfl
                            have hk : kind = 1 ∨ kind = 2 ∨ kind = 3 ∨ kind = 4 := by
                              have h1 := of_decide_eq_false e1
                              have h2 := of_decide_eq_false e2
                              omega
                            have n1 : (bs link).toList = link := toList_bs link
                            clear e1 e2 e_m0 e_m1 e_m2 e_m3 e_m4 e_m5 e_m6 e_m7
                            rcases hk with rfl | rfl | rfl | rfl
                            · cases link with
                              | cons lc lt =>
                                have HV := Lib.hid (show res = 1 by rw [HX.out, HR.out]; simp)
                                clear HX HR
                                go_wp2_with fail
                                go_ret
                                exact ⟨by rw [HV.out]; rfl, by first | exact q3 | (rw [← hg]; exact q3)⟩
                              | nil =>
                                by_cases hbig : 1048576 < data.length
                                · have e9 : decide ((1048576 : Int) < (data.length : Int)) = true := by simp; omega
                                  have HV := Lib.hid (show res = 4 by rw [HX.out, HR.out]; simp [hbig])
                                  clear HX HR hbig
                                  go_wp2_with fail
                                  go_ret
                                  exact ⟨by rw [HV.out]; rfl, by first | exact q3 | (rw [← hg]; exact q3)⟩
                                · have e9 : decide ((1048576 : Int) < (data.length : Int)) = false := by simp; omega
                                  have HV := Lib.hid (show res = 0 by rw [HX.out, HR.out]; simp [hbig])
                                  clear HX HR hbig
                                  go_wp2_with fail
                                  go_ret
                                  exact ⟨by rw [HV.out]; rfl, by first | exact q3 | (rw [← hg]; exact q3)⟩
                            · cases link with
                              | cons lc lt =>
                                have HV := Lib.hid (show res = 1 by rw [HX.out, HR.out]; simp)
                                clear HX HR
                                go_wp2_with fail
                                go_ret
                                exact ⟨by rw [HV.out]; rfl, by first | exact q3 | (rw [← hg]; exact q3)⟩
                              | nil =>
                                by_cases hdt : data = []
                                · subst hdt
                                  have HV := Lib.hid (show res = 0 by rw [HX.out, HR.out]; simp)
                                  clear HX HR
                                  go_wp2_with fail
                                  go_ret
                                  exact ⟨by rw [HV.out]; rfl, by first | exact q3 | (rw [← hg]; exact q3)⟩
                                · have hpos : 0 < data.length := List.length_pos_iff.2 hdt
                                  have e9 : decide ((0 : Int) < (data.length : Int)) = true := by simp; omega
                                  have HV := Lib.hid (show res = 1 by rw [HX.out, HR.out]; simp [hdt])
                                  clear HX HR hdt
                                  go_wp2_with fail
                                  go_ret
                                  exact ⟨by rw [HV.out]; rfl, by first | exact q3 | (rw [← hg]; exact q3)⟩
                            · clear n1
                              go_wp2_with fail
                              refine (ptarget_any link _ l3).mono ?_
                              rintro e W4 ⟨rfl, hb4⟩
                              have b4 := b3.below hb4 b3.lt
                              have q4 := q3.trans (hb4.mono q3.size)
                              have d1 := b4.cell 1
                              have d8 := b4.cell 8
                              have d9 := b4.cell 9
                              have d0 := b4.cell 0
                              simp at d0 d1 d8 d9
                              clear b3 q3 hb4
                              cases htg : tgtOk link with
                              | false =>
                                have HV := Lib.hid (show res = 10 by rw [HX.out, HR.out]; simp [htg])
                                clear HX HR htg
                                go_wp2_with fail
                                go_ret
                                exact ⟨by rw [HV.out]; rfl, by first | exact q4 | (rw [← hg]; exact q4)⟩
                              | true =>
                                have HTG := Lib.hid htg
                                clear htg
                                by_cases hdt : data = []
                                · subst hdt
                                  have HV := Lib.hid (show res = 0 by rw [HX.out, HR.out]; simp [HTG.out])
                                  clear HX HR
                                  go_wp2_with fail
                                  go_ret
                                  exact ⟨by rw [HV.out]; rfl, by first | exact q4 | (rw [← hg]; exact q4)⟩
                                · have hpos : 0 < data.length := List.length_pos_iff.2 hdt
                                  have e9 : decide ((0 : Int) < (data.length : Int)) = true := by simp; omega
                                  have HV := Lib.hid (show res = 1 by rw [HX.out, HR.out]; simp [HTG.out, hdt])
                                  clear HX HR hdt
                                  go_wp2_with fail
                                  go_ret
                                  exact ⟨by rw [HV.out]; rfl, by first | exact q4 | (rw [← hg]; exact q4)⟩
                            · clear n1
                              go_wp2_with fail
                              refine (ppath_any link _ l3).mono ?_
                              rintro e W4 ⟨rfl, hb4⟩
                              have b4 := b3.below hb4 b3.lt
                              have q4 := q3.trans (hb4.mono q3.size)
                              have d1 := b4.cell 1
                              have d8 := b4.cell 8
                              have d9 := b4.cell 9
                              have d0 := b4.cell 0
                              simp at d0 d1 d8 d9
                              clear b3 q3 hb4
                              cases htg : pathOk link with
                              | false =>
                                have HV := Lib.hid (show res = 10 by rw [HX.out, HR.out]; simp [htg])
                                clear HX HR htg
                                go_wp2_with fail
                                go_ret
                                exact ⟨by rw [HV.out]; rfl, by first | exact q4 | (rw [← hg]; exact q4)⟩
                              | true =>
                                have HTG := Lib.hid htg
                                clear htg
                                have hqq := beq_bs2 link path
                                by_cases hlp : link = path
                                · rw [decide_eq_true hlp] at hqq
                                  have HV := Lib.hid (show res = 10 by rw [HX.out, HR.out]; simp [hlp])
                                  clear HX HR hlp
                                  go_wp2_with fail
                                  go_ret
                                  exact ⟨by rw [HV.out]; rfl, by first | exact q4 | (rw [← hg]; exact q4)⟩
                                · rw [decide_eq_false hlp] at hqq
                                  have HLP := Lib.hid hlp
                                  clear hlp
                                  by_cases hdt : data = []
                                  · subst hdt
                                    have HV := Lib.hid (show res = 0 by rw [HX.out, HR.out]; simp [HTG.out, HLP.out])
                                    clear HX HR
                                    go_wp2_with fail
                                    go_ret
                                    exact ⟨by rw [HV.out]; rfl, by first | exact q4 | (rw [← hg]; exact q4)⟩
                                  · have hpos : 0 < data.length := List.length_pos_iff.2 hdt
                                    have e9 : decide ((0 : Int) < (data.length : Int)) = true := by simp; omega
                                    have HV := Lib.hid (show res = 1 by rw [HX.out, HR.out]; simp [HTG.out, HLP.out, hdt])
                                    clear HX HR hdt
                                    go_wp2_with fail
                                    go_ret
                                    exact ⟨by rw [HV.out]; rfl, by first | exact q4 | (rw [← hg]; exact q4)⟩
set_option maxRecDepth 20000 in
set_option maxHeartbeats 16000000 in
theorem rechk_any (e : En) (dv : Value) (X : Nat → Prop) (w : World) (hd : Sl 1 Rbyte X w dv e.data) (hB : EB e) :
    Calls Tryz.prog 54 #[entV e dv] w fun r w' => r = .returned (.int .i64 (chkE e)) ∧ Below w.heap.size w w' := by
  obtain ⟨A, cap, rfl, _, hcap⟩ := hd.form
  unfold maxLen at hcap
  obtain ⟨path, kind, mode, uid, gid, owner, group, mtime, link, data⟩ := e
  obtain ⟨l0, l1, l2, l3⟩ := hB
  simp only at l0 l1 l2 l3 hd
  clear hd
  have HX : Hid (chkE ⟨path, kind, mode, uid, gid, owner, group, mtime, link, data⟩ = if pathOk path = false then 10 else if kind < 1 ∨ 4 < kind then 9 else if (decide (mode < 0) || (decide (4095 < mode) || (decide (uid < 0) || (decide (2097151 < uid) || (decide (gid < 0) || (decide (2097151 < gid) || (decide (mtime < 0) || decide (8589934591 < mtime)))))))) = true then 1 else if ownOk owner = false ∨ ownOk group = false then 10 else restE kind link path data) := Lib.hid rfl
  generalize chkE ⟨path, kind, mode, uid, gid, owner, group, mtime, link, data⟩ = res at HX
  simp only [entV]
  go_enter Tryz.func54, Tryz.ntmps54
  go_upto_region 1 with fail
  have bE := Blk.new w tE #[.string (bs path), .int .i64 kind, .int .i64 mode, .int .i64 uid, .int .i64 gid, .string (bs owner), .string (bs group), .int .i64 mtime, .string (bs link), .slice A data.length cap]
  have hq := (Below.refl w.heap.size w).alloc (Nat.le_refl _) (.cells #[.string (bs path), .int .i64 kind, .int .i64 mode, .int .i64 uid, .int .i64 gid, .string (bs owner), .string (bs group), .int .i64 mtime, .string (bs link), .slice A data.length cap] tE)
  generalize w.alloc (.cells #[.string (bs path), .int .i64 kind, .int .i64 mode, .int .i64 uid, .int .i64 gid, .string (bs owner), .string (bs group), .int .i64 mtime, .string (bs link), .slice A data.length cap] tE) = W at bE hq ⊢
  generalize hg : w.heap.size = g at bE ⊢
  have d0 := bE.cell 0
  simp at d0
  go_wp2_with fail
  refine (rpath_any path _ l0).mono ?_
  rintro e W1 ⟨rfl, hb1⟩
  have b1 := bE.below hb1 bE.lt
  have q1 := hq.trans (hb1.mono hq.size)
  clear bE hq hb1 d0
  cases hp : pathOk path with
  | false =>
    have HV := Lib.hid (show res = 10 by rw [HX.out, if_pos hp])
    clear HX hp
    go_wp2_with fail
    go_ret
    exact ⟨by rw [HV.out]; rfl, by first | exact q1 | (rw [← hg]; exact q1)⟩
  | true =>
    have HX := Lib.hid (HX.out.trans (if_neg (by rw [hp]; simp)))
    clear hp
    have d1 := b1.cell 1
    simp at d1
    by_cases k1 : kind < 1
    · have e1 : decide (kind < 1) = true := by simpa using k1
      have HV := Lib.hid (show res = 9 by rw [HX.out, if_pos (.inl k1)])
      clear HX k1
      go_wp2_with fail
      go_ret
      exact ⟨by rw [HV.out]; rfl, by first | exact q1 | (rw [← hg]; exact q1)⟩
    · have e1 : decide (kind < 1) = false := by simpa using k1
      by_cases k4 : 4 < kind
      · have e2 : decide (4 < kind) = true := by simpa using k4
        have HV := Lib.hid (show res = 9 by rw [HX.out, if_pos (.inr k4)])
        clear HX k4 k1
        go_wp2_with fail
        go_ret
        exact ⟨by rw [HV.out]; rfl, by first | exact q1 | (rw [← hg]; exact q1)⟩
      · have e2 : decide (4 < kind) = false := by simpa using k4
        have HX := Lib.hid (HX.out.trans (if_neg (by rintro (h | h); exact k1 h; exact k4 h)))
        have d2 := b1.cell 2
        have d3 := b1.cell 3
        have d4 := b1.cell 4
        have d7 := b1.cell 7
        simp at d2 d3 d4 d7
        clear k1 k4
        by_cases m0 : mode < 0
        · have e_m0 : decide (mode < 0) = true := by simpa using m0
          have HV := Lib.hid (show res = 1 by rw [HX.out, if_pos (by simp [m0])])
          clear HX m0
          go_wp2_with fail
          go_ret
          exact ⟨by rw [HV.out]; rfl, by first | exact q1 | (rw [← hg]; exact q1)⟩
        · have e_m0 : decide (mode < 0) = false := by simpa using m0
          by_cases m1 : 4095 < mode
          · have e_m1 : decide (4095 < mode) = true := by simpa using m1
            have HV := Lib.hid (show res = 1 by rw [HX.out, if_pos (by simp [m1])])
            clear HX m0 m1
            go_wp2_with fail
            go_ret
            exact ⟨by rw [HV.out]; rfl, by first | exact q1 | (rw [← hg]; exact q1)⟩
          · have e_m1 : decide (4095 < mode) = false := by simpa using m1
            by_cases m2 : uid < 0
            · have e_m2 : decide (uid < 0) = true := by simpa using m2
              have HV := Lib.hid (show res = 1 by rw [HX.out, if_pos (by simp [m2])])
              clear HX m0 m1 m2
              go_wp2_with fail
              go_ret
              exact ⟨by rw [HV.out]; rfl, by first | exact q1 | (rw [← hg]; exact q1)⟩
            · have e_m2 : decide (uid < 0) = false := by simpa using m2
              by_cases m3 : 2097151 < uid
              · have e_m3 : decide (2097151 < uid) = true := by simpa using m3
                have HV := Lib.hid (show res = 1 by rw [HX.out, if_pos (by simp [m3])])
                clear HX m0 m1 m2 m3
                go_wp2_with fail
                go_ret
                exact ⟨by rw [HV.out]; rfl, by first | exact q1 | (rw [← hg]; exact q1)⟩
              · have e_m3 : decide (2097151 < uid) = false := by simpa using m3
                by_cases m4 : gid < 0
                · have e_m4 : decide (gid < 0) = true := by simpa using m4
                  have HV := Lib.hid (show res = 1 by rw [HX.out, if_pos (by simp [m4])])
                  clear HX m0 m1 m2 m3 m4
                  go_wp2_with fail
                  go_ret
                  exact ⟨by rw [HV.out]; rfl, by first | exact q1 | (rw [← hg]; exact q1)⟩
                · have e_m4 : decide (gid < 0) = false := by simpa using m4
                  by_cases m5 : 2097151 < gid
                  · have e_m5 : decide (2097151 < gid) = true := by simpa using m5
                    have HV := Lib.hid (show res = 1 by rw [HX.out, if_pos (by simp [m5])])
                    clear HX m0 m1 m2 m3 m4 m5
                    go_wp2_with fail
                    go_ret
                    exact ⟨by rw [HV.out]; rfl, by first | exact q1 | (rw [← hg]; exact q1)⟩
                  · have e_m5 : decide (2097151 < gid) = false := by simpa using m5
                    by_cases m6 : mtime < 0
                    · have e_m6 : decide (mtime < 0) = true := by simpa using m6
                      have HV := Lib.hid (show res = 1 by rw [HX.out, if_pos (by simp [m6])])
                      clear HX m0 m1 m2 m3 m4 m5 m6
                      go_wp2_with fail
                      go_ret
                      exact ⟨by rw [HV.out]; rfl, by first | exact q1 | (rw [← hg]; exact q1)⟩
                    · have e_m6 : decide (mtime < 0) = false := by simpa using m6
                      by_cases m7 : 8589934591 < mtime
                      · have e_m7 : decide (8589934591 < mtime) = true := by simpa using m7
                        have HV := Lib.hid (show res = 1 by rw [HX.out, if_pos (by simp [m7])])
                        clear HX m0 m1 m2 m3 m4 m5 m6 m7
                        go_wp2_with fail
                        go_ret
                        exact ⟨by rw [HV.out]; rfl, by first | exact q1 | (rw [← hg]; exact q1)⟩
                      · have e_m7 : decide (8589934591 < mtime) = false := by simpa using m7
                        have HX := Lib.hid (HX.out.trans (if_neg (by simp [m0, m1, m2, m3, m4, m5, m6, m7])))
                        clear m0 m1 m2 m3 m4 m5 m6 m7
                        have d5 := b1.cell 5
                        simp at d5
                        go_wp2_with fail
                        refine (rowner_any owner _ l1).mono ?_
                        rintro e W2 ⟨rfl, rfl⟩
                        have b2 := b1
                        have q2 := q1
                        clear b1 q1 d1 d2 d3 d4 d5 d7
                        cases ho : ownOk owner with
                        | false =>
                          have HV := Lib.hid (show res = 10 by rw [HX.out, if_pos (.inl ho)])
                          clear HX ho
                          go_wp2_with fail
                          go_ret
                          exact ⟨by rw [HV.out]; rfl, by first | exact q2 | (rw [← hg]; exact q2)⟩
                        | true =>
                          have d6 := b2.cell 6
                          simp at d6
                          go_wp2_with fail
                          refine (rowner_any group _ l2).mono ?_
                          rintro e W3 ⟨rfl, rfl⟩
                          have b3 := b2
                          have q3 := q2
                          clear b2 q2 d6
                          cases hgo : ownOk group with
                          | false =>
                            have HV := Lib.hid (show res = 10 by rw [HX.out, if_pos (.inr hgo)])
                            clear HX ho hgo
                            go_wp2_with fail
                            go_ret
                            exact ⟨by rw [HV.out]; rfl, by first | exact q3 | (rw [← hg]; exact q3)⟩
                          | true =>
                            have HX := Lib.hid (HX.out.trans (if_neg (by rw [ho, hgo]; simp)))
                            clear ho hgo
                            have d1 := b3.cell 1
                            have d8 := b3.cell 8
                            have d9 := b3.cell 9
                            have d0 := b3.cell 0
                            simp at d0 d1 d8 d9
                            have HR : Hid (restE kind link path data = if kind = 3 ∧ tgtOk link = false then 10 else if kind = 4 ∧ (pathOk link = false ∨ link = path) then 10 else if kind ≠ 3 ∧ kind ≠ 4 ∧ link ≠ [] then 1 else if kind ≠ 1 ∧ data ≠ [] then 1 else if 1048576 < data.length then 4 else 0) := Lib.hid rfl
                            have hk : kind = 1 ∨ kind = 2 ∨ kind = 3 ∨ kind = 4 := by
                              have h1 := of_decide_eq_false e1
                              have h2 := of_decide_eq_false e2
                              omega
                            have n1 : (bs link).toList = link := toList_bs link
                            clear e1 e2 e_m0 e_m1 e_m2 e_m3 e_m4 e_m5 e_m6 e_m7
                            rcases hk with rfl | rfl | rfl | rfl
                            · cases link with
                              | cons lc lt =>
                                have HV := Lib.hid (show res = 1 by rw [HX.out, HR.out]; simp)
                                clear HX HR
                                go_wp2_with fail
                                go_ret
                                exact ⟨by rw [HV.out]; rfl, by first | exact q3 | (rw [← hg]; exact q3)⟩
                              | nil =>
                                by_cases hbig : 1048576 < data.length
                                · have e9 : decide ((1048576 : Int) < (data.length : Int)) = true := by simp; omega
                                  have HV := Lib.hid (show res = 4 by rw [HX.out, HR.out]; simp [hbig])
                                  clear HX HR hbig
                                  go_wp2_with fail
                                  go_ret
                                  exact ⟨by rw [HV.out]; rfl, by first | exact q3 | (rw [← hg]; exact q3)⟩
                                · have e9 : decide ((1048576 : Int) < (data.length : Int)) = false := by simp; omega
                                  have HV := Lib.hid (show res = 0 by rw [HX.out, HR.out]; simp [hbig])
                                  clear HX HR hbig
                                  go_wp2_with fail
                                  go_ret
                                  exact ⟨by rw [HV.out]; rfl, by first | exact q3 | (rw [← hg]; exact q3)⟩
                            · cases link with
                              | cons lc lt =>
                                have HV := Lib.hid (show res = 1 by rw [HX.out, HR.out]; simp)
                                clear HX HR
                                go_wp2_with fail
                                go_ret
                                exact ⟨by rw [HV.out]; rfl, by first | exact q3 | (rw [← hg]; exact q3)⟩
                              | nil =>
                                by_cases hdt : data = []
                                · subst hdt
                                  have HV := Lib.hid (show res = 0 by rw [HX.out, HR.out]; simp)
                                  clear HX HR
                                  go_wp2_with fail
                                  go_ret
                                  exact ⟨by rw [HV.out]; rfl, by first | exact q3 | (rw [← hg]; exact q3)⟩
                                · have hpos : 0 < data.length := List.length_pos_iff.2 hdt
                                  have e9 : decide ((0 : Int) < (data.length : Int)) = true := by simp; omega
                                  have HV := Lib.hid (show res = 1 by rw [HX.out, HR.out]; simp [hdt])
                                  clear HX HR hdt
                                  go_wp2_with fail
                                  go_ret
                                  exact ⟨by rw [HV.out]; rfl, by first | exact q3 | (rw [← hg]; exact q3)⟩
                            · clear n1
                              have HTG : Hid (tgtOk link = (decide (1 ≤ link.length) && (decide (link.length ≤ 200) && !(link.contains 0 || link.contains 10)))) := Lib.hid (by rw [← any_has2]; rfl)
                              generalize tgtOk link = tg at HTG HR
                              cases hl0 : link with
                              | nil =>
                                have n1 : (bs ([] : List UInt8)).toList = [] := toList_bs _
                                subst hl0
                                have HV := Lib.hid (show res = 10 by rw [HX.out, HR.out, HTG.out]; simp)
                                clear HX HR HTG
                                go_wp2_with fail
                                go_ret
                                exact ⟨by rw [HV.out]; rfl, by first | exact q3 | (rw [← hg]; exact q3)⟩
                              | cons lc lt =>
                                rw [← hl0]
                                have hpos : 1 ≤ link.length := by rw [hl0]; simp
                                have n2 : (bs link).toList.isEmpty = false := by rw [toList_bs, hl0]; rfl
                                have n3 : ((bs link).toList == []) = false := by rw [toList_bs, hl0]; rfl
                                clear hl0
                                by_cases hl2 : 200 < link.length
                                · have e7 : decide ((200 : Int) < (link.length : Int)) = true := by simp; omega
                                  have e8 : decide ((200 : Int) < ((bs link).size : Int)) = true := by rw [bs_size]; exact e7
                                  have HV := Lib.hid (show res = 10 by rw [HX.out, HR.out, HTG.out]; simp; omega)
                                  clear HX HR HTG hl2
                                  go_wp2_with fail
                                  go_ret
                                  exact ⟨by rw [HV.out]; rfl, by first | exact q3 | (rw [← hg]; exact q3)⟩
                                · have e7 : decide ((200 : Int) < (link.length : Int)) = false := by simp; omega
                                  have e8 : decide ((200 : Int) < ((bs link).size : Int)) = false := by rw [bs_size]; exact e7
                                  have HTG := Lib.hid (show tg = !(link.contains 0 || link.contains 10) by rw [HTG.out, decide_eq_true hpos, decide_eq_true (show link.length ≤ 200 by omega)]; rfl)
                                  go_wp2_with fail
                                  refine (has_lit link 0 0 rfl _ l3).mono ?_
                                  rintro e W4 ⟨rfl, rfl⟩
                                  cases h0 : link.contains 0 with
                                  | true =>
                                    have HV := Lib.hid (show res = 10 by rw [HX.out, HR.out, HTG.out, h0]; simp)
                                    clear HX HR HTG h0
                                    go_wp2_with fail
                                    go_ret
                                    exact ⟨by rw [HV.out]; rfl, by first | exact q3 | (rw [← hg]; exact q3)⟩
                                  | false =>
                                    have HTG := Lib.hid (show tg = !link.contains 10 by rw [HTG.out, h0]; rfl)
                                    clear h0
                                    go_wp2_with fail
                                    refine (has_lit link 10 10 rfl _ l3).mono ?_
                                    rintro e W4 ⟨rfl, rfl⟩
                                    cases h10 : link.contains 10 with
                                    | true =>
                                      have HV := Lib.hid (show res = 10 by rw [HX.out, HR.out, HTG.out, h10]; simp)
                                      clear HX HR HTG h10
                                      go_wp2_with fail
                                      go_ret
                                      exact ⟨by rw [HV.out]; rfl, by first | exact q3 | (rw [← hg]; exact q3)⟩
                                    | false =>
                                      have HTG := Lib.hid (show tg = true by rw [HTG.out, h10]; rfl)
                                      clear h10
                                      by_cases hdt : data = []
                                      · subst hdt
                                        have HV := Lib.hid (show res = 0 by rw [HX.out, HR.out]; simp [HTG.out])
                                        clear HX HR
                                        go_wp2_with fail
                                        go_ret
                                        exact ⟨by rw [HV.out]; rfl, by first | exact q3 | (rw [← hg]; exact q3)⟩
                                      · have hpos : 0 < data.length := List.length_pos_iff.2 hdt
                                        have e9 : decide ((0 : Int) < (data.length : Int)) = true := by simp; omega
                                        have HV := Lib.hid (show res = 1 by rw [HX.out, HR.out]; simp [HTG.out, hdt])
                                        clear HX HR hdt
                                        go_wp2_with fail
                                        go_ret
                                        exact ⟨by rw [HV.out]; rfl, by first | exact q3 | (rw [← hg]; exact q3)⟩
                            · clear n1
                              go_wp2_with fail
                              refine (rpath_any link _ l3).mono ?_
                              rintro e W4 ⟨rfl, hb4⟩
                              have b4 := b3.below hb4 b3.lt
                              have q4 := q3.trans (hb4.mono q3.size)
                              have d1 := b4.cell 1
                              have d8 := b4.cell 8
                              have d9 := b4.cell 9
                              have d0 := b4.cell 0
                              simp at d0 d1 d8 d9
                              clear b3 q3 hb4
                              cases htg : pathOk link with
                              | false =>
                                have HV := Lib.hid (show res = 10 by rw [HX.out, HR.out]; simp [htg])
                                clear HX HR htg
                                go_wp2_with fail
                                go_ret
                                exact ⟨by rw [HV.out]; rfl, by first | exact q4 | (rw [← hg]; exact q4)⟩
                              | true =>
                                have HTG := Lib.hid htg
                                clear htg
                                have hqq := beq_bs2 link path
                                by_cases hlp : link = path
                                · rw [decide_eq_true hlp] at hqq
                                  have HV := Lib.hid (show res = 10 by rw [HX.out, HR.out]; simp [hlp])
                                  clear HX HR hlp
                                  go_wp2_with fail
                                  go_ret
                                  exact ⟨by rw [HV.out]; rfl, by first | exact q4 | (rw [← hg]; exact q4)⟩
                                · rw [decide_eq_false hlp] at hqq
                                  have HLP := Lib.hid hlp
                                  clear hlp
                                  by_cases hdt : data = []
                                  · subst hdt
                                    have HV := Lib.hid (show res = 0 by rw [HX.out, HR.out]; simp [HTG.out, HLP.out])
                                    clear HX HR
                                    go_wp2_with fail
                                    go_ret
                                    exact ⟨by rw [HV.out]; rfl, by first | exact q4 | (rw [← hg]; exact q4)⟩
                                  · have hpos : 0 < data.length := List.length_pos_iff.2 hdt
                                    have e9 : decide ((0 : Int) < (data.length : Int)) = true := by simp; omega
                                    have HV := Lib.hid (show res = 1 by rw [HX.out, HR.out]; simp [HTG.out, HLP.out, hdt])
                                    clear HX HR hdt
                                    go_wp2_with fail
                                    go_ret
                                    exact ⟨by rw [HV.out]; rfl, by first | exact q4 | (rw [← hg]; exact q4)⟩
end Go.Proofs.YtpheifdpjcppdaaGreatDoor
namespace Go.Proofs.YtpheifdpjcppdaaGreatDoor
open Go.RowKit
set_option maxRecDepth 20000 in
set_option maxHeartbeats 8000000 in
theorem above_any (a b : List UInt8) (w : World) (ha : a.length ≤ 1000000000) (hb : b.length ≤ 1000000000) :
    Calls Tryz.prog 56 #[.string (bs a), .string (bs b)] w fun e w' => e = .returned (.bool (aboveL a b)) ∧ w = w' := by
  have HX : Hid (aboveL a b = (decide (a.length < b.length) && (decide (b.take a.length = a) && decide (b[a.length]? = some 47)))) := Lib.hid rfl
  generalize aboveL a b = res at HX
  have hz : ((bs a).size : Int) = (a.length : Int) := by rw [bs_size]
  have hz2 : ((bs b).size : Int) = (b.length : Int) := by rw [bs_size]
  go_enter Tryz.func56, Tryz.ntmps56
  by_cases h1 : a.length < b.length
  · have d0 : (bs a).size < (bs b).size := by rw [bs_size, bs_size]; exact h1
    have d1 : decide ((a.length : Int) < (b.length : Int)) = true := by simp; omega
    have i1 : (a.length : Int) ≤ ((bs b).size : Int) := by omega
    have i2 : (a.length : Int) ≤ (b.length : Int) := by omega
    have i3 : a.length ≤ b.length := by omega
    have hext : (bs b).extract 0 a.length = bs (b.take a.length) := by rw [ext_take _ _ (by rw [bs_size]; omega), bs_list]
    have hext2 : (bs b).extract 0 (bs a).size = bs (b.take a.length) := by rw [bs_size]; exact hext
    have hq := beq_bs2 (b.take a.length) a
    have HX := Lib.hid (show res = (decide (b.take a.length = a) && decide (b[a.length]? = some 47)) by rw [HX.out, decide_eq_true h1, Bool.true_and])
    by_cases h2 : b.take a.length = a
    · rw [decide_eq_true h2] at hq
      have hks2 : a.length < (bs b).size := by rw [bs_size]; exact h1
      obtain ⟨c, hc⟩ : ∃ c, c = b[a.length]'h1 := ⟨_, rfl⟩
      have hbb : (bs b)[a.length]'hks2 = c := hc.symm
      have HX := Lib.hid (show res = ((c.toNat : Int) == 47) by
        rw [HX.out, decide_eq_true h2, Bool.true_and, List.getElem?_eq_getElem h1, ← hc, show (47 : Int) = ((47 : UInt8).toNat : Int) from rfl, beq_byte]
        simp)
      have i4 : (0 : Int) ≤ (a.length : Int) := by omega
      have i5 : (a.length : Int) < ((bs b).size : Int) := by omega
      have i6 : (a.length : Int) < (b.length : Int) := by omega
      clear hc h2
      generalize b.take a.length = tk at hext hext2 hq
      go_wp2_with fail
      go_ret
      exact ⟨by rw [HX.out]; rfl, rfl⟩
    · rw [decide_eq_false h2] at hq
      have HV := Lib.hid (show res = false by rw [HX.out, decide_eq_false h2]; rfl)
      clear h2
      generalize b.take a.length = tk at hext hext2 hq
      go_wp2_with fail
      go_ret
      exact ⟨by rw [HV.out]; rfl, rfl⟩
  · have d0 : ¬ (bs a).size < (bs b).size := by rw [bs_size, bs_size]; exact h1
    have d1 : decide ((a.length : Int) < (b.length : Int)) = false := by simp; omega
    have HV := Lib.hid (show res = false by rw [HX.out, decide_eq_false h1]; rfl)
    clear HX
    go_wp2_with fail
    go_ret
    exact ⟨by rw [HV.out]; rfl, rfl⟩
set_option maxRecDepth 20000 in
set_option maxHeartbeats 8000000 in
theorem alike_any (e f : En) (dv dv' : Value) (w : World) (A A' : Option Addr) (n n' cap cap' : Nat) (h : dv = .slice A n cap) (h' : dv' = .slice A' n' cap') :
    Calls Tryz.prog 30 #[entV e dv, entV f dv'] w fun r w' => r = .returned (.bool (alikeE e f)) ∧ Below w.heap.size w w' := by
  subst h h'
  obtain ⟨path, kind, mode, uid, gid, owner, group, mtime, link, data⟩ := e
  obtain ⟨path', kind', mode', uid', gid', owner', group', mtime', link', data'⟩ := f
  have HX : Hid (alikeE ⟨path, kind, mode, uid, gid, owner, group, mtime, link, data⟩ ⟨path', kind', mode', uid', gid', owner', group', mtime', link', data'⟩ = (decide (mode = mode') && (decide (uid = uid') && (decide (gid = gid') && (decide (owner = owner') && (decide (group = group') && decide (mtime = mtime'))))))) := Lib.hid rfl
  generalize alikeE ⟨path, kind, mode, uid, gid, owner, group, mtime, link, data⟩ ⟨path', kind', mode', uid', gid', owner', group', mtime', link', data'⟩ = res at HX
  simp only [entV]
  go_enter Tryz.func30, Tryz.ntmps30
  go_upto_region 1 with fail
  have bE := (Blk.new w tE #[.string (bs path), .int .i64 kind, .int .i64 mode, .int .i64 uid, .int .i64 gid, .string (bs owner), .string (bs group), .int .i64 mtime, .string (bs link), .slice A n cap]).alloc (.cells #[.string (bs path'), .int .i64 kind', .int .i64 mode', .int .i64 uid', .int .i64 gid', .string (bs owner'), .string (bs group'), .int .i64 mtime', .string (bs link'), .slice A' n' cap'] tE)
  have bF := Blk.new (w.alloc (.cells #[.string (bs path), .int .i64 kind, .int .i64 mode, .int .i64 uid, .int .i64 gid, .string (bs owner), .string (bs group), .int .i64 mtime, .string (bs link), .slice A n cap] tE)) tE #[.string (bs path'), .int .i64 kind', .int .i64 mode', .int .i64 uid', .int .i64 gid', .string (bs owner'), .string (bs group'), .int .i64 mtime', .string (bs link'), .slice A' n' cap']
  have hs : (w.alloc (.cells #[.string (bs path), .int .i64 kind, .int .i64 mode, .int .i64 uid, .int .i64 gid, .string (bs owner), .string (bs group), .int .i64 mtime, .string (bs link), .slice A n cap] tE)).heap.size = w.heap.size + 1 := by simp
  rw [hs] at bF
  have hq := ((Below.refl w.heap.size w).alloc (Nat.le_refl _) (.cells #[.string (bs path), .int .i64 kind, .int .i64 mode, .int .i64 uid, .int .i64 gid, .string (bs owner), .string (bs group), .int .i64 mtime, .string (bs link), .slice A n cap] tE)).alloc (by rw [hs]; omega) (.cells #[.string (bs path'), .int .i64 kind', .int .i64 mode', .int .i64 uid', .int .i64 gid', .string (bs owner'), .string (bs group'), .int .i64 mtime', .string (bs link'), .slice A' n' cap'] tE)
  generalize (w.alloc (.cells #[.string (bs path), .int .i64 kind, .int .i64 mode, .int .i64 uid, .int .i64 gid, .string (bs owner), .string (bs group), .int .i64 mtime, .string (bs link), .slice A n cap] tE)).alloc (.cells #[.string (bs path'), .int .i64 kind', .int .i64 mode', .int .i64 uid', .int .i64 gid', .string (bs owner'), .string (bs group'), .int .i64 mtime', .string (bs link'), .slice A' n' cap'] tE) = W at bE bF hq ⊢
  generalize hg : w.heap.size = g at bE bF ⊢
  have a2 := bE.cell 2
  have b2 := bF.cell 2
  have a3 := bE.cell 3
  have b3 := bF.cell 3
  have a4 := bE.cell 4
  have b4 := bF.cell 4
  have a5 := bE.cell 5
  have b5 := bF.cell 5
  have a6 := bE.cell 6
  have b6 := bF.cell 6
  have a7 := bE.cell 7
  have b7 := bF.cell 7
  simp at a2 a3 a4 a5 a6 a7 b2 b3 b4 b5 b6 b7
  clear bE bF hs
  have qo := beq_bs2 owner owner'
  have qg := beq_bs2 group group'
  by_cases h0 : mode = mode'
  rotate_left
  · have HV := Lib.hid (show res = false by rw [HX.out, decide_eq_false h0]; first | done | simp)
    have e0 : (mode == mode') = false := by simpa using h0
    clear HX h0
    go_wp2_with fail
    go_ret
    exact ⟨by rw [HV.out]; rfl, by first | exact hq | (rw [← hg]; exact hq)⟩
  have HX := Lib.hid (HX.out.trans (by rw [decide_eq_true h0, Bool.true_and]))
  have e0 : (mode == mode') = true := by simpa using h0
  clear h0
  by_cases h1 : uid = uid'
  rotate_left
  · have HV := Lib.hid (show res = false by rw [HX.out, decide_eq_false h1]; first | done | simp)
    have e1 : (uid == uid') = false := by simpa using h1
    clear HX h1
    go_wp2_with fail
    go_ret
    exact ⟨by rw [HV.out]; rfl, by first | exact hq | (rw [← hg]; exact hq)⟩
  have HX := Lib.hid (HX.out.trans (by rw [decide_eq_true h1, Bool.true_and]))
  have e1 : (uid == uid') = true := by simpa using h1
  clear h1
  by_cases h2 : gid = gid'
  rotate_left
  · have HV := Lib.hid (show res = false by rw [HX.out, decide_eq_false h2]; first | done | simp)
    have e2 : (gid == gid') = false := by simpa using h2
    clear HX h2
    go_wp2_with fail
    go_ret
    exact ⟨by rw [HV.out]; rfl, by first | exact hq | (rw [← hg]; exact hq)⟩
  have HX := Lib.hid (HX.out.trans (by rw [decide_eq_true h2, Bool.true_and]))
  have e2 : (gid == gid') = true := by simpa using h2
  clear h2
  by_cases h3 : owner = owner'
  rotate_left
  · have HV := Lib.hid (show res = false by rw [HX.out, decide_eq_false h3]; first | done | simp)
    rw [decide_eq_false h3] at qo
    clear HX h3
    go_wp2_with fail
    go_ret
    exact ⟨by rw [HV.out]; rfl, by first | exact hq | (rw [← hg]; exact hq)⟩
  have HX := Lib.hid (HX.out.trans (by rw [decide_eq_true h3, Bool.true_and]))
  rw [decide_eq_true h3] at qo
  clear h3
  by_cases h4 : group = group'
  rotate_left
  · have HV := Lib.hid (show res = false by rw [HX.out, decide_eq_false h4]; first | done | simp)
    rw [decide_eq_false h4] at qg
    clear HX h4
    go_wp2_with fail
    go_ret
    exact ⟨by rw [HV.out]; rfl, by first | exact hq | (rw [← hg]; exact hq)⟩
  have HX := Lib.hid (HX.out.trans (by rw [decide_eq_true h4, Bool.true_and]))
  rw [decide_eq_true h4] at qg
  clear h4
  by_cases h5 : mtime = mtime'
  rotate_left
  · have HV := Lib.hid (show res = false by rw [HX.out, decide_eq_false h5]; first | done | simp)
    have e5 : (mtime == mtime') = false := by simpa using h5
    clear HX h5
    go_wp2_with fail
    go_ret
    exact ⟨by rw [HV.out]; rfl, by first | exact hq | (rw [← hg]; exact hq)⟩
  have HX := Lib.hid (show res = true by rw [HX.out, decide_eq_true h5])
  have e5 : (mtime == mtime') = true := by simpa using h5
  clear h5
  go_wp2_with fail
  go_ret
  exact ⟨by rw [HX.out]; rfl, by first | exact hq | (rw [← hg]; exact hq)⟩
end Go.Proofs.YtpheifdpjcppdaaGreatDoor

/- The walks of rdep.checkAtom and rdep.check. Printed by gen_rdx.py. -/
import Derived.Test.YtjdcegogkafmoaaDoorRdR
import Derived.Test.YtjdcegogkafmoaaDoorRdJ
namespace Go.Proofs.YtjdcegogkafmoaaDoor
open Go.RowKit
/-- What is wrong with an atom. -/
def cAtom (d : Rdp) : Int := if d.kids.length ≠ 0 then 3 else if nmR d.name = false then 10 else if d.aop < 0 then 1 else if 5 < d.aop then 1 else if d.aop = 0 then (if d.ver = [] then 0 else 1) else vErr 2 d.ver
mutual
/-- What is wrong with a dependency, but for how large it is. -/
def chkR : Rdp → Int
  | .mk op name aop ver kids => match op with
    | [] => cAtom (.mk [] name aop ver kids)
    | c :: t => if knR (c :: t) = false then 9 else if name ≠ [] ∨ aop ≠ 0 ∨ ver ≠ [] then 1 else if clR (c :: t) kids.length = false then 3 else chkRs kids
def chkRs : List Rdp → Int
  | [] => 0
  | d :: l => if chkR d = 0 then chkRs l else chkR d
end
theorem chkR_at (d : Rdp) (h : d.op = []) : chkR d = cAtom d := by
  obtain ⟨op, name, aop, ver, kids⟩ := d
  have h : op = [] := h
  subst h
  rw [chkR.eq_def]
theorem chkR_in (d : Rdp) (h : d.op ≠ []) : chkR d = if knR d.op = false then 9 else if d.name ≠ [] ∨ d.aop ≠ 0 ∨ d.ver ≠ [] then 1 else if clR d.op d.kids.length = false then 3 else chkRs d.kids := by
  obtain ⟨op, name, aop, ver, kids⟩ := d
  have h : op ≠ [] := h
  cases op with
  | nil => exact absurd rfl h
  | cons c t =>
    rw [chkR.eq_def]
    rfl
mutual
/-- All its texts are short. -/
def txR : Rdp → Prop
  | .mk op name _ ver kids => (op.length ≤ 4000 ∧ name.length ≤ 4000 ∧ ver.length ≤ 4000) ∧ txRs kids
def txRs : List Rdp → Prop
  | [] => True
  | d :: l => txR d ∧ txRs l
end
theorem txR_own (d : Rdp) (h : txR d) : (d.op.length ≤ 4000 ∧ d.name.length ≤ 4000 ∧ d.ver.length ≤ 4000) ∧ txRs d.kids := by
  obtain ⟨op, name, aop, ver, kids⟩ := d
  rw [txR] at h
  exact h
theorem txRs_mem {d : Rdp} : ∀ {l : List Rdp}, txRs l → d ∈ l → txR d
  | [], _, h => by cases h
  | x :: l, hx, h => by
    rw [txRs] at hx
    rcases List.mem_cons.1 h with rfl | h
    · exact hx.1
    · exact txRs_mem hx.2 h
theorem TT.below {w w' : World} (h : TT w) (hb : Below w.heap.size w w') : TT w' := h.keep (Kept.of_below hb nowhere) fun _ _ h => h
set_option maxRecDepth 20000 in
set_option maxHeartbeats 16000000 in
theorem catom_any (d : Rdp) (A : Option Addr) (cap : Nat) (w : World) (hT : TT w) (h2 : d.name.length ≤ 4000) (h3 : d.ver.length ≤ 4000) :
    Calls Tryd.prog 33 #[richV d (.slice A d.kids.length cap)] w fun e w' => e = .returned (.int .i64 (cAtom d)) ∧ Below w.heap.size w w' := by
  obtain ⟨T, HT⟩ : ∃ T, Hid (T = cAtom d) := ⟨_, Lib.hid rfl⟩
  rw [← HT.out]
  have HD : Hid (T = if d.kids.length ≠ 0 then 3 else if nmR d.name = false then 10 else if d.aop < 0 then 1 else if 5 < d.aop then 1 else if d.aop = 0 then (if d.ver = [] then 0 else 1) else vErr 2 d.ver) := Lib.hid HT.out
  clear HT
  simp only [richV, richC]
  go_enter Tryd.func33, Tryd.ntmps33
  go_upto_region 1 with fail

  have bk := Blk.new w 27 #[.string (bs d.op), .string (bs d.name), .int .i64 d.aop, .string (bs d.ver), .slice A d.kids.length cap]
  have hb1 := (Below.refl w.heap.size w).alloc (Nat.le_refl _) (.cells #[.string (bs d.op), .string (bs d.name), .int .i64 d.aop, .string (bs d.ver), .slice A d.kids.length cap] 27)
  generalize w.alloc (.cells #[.string (bs d.op), .string (bs d.name), .int .i64 d.aop, .string (bs d.ver), .slice A d.kids.length cap] 27) = W1 at bk hb1 ⊢
  generalize w.heap.size = gk at bk ⊢
  obtain ⟨k0, k1, k2, k3, k4⟩ := outs5 bk

  have TT1 := hT.below hb1
  have hnm := name_any d.name W1 (by omega)
  have hck := check_any 2 d.ver W1 (by omega) TT1.2.2
  clear hT TT1
  by_cases hkl : d.kids.length = 0
  rotate_left
  · have q1 : decide (0 < d.kids.length) = true := decide_eq_true (by omega)
    have q2 : 0 < d.kids.length := by omega
    have hV : T = 3 := by rw [HD.out, if_pos hkl]
    clear hkl HD hnm hck
    go_wp2_with fail
    go_ret
    exact ⟨by rw [hV]; rfl, hb1⟩
  have q1 : decide (0 < d.kids.length) = false := decide_eq_false (by omega)
  have HD1 := Lib.hid (HD.out.trans (if_neg (fun h => h hkl)))
  clear HD
  cases hn : nmR d.name with
  | false =>
    have hV : T = 10 := by rw [HD1.out, if_pos hn]
    rw [hn] at hnm
    clear hn HD1 hkl hck
    go_wp2_with (go_at_call 13; refine hnm.mono ?_; rintro rr Ww ⟨rfl, rfl⟩)
    go_ret
    exact ⟨by rw [hV]; rfl, hb1⟩
  | true =>
    have HD2 := Lib.hid (HD1.out.trans (if_neg (by rw [hn]; decide)))
    rw [hn] at hnm
    clear hn HD1
    go_upto_region 5 with (go_at_call 13; refine hnm.mono ?_; rintro rr Ww ⟨rfl, rfl⟩)
    clear hnm
    by_cases a0 : d.aop < 0
    · have x1 : decide (d.aop < 0) = true := decide_eq_true a0
      have hV : T = 1 := by rw [HD2.out, if_pos a0]
      clear HD2 a0 hck
      go_wp2_with fail
      go_ret
      exact ⟨by rw [hV]; rfl, hb1⟩
    have HD3 := Lib.hid (HD2.out.trans (if_neg a0))
    clear HD2
    by_cases a5 : 5 < d.aop
    · have x1 : decide (d.aop < 0) = false := decide_eq_false a0
      have x2 : decide (5 < d.aop) = true := decide_eq_true a5
      have hV : T = 1 := by rw [HD3.out, if_pos a5]
      clear HD3 a0 a5 hck
      go_wp2_with fail
      go_ret
      exact ⟨by rw [hV]; rfl, hb1⟩
    have HD4 := Lib.hid (HD3.out.trans (if_neg a5))
    clear HD3
    have x1 : decide (d.aop < 0) = false := decide_eq_false a0
    have x2 : decide (5 < d.aop) = false := decide_eq_false a5
    have e1 := eqS d.ver []
    have e1b : (bs d.ver).toList.isEmpty = decide (d.ver = []) := by rw [toList_bs, Bool.eq_iff_iff]; simp
    by_cases az : d.aop = 0
    · have x3 : (d.aop == 0) = true := by simpa using az
      have HD5 := Lib.hid (HD4.out.trans (if_pos az))
      clear HD4 a0 a5 hck az
      by_cases hv : d.ver = []
      · rw [decide_eq_true hv] at e1 e1b
        have hV : T = 0 := by rw [HD5.out, if_pos hv]
        clear HD5 hv
        go_wp2_with fail
        go_ret
        exact ⟨by rw [hV]; rfl, hb1⟩
      · rw [decide_eq_false hv] at e1 e1b
        have hV : T = 1 := by rw [HD5.out, if_neg hv]
        clear HD5 hv
        go_wp2_with fail
        go_ret
        exact ⟨by rw [hV]; rfl, hb1⟩
    · have x3 : (d.aop == 0) = false := by simpa using az
      have hV : T = vErr 2 d.ver := by rw [HD4.out, if_neg az]
      rw [← hV] at hck
      clear HD4 a0 a5 az e1 e1b hV
      go_wp2_with (go_at_call 39; refine hck.mono ?_; clear hck; rintro rr W2 ⟨rfl, hb2⟩)
      go_ret
      exact ⟨rfl, hb1.trans (hb2.mono hb1.size)⟩
end Go.Proofs.YtjdcegogkafmoaaDoor

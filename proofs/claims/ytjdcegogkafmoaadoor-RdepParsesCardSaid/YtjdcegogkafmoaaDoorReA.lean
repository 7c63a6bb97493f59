/- The walk of rdep.Check. Printed by gen_rea.py. -/
import Derived.Test.YtjdcegogkafmoaaDoorRdW
import Derived.Test.YtjdcegogkafmoaaDoorRdY
namespace Go.Proofs.YtjdcegogkafmoaaDoor
open Go.RowKit
/-- What is wrong with a dependency. -/
def chkA (d : Rdp) : Int := if 32 < dR d then 4 else if 64 < atT d then 4 else chkR d
set_option maxRecDepth 20000 in
set_option maxHeartbeats 16000000 in
theorem checkA_any (d : Rdp) (kv : Value) (X : Nat → Prop) (m : Nat) (w : World) (hs : Sk 5 (Rr m) X w kv d.kids) (hm : m ≤ 1000) (hsz : szR d ≤ 1000000) (hT : TT w) (htx : txR d) :
    Calls Tryd.prog 11 #[richV d kv] w fun e w' => e = .returned (.int .i64 (chkA d)) ∧ Below w.heap.size w w' := by
  obtain ⟨A, cap, rfl, hc1, hc2⟩ := hs.form
  unfold maxLen at hc2
  obtain ⟨T, HT⟩ : ∃ T, Hid (T = chkA d) := ⟨_, Lib.hid rfl⟩
  rw [← HT.out]
  have HD : Hid (T = if 32 < dR d then 4 else if 64 < atT d then 4 else chkR d) := Lib.hid HT.out
  have hmm := @run_makeMap Tryd.prog
  clear HT
  have HTX := Lib.hid htx
  have HSZ := Lib.hid hsz
  clear htx hsz
  simp only [richV, richC]
  go_enter Tryd.func11, Tryd.ntmps11
  go_upto_region 1 with fail

  have bk := Blk.new w 27 #[.string (bs d.op), .string (bs d.name), .int .i64 d.aop, .string (bs d.ver), .slice A d.kids.length cap]
  have hb1 := (Below.refl w.heap.size w).alloc (Nat.le_refl _) (.cells #[.string (bs d.op), .string (bs d.name), .int .i64 d.aop, .string (bs d.ver), .slice A d.kids.length cap] 27)
  generalize w.alloc (.cells #[.string (bs d.op), .string (bs d.name), .int .i64 d.aop, .string (bs d.ver), .slice A d.kids.length cap] 27) = W1 at bk hb1 ⊢
  generalize w.heap.size = gk at bk ⊢
  obtain ⟨k0, k1, k2, k3, k4⟩ := outs5 bk

  have TT1 := hT.below hb1
  have hs1 := Below.sk (good_rich m) hb1 hs
  clear hT hs
  have hdp := depth_any d _ X m W1 hs1 hm HSZ.out
  simp only [richV, richC] at hdp
  by_cases h32 : 32 < dR d
  · have q1 : decide ((dR d : Int) > 32) = true := decide_eq_true (by omega)
    have q2 : (32 : Int) < (dR d : Int) := by omega
    have q3 : decide ((32 : Int) < (dR d : Int)) = true := decide_eq_true q2
    have hV : T = 4 := by rw [HD.out, if_pos h32]
    clear HD
    generalize dR d = D at hdp h32 q1 q2 q3
    go_wp2_with (go_at_call 12; refine hdp.mono ?_; clear hdp; rintro rr W2 ⟨rfl, hb2⟩)
    go_ret
    exact ⟨by first | rfl | (rw [hV]; rfl), hb1.trans (hb2.mono hb1.size)⟩
  have HD1 := Lib.hid (HD.out.trans (if_neg h32))
  have q1 : decide ((dR d : Int) > 32) = false := decide_eq_false (by omega)
  have q2 : ¬ (32 : Int) < (dR d : Int) := by omega
  have q3 : decide ((32 : Int) < (dR d : Int)) = false := decide_eq_false q2
  clear HD
  generalize dR d = D at hdp h32 q1 q2 q3
  by_cases h64 : 64 < atT d
  · have hx : min (atT d) 65 = 65 := by omega
    have hV : T = 4 := by rw [HD1.out, if_pos h64]
    clear HD1 h64
    go_wp2_with (first
      | (go_at_call 12; refine hdp.mono ?_; clear hdp; rintro rr W2 ⟨rfl, hb2⟩; have bk2 := bk.below hb2 bk.lt; obtain ⟨k0, k1, k2, k3, k4⟩ := outs5 bk2; have hs2 := Below.sk (good_rich m) hb2 hs1)
      | (go_at_call 21; refine (atoms_all m d _ (W2.alloc (.map #[] 0)) (W2.alloc (.map #[] 0)) W2.heap.size (by simp) (Kept.refl _ _) ((hs2.mono (Y := fun k => k = W2.heap.size) (good_rich m) (by omega) fun k hk e => by omega).keep (good_rich m) (Kept.of_below ((Below.refl _ _).alloc (Nat.le_refl _) _) _)) ⟨_, [], (MapKept.heap_alloc W2 _).1, MapK.nil, fun p hp => by cases hp⟩).mono ?_; rintro rr W3 ⟨rfl, hk3, _⟩; rw [hx]))
    go_ret
    exact ⟨by first | rfl | (rw [hV]; rfl), hb1.trans ((hb2.trans ((((Below.refl _ _).alloc (Nat.le_refl _) _).trans (hk3.below (by simp) fun k _ e => by omega)).mono hb2.size)).mono hb1.size)⟩
  · have hx : Hid (min (atT d) 65 = atT d) := Lib.hid (by omega)
    have hV : T = chkR d := by rw [HD1.out, if_neg h64]
    obtain ⟨N, HN⟩ : ∃ N, Hid (min (atT d) 65 = N) := ⟨_, Lib.hid rfl⟩
    have h64b : N ≤ 64 := by rw [← HN.out]; omega
    have p1 : decide ((N : Int) > 64) = false := decide_eq_false (by omega)
    have p2 : ¬ (64 : Int) < (N : Int) := by omega
    have p3 : decide ((64 : Int) < (N : Int)) = false := decide_eq_false p2
    clear HD1 h64
    go_upto_region 3 with (first
      | (go_at_call 12; refine hdp.mono ?_; clear hdp; rintro rr W2 ⟨rfl, hb2⟩; have bk2 := bk.below hb2 bk.lt; obtain ⟨k0, k1, k2, k3, k4⟩ := outs5 bk2; have hs2 := Below.sk (good_rich m) hb2 hs1)
      | (go_at_call 21; refine (atoms_all m d _ (W2.alloc (.map #[] 0)) (W2.alloc (.map #[] 0)) W2.heap.size (by simp) (Kept.refl _ _) ((hs2.mono (Y := fun k => k = W2.heap.size) (good_rich m) (by omega) fun k hk e => by omega).keep (good_rich m) (Kept.of_below ((Below.refl _ _).alloc (Nat.le_refl _) _) _)) ⟨_, [], (MapKept.heap_alloc W2 _).1, MapK.nil, fun p hp => by cases hp⟩).mono ?_; rintro rr W3 ⟨rfl, hk3, _⟩; rw [HN.out]))
    have hb3 : Below W1.heap.size W1 W3 := hb2.trans ((((Below.refl _ _).alloc (Nat.le_refl _) _).trans (hk3.below (by simp) fun k _ e => by omega)).mono hb2.size)
    have bk3 := bk.below hb3 bk.lt
    obtain ⟨k0, k1, k2, k3, k4⟩ := outs5 bk3
    have hch := check_all m d _ X W3 (Below.sk (good_rich m) hb3 hs1) (TT1.below hb3) HTX.out
    simp only [richV, richC] at hch
    rw [← hV] at hch
    clear hV hk3 hb2 bk2 hs2
    go_wp2_with (go_at_call 22; refine hch.mono ?_; clear hch; rintro rr W4 ⟨rfl, hb4⟩)
    go_ret
    exact ⟨rfl, hb1.trans ((hb3.trans (hb4.mono hb3.size)).mono hb1.size)⟩
end Go.Proofs.YtjdcegogkafmoaaDoor

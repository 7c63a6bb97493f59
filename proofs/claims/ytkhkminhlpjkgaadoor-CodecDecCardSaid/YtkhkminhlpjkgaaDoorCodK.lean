/- The walk of the law on signs of six bits. -/
import Derived.Test.YtkhkminhlpjkgaaDoorCodJ
namespace Go.Proofs.YtkhkminhlpjkgaaDoor
open Go.RowKit
theorem unbase64_base (l : List UInt8) (w : World) (hl : l.length ≤ 2000) : Calls Tryd.prog 14 #[.string ⟨(base64L l).toArray⟩] w (GivesB 5 w (fun v => .tuple #[v, .int .i64 0]) l) := by
  have h := unbase64_any ⟨(base64L l).toArray⟩ w (by show (base64L l).toArray.size ≤ _; rw [List.size_toArray, base64L_length]; omega)
  have e1 : un64Code (⟨(base64L l).toArray⟩ : ByteArray).data.toList = 0 := (un64_back l).1
  have e2 : un64R (⟨(base64L l).toArray⟩ : ByteArray).data.toList = l := (un64_back l).2
  rw [e1, e2] at h
  exact h
set_option maxHeartbeats 2000000 in
theorem law_base64 (v : Value) (l : List UInt8) (s : ByteArray) (w : World) (h : SB w v l) (hs : s.size ≤ maxLen) :
    Calls Tryd.prog 4 #[v, .string s] w fun e w' => e = .returned (.bool true) ∧ Below w.heap.size w w' := by
  have h' := h
  obtain ⟨A, cap, rfl, hc1, hc2, hc3, hc4⟩ := h'
  clear hc4 hc3
  unfold maxLen at hs hc2
  by_cases hl : 2000 < l.length
  · have hd : decide ((2000 : Int) < (l.length : Int)) = true := by simp; omega
    go_enter Tryd.func4, Tryd.ntmps4
    go_wp2_with (go_at_call 9; refine (awake_any _).mono ?_; rintro e w1 ⟨rfl, hb1⟩)
    go_ret
    exact ⟨rfl, hb1⟩
  · have hd : decide ((2000 : Int) < (l.length : Int)) = false := by simp; omega
    by_cases hl2 : 2000 < s.size
    · have hd2 : decide ((2000 : Int) < (s.size : Int)) = true := by simp; omega
      go_enter Tryd.func4, Tryd.ntmps4
      go_wp2_with (go_at_call 9; refine (awake_any _).mono ?_; rintro e w1 ⟨rfl, hb1⟩)
      go_ret
      exact ⟨rfl, hb1⟩
    · have hd2 : decide ((2000 : Int) < (s.size : Int)) = false := by simp; omega
      have hlh : (base64L l).length ≤ 4000 := by rw [base64L_length]; omega
      go_enter Tryd.func4, Tryd.ntmps4
      go_wp2_with (go_at_call 9; refine (awake_any _).mono ?_; rintro e w1 ⟨rfl, hb1⟩)
      refine (unbase64_any s _ (by omega)).mono ?_
      rintro e w2 ⟨v2, rfl, hown2, hb2⟩
      go_wp2_with fail
      refine (runbase64_any s _ (by omega)).mono ?_
      rintro e w3 ⟨v3, rfl, hown3, hb3⟩
      obtain ⟨A3, cap3, rfl⟩ := own_form hown3
      have t1 : SB w3 (.slice A l.length cap) l := h.below (below_trans hb1 (below_trans hb2 hb3))
      have t2 : SB w3 v2 (un64R s.data.toList) := (SB.of_own hown2).below hb3
      have t3 := SB.of_own hown3
      go_wp2_with fail
      refine (base64_any _ l _ (t1.alloc _) (by omega)).mono ?_
      rintro e w5 ⟨rfl, hb5⟩
      have B5 : Blk w5 w3.heap.size 28 _ := (Blk.new w3 _ _).below hb5 (by simp)
      have p1 := (t1.alloc _).below hb5
      have p2 := (t2.alloc _).below hb5
      have p3 := (t3.alloc _).below hb5
      have q5 : Below w.heap.size w w5 := below_trans hb1 (below_trans hb2 (below_trans hb3 (below_trans ((Below.refl _ _).alloc (Nat.le_refl _) _) hb5)))
      clear hb5 t1 t2 t3
      go_wp2_with fail
      refine (unbase64_base l _ (by omega)).mono ?_
      rintro e w6 ⟨v6, rfl, hown6, hb6⟩
      have r1 := p1.below hb6
      have r2 := p2.below hb6
      have r3 := p3.below hb6
      have B6 := B5.below hb6 B5.lt
      have q6 := below_trans q5 hb6
      clear p1 p2 p3 B5 hb6 q5
      go_wp2_with fail
      refine (base64_any _ l _ r1 (by omega)).mono ?_
      rintro e w7 ⟨rfl, hb7⟩
      have u1 := r1.below hb7
      have u2 := r2.below hb7
      have u3 := r3.below hb7
      have u6 := (SB.of_own hown6).below hb7
      have B7 := B6.below hb7 B6.lt
      have q7 := below_trans q6 hb7
      clear r1 r2 r3 B6 hb7 q6
      go_wp2_with fail
      refine (rbase64_any _ l _ u1 (by omega)).mono ?_
      rintro e w8 ⟨rfl, hb8⟩
      have c1 := str8 (u1.below hb8)
      have c2 := str8 (u2.below hb8)
      have c3 := str8 (u3.below hb8)
      have c6 := str8 (u6.below hb8)
      have B8 := B7.below hb8 B7.lt
      have d0 := B8.cell 0
      have d1 := B8.cell 1
      have d2 := B8.cell 2
      have q8 := below_trans q7 hb8
      clear u1 u2 u3 u6 B7 hb8 q7
      simp at d0 d1 d2
      go_wp2_with fail
      go_ret
      exact ⟨rfl, q8⟩
end Go.Proofs.YtkhkminhlpjkgaaDoor

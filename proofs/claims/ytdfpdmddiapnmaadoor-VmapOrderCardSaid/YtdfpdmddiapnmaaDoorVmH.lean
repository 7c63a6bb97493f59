/- Versions translated, and back again: plain; the walk of the law on that. -/
import Derived.Test.YtdfpdmddiapnmaaDoorVmG
import Derived.Test.YtdfpdmddiapnmaaDoorVmU
namespace Go.Proofs.YtdfpdmddiapnmaaDoor
open Go.RowKit
theorem tr_of (a b : Int) (s x : List UInt8) (h : trC a b s = (x, 0)) : fmtOk a = true ∧ fmtOk b = true ∧ ∃ c, paC a s = (c, 0) ∧ prC b c = (x, 0) := by
  unfold trC at h
  split at h
  · rename_i hf
    split at h
    · rename_i h0
      exact ⟨hf.1, hf.2, (paC a s).1, by rw [← h0], h⟩
    · rename_i h0
      injection h with _ h
      exact absurd h h0
  · injection h with _ h
    cases h
theorem tr_make (a b : Int) (s x : List UInt8) (c : Co) (ha : fmtOk a = true) (hb : fmtOk b = true) (h : paC a s = (c, 0)) (hx : prC b c = (x, 0)) : trC a b s = (x, 0) := by
  unfold trC
  rw [if_pos ⟨ha, hb⟩, h, if_pos rfl, hx]
theorem prC_bad (f : Int) (c : Co) (h : (prC f c).2 ≠ 0) : (prC f c).1 = [] := by
  unfold prC at h ⊢
  split at h
  · split at h
    · exact absurd rfl h
    · rename_i h1 h2; rw [if_pos h1, if_neg h2]
  · rename_i h1; rw [if_neg h1]
theorem tr_bad (a b : Int) (s : List UInt8) (h : (trC a b s).2 ≠ 0) : (trC a b s).1 = [] := by
  unfold trC at h ⊢
  split at h
  · rename_i h1
    rw [if_pos h1]
    split at h
    · rename_i h2
      rw [if_pos h2]
      exact prC_bad _ _ h
    · rename_i h2; rw [if_neg h2]
  · rename_i h1; rw [if_neg h1]
theorem tr_back (a b : Int) (s x : List UInt8) (h : trC a b s = (x, 0)) : trC b a x = (s, 0) := by
  obtain ⟨ha, hb, c, h1, h2⟩ := tr_of a b s x h
  exact tr_make b a x s c hb ha (read_core b c x h2) (core_read a c s h1)
theorem tr_by (a b d : Int) (s x y : List UInt8) (h : trC a b s = (x, 0)) (k : trC a d s = (y, 0)) : trC d b y = (x, 0) := by
  obtain ⟨ha, hb, c, h1, h2⟩ := tr_of a b s x h
  obtain ⟨_, hd, c', k1, k2⟩ := tr_of a d s y k
  have : c' = c := by rw [h1] at k1; injection k1 with e _; exact e.symm
  subst this
  exact tr_make d b y x c' hd hb (read_core d c' y k2) h2
theorem pr_len (f : Int) (c : Co) (x : List UInt8) (h : prC f c = (x, 0)) : x.length ≤ 64 := by
  obtain ⟨rfl, hf, hc, _, _⟩ := back_core f c x h
  have hF := fit_of f c hc
  simp only [fmtOk, Bool.or_eq_true, decide_eq_true_eq] at hf
  rcases hf with (rfl | rfl) | rfl
  · have := hF.len; omega
  · rw [text2]; have := hF.len; omega
  · have := (hF.apk rfl).2; omega
theorem tr_len (a b : Int) (s x : List UInt8) (h : trC a b s = (x, 0)) : x.length ≤ 64 := by
  obtain ⟨_, _, c, _, h2⟩ := tr_of a b s x h
  exact pr_len b c x h2
def vw1 : List UInt8 := [49, 46, 50, 126, 98, 101, 116, 97, 50, 45, 49]
def vw2 : List UInt8 := [49, 58, 49, 46, 50, 45, 49]
def vw3 : List UInt8 := [49, 46, 50, 95, 98, 101, 116, 97, 50, 45, 114, 49]
set_option maxRecDepth 100000 in
theorem vw_1 : trC 1 3 vw1 = (vw3, 0) := by decide +kernel
set_option maxRecDepth 100000 in
theorem vw_2 : trC 1 3 vw2 = ([], 11) := by decide +kernel
theorem vw_list : (bs vw3).toList = [49, 46, 50, 95, 98, 101, 116, 97, 50, 45, 114, 49] := by decide +kernel
theorem vw_nil : (bs []).toList = [] := by decide +kernel
/-- What the laws on cores take from the package's variables. -/
structure VarV (w : World) : Prop where
  ww : Words w
  tt : Tab w
  pp : Pres w
theorem VarV.below {w w' : World} (h : VarV w) (hb : Below w.heap.size w w') : VarV w' := ⟨h.ww.below hb, h.tt.below hb, h.pp.below hb⟩
theorem awakeM (w : World) (h : VarV w) : Calls Tryd.prog 7 #[] w fun e w' => e = .returned (.bool true) ∧ Below w.heap.size w w' := by
  have e1 := vw_list
  have e2 := vw_nil
  go_enter Tryd.func7, Tryd.ntmps7
  go_wp2_with fail
  refine (vtrans_any 1 3 vw1 _ (by decide) h.ww h.tt h.pp).mono ?_
  rw [vw_1]
  rintro e w1 ⟨rfl, hb1⟩
  have h1 := h.below hb1
  go_wp2_with fail
  refine (vtrans_any 1 3 vw2 _ (by decide) h1.ww h1.tt h1.pp).mono ?_
  rw [vw_2]
  rintro e w2 ⟨rfl, hb2⟩
  go_wp2_with fail
  go_ret
  exact ⟨rfl, below_trans hb1 hb2⟩
set_option maxRecDepth 20000 in
set_option maxHeartbeats 8000000 in
theorem law_back (a d b : Int) (s : ByteArray) (w : World) (hs : s.size ≤ maxLen) (h : VarV w) :
    Calls Tryd.prog 4 #[.int .i64 a, .int .i64 d, .int .i64 b, .string s] w fun e w' => e = .returned (.bool true) ∧ Below w.heap.size w w' := by
  obtain ⟨l, rfl⟩ : ∃ l, s = bs l := ⟨_, bs_self s⟩
  clear hs
  have hz : ((bs l).size : Int) = (l.length : Int) := by rw [bs_size]
  go_enter Tryd.func4, Tryd.ntmps4
  go_wp2_with fail
  refine (awakeM _ h).mono ?_
  rintro e w1 ⟨rfl, hb1⟩
  have h1 := h.below hb1
  by_cases h2 : 2000 < l.length
  · have hd : decide ((2000 : Int) < ((bs l).size : Int)) = true := by rw [hz]; simp; omega
    go_wp2_with fail
    go_ret
    exact ⟨rfl, hb1⟩
  · have hd : decide ((2000 : Int) < ((bs l).size : Int)) = false := by rw [hz]; simp; omega
    have hl : l.length ≤ 2000 := by omega
    clear hz h2
    have c1 := vtrans_any a b l w1 hl h1.ww h1.tt h1.pp
    obtain ⟨⟨x, y⟩, H1⟩ : ∃ p, Hid (trC a b l = p) := ⟨_, Lib.hid rfl⟩
    rw [H1.out] at c1
    go_wp2_with fail
    refine c1.mono ?_
    rintro e w2 ⟨rfl, hb2⟩
    have h2 := h1.below hb2
    have q2 := below_trans hb1 hb2
    by_cases hy : y = 0
    · subst hy
      have hxl : x.length ≤ 2000 := by have := tr_len a b l x H1.out; omega
      have c2 := vtrans_any b a x w2 hxl h2.ww h2.tt h2.pp
      rw [tr_back a b l x H1.out] at c2
      have e1 := beq_bs l
      have e2 := beq_bs x
      clear c1
      go_wp2_with fail
      refine c2.mono ?_
      rintro e w3 ⟨rfl, hb3⟩
      have h3 := h2.below hb3
      have q3 := below_trans q2 hb3
      have c3 := vtrans_any a d l w3 hl h3.ww h3.tt h3.pp
      obtain ⟨⟨u, v⟩, H3⟩ : ∃ p, Hid (trC a d l = p) := ⟨_, Lib.hid rfl⟩
      rw [H3.out] at c3
      clear c2
      go_wp2_with fail
      refine c3.mono ?_
      rintro e w4 ⟨rfl, hb4⟩
      have h4 := h3.below hb4
      have q4 := below_trans q3 hb4
      by_cases hv : v = 0
      · subst hv
        have hul : u.length ≤ 2000 := by have := tr_len a d l u H3.out; omega
        have c4 := vtrans_any d b u w4 hul h4.ww h4.tt h4.pp
        rw [tr_by a b d l x u H1.out H3.out] at c4
        clear c3
        go_wp2_with fail
        refine c4.mono ?_
        rintro e w5 ⟨rfl, hb5⟩
        go_wp2_with fail
        go_ret
        exact ⟨rfl, below_trans q4 hb5⟩
      · have b1 : (v != 0) = true := by simpa using hv
        clear hv c3
        go_wp2_with fail
        go_ret
        exact ⟨rfl, q4⟩
    · have b1 : (y != 0) = true := by simpa using hy
      have hx : x = [] := by have := tr_bad a b l (by rw [H1.out]; exact hy); rw [H1.out] at this; exact this
      subst hx
      have e2 := vw_nil
      clear hy
      go_wp2_with fail
      go_ret
      exact ⟨rfl, q2⟩
abbrev I64 (n : Int) : Prop := -9223372036854775808 ≤ n ∧ n ≤ 9223372036854775807
theorem law_backR (a d b : Int) (s : ByteArray) (w : World) (_ : I64 a) (_ : I64 d) (_ : I64 b) (hs : s.size ≤ maxLen) (h2 : Tab w) (h1 : Words w) (h3 : Pres w) :
    Calls Tryd.prog 4 #[.int .i64 a, .int .i64 d, .int .i64 b, .string s] w fun e w' => e = .returned (.bool true) ∧ Below w.heap.size w w' := law_back a d b s w hs ⟨h1, h2, h3⟩
end Go.Proofs.YtdfpdmddiapnmaaDoor

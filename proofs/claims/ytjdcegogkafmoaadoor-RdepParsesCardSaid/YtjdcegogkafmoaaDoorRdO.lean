/- What drayageref15's State has in memory beside tokens; the walk of its atom. Printed by gen_rdo.py. -/
import Derived.Test.YtjdcegogkafmoaaDoorRdN
namespace Go.Proofs.YtjdcegogkafmoaaDoor
open Go.RowKit
theorem tkR_self (s : List UInt8) : ∀ (n p : Nat), s.length - p ≤ n → p ≤ s.length → ∀ (t : List UInt8) (a : Nat) (r : List Tk), tkR s p = (t, a) :: r → tkR s a = (t, a) :: r
  | 0, p, hn, hp, t, a, r, h => by
    rw [tkR_end s p (by omega)] at h
    injection h with h1 h2
    injection h1 with h1 h3
    subst h1 h2 h3
    exact tkR_end s p (by omega)
  | n + 1, p, hn, hp, t, a, r, h => by
    by_cases hlt : p < s.length
    · have h0 := h
      rw [tkR_at s p hlt] at h
      split at h
      · exact tkR_self s n (p + 1) (by omega) (by omega) t a r h
      · split at h
        · injection h with h1 h2
          injection h1 with h1 h3
          rw [h3] at h0
          exact h0
        · injection h with h1 h2
          injection h1 with h1 h3
          rw [h3] at h0
          exact h0
    · rw [tkR_end s p (by omega)] at h
      injection h with h1 h2
      injection h1 with h1 h3
      subst h1 h2 h3
      exact tkR_end s p (by omega)
theorem tkR_cons {s : List UInt8} {p : Nat} {t : List UInt8} {a : Nat} {r : List Tk} (h : tkR s p = (t, a) :: r) (hp : p ≤ s.length) :
    tkR s a = (t, a) :: r ∧ p ≤ a ∧ a + t.length ≤ s.length ∧ (t ≠ [] → tkR s (a + t.length) = r) := by
  obtain ⟨t', a', r', h1, h2, h3, h4, h5⟩ := tkR_ne s s.length p (by omega) hp
  rw [h] at h1
  injection h1 with h6 h7
  injection h6 with h6 h8
  subst h6 h7 h8
  exact ⟨tkR_self s s.length p (by omega) hp _ _ _ h, h2, h3, fun hne => (h5 hne).1.symm⟩
/-- State stands before these tokens. -/
def DS (W : World) (gx : Nat) (s : List UInt8) (ts : List Tk) (n : Nat) : Prop :=
  ∃ p : Nat, p ≤ s.length ∧ tkR s p = ts ∧ Blk W gx 52 #[.string (bs s), .int .i64 (p : Int), .string ⟨#[]⟩, .int .i64 0, .int .i64 0, .int .i64 (n : Int)]
theorem DS.below {W W' : World} {gx : Nat} {s : List UInt8} {ts : List Tk} {n : Nat} (h : DS W gx s ts n) (hb : Below W.heap.size W W') : DS W' gx s ts n := by
  obtain ⟨p, h1, h2, h3⟩ := h
  exact ⟨p, h1, h2, h3.below hb h3.lt⟩
theorem DS.keep {W W' : World} {gx : Nat} {s : List UInt8} {ts : List Tk} {n : Nat} {X : Nat → Prop} (h : DS W gx s ts n) (k : Kept X W W') (hX : ¬ X gx) : DS W' gx s ts n := by
  obtain ⟨p, h1, h2, h3⟩ := h
  exact ⟨p, h1, h2, k.blk h3 hX⟩
theorem DS.lt {W : World} {gx : Nat} {s : List UInt8} {ts : List Tk} {n : Nat} (h : DS W gx s ts n) : gx < W.heap.size := by
  obtain ⟨p, h1, h2, h3⟩ := h
  exact h3.lt
/-- look, as tokens are seen. -/
theorem rlook_ds (gx : Nat) (s : List UInt8) (t : List UInt8) (a : Nat) (r : List Tk) (n : Nat) (W : World) (hs : s.length ≤ 900000) (h : DS W gx s ((t, a) :: r) n) :
    Calls Tryd.prog 18 #[.pointer (some ⟨gx, 0, none⟩)] W fun e w' => e = .returned (.string (bs t)) ∧ Blk w' gx 52 #[.string (bs s), .int .i64 (a : Int), .string ⟨#[]⟩, .int .i64 0, .int .i64 0, .int .i64 (n : Int)] ∧ Kept (fun k => k = gx) W w' := by
  obtain ⟨p, hp, h2, h3⟩ := h
  refine (rlook_any gx s p n 0 0 W hp hs h3).mono ?_
  rintro e w' ⟨t', a', r', h4, h5, h6, h7, h8⟩
  rw [h2] at h4
  injection h4 with h9 _
  injection h9 with h9 h10
  subst h9 h10
  exact ⟨h5, h7, h8⟩
theorem SlS.of {s : List UInt8} {p : Nat} {t : List UInt8} {a : Nat} {r : List Tk} (h : tkR s p = (t, a) :: r) (hp : p ≤ s.length) (hs : s.length ≤ 900000) : t.length ≤ 1000000 := by
  have := (tkR_cons h hp).2.2.1
  omega
/-- The document's dependency, as it is in memory; a fault is in State. -/
def DepD (gx : Nat) (s : List UInt8) (m : Nat) (w : World) (len : Nat) (res : PR) (r : Ending) (w' : World) : Prop :=
  Kept (fun k => k = gx) w w' ∧ match res with
  | .err a c => c ≠ 0 ∧ (∃ (dd : Rdp) (A : Option Addr) (n cap : Nat), r = .returned (richV dd (.slice A n cap))) ∧ ∃ p' n' : Nat, Blk w' gx 52 #[.string (bs s), .int .i64 (p' : Int), .string ⟨#[]⟩, .int .i64 (a : Int), .int .i64 c, .int .i64 (n' : Int)]
  | .ok d ts n => (∃ kv, r = .returned (richV d kv) ∧ Sk 5 (Rr m) (fun k => k < w.heap.size) w' kv d.kids) ∧ WfT ts ∧ ts.length < len ∧ DS w' gx s ts n ∧ n ≤ 64
structure XT (w W : World) (gx gA : Nat) (st : Array Value) : Prop where
  kept : Kept (fun k => k = gx) w W
  bx : Blk W gx 52 st
  bA : Blk W gA 27 #[.string ⟨#[]⟩, .string ⟨#[]⟩, .int .i64 0, .string ⟨#[]⟩, .slice none 0 0]
  hA : w.heap.size ≤ gA
theorem XT.next {w W W' : World} {gx gA : Nat} {st st' : Array Value} (h : XT w W gx gA st) (hx : Blk W' gx 52 st') (k : Kept (fun k => k = gx) W W') (hgW : gx < w.heap.size) : XT w W' gx gA st' :=
  ⟨h.kept.trans k, hx, k.blk h.bA (fun e => by have := h.hA; omega), h.hA⟩
theorem XT.below {w W W' : World} {gx gA : Nat} {st : Array Value} (h : XT w W gx gA st) (hb : Below W.heap.size W W') : XT w W' gx gA st :=
  ⟨h.kept.trans (Kept.of_below hb _), h.bx.below hb h.bx.lt, h.bA.below hb h.bA.lt, h.hA⟩
theorem XT.set {w W : World} {gx gA : Nat} {st : Array Value} (h : XT w W gx gA st) (hgW : gx < w.heap.size) (i : Nat) (u : Value) : XT w (W.setCell ⟨gx, i, none⟩ u) gx gA (st.setIfInBounds i u) :=
  h.next (h.bx.set (u := u) i) ((Kept.refl (fun k => k = gx) W).setCell (p := ⟨gx, i, none⟩) u fun _ => rfl) hgW
theorem ret_rich {W : World} {gA : Nat} {x0 x1 x2 x3 x4 : Value} (bA : Blk W gA 27 #[x0, x1, x2, x3, x4]) (a0 a1 a2 a3 a4 : Value) :
    ∃ W9, W9 = ((((W.setCell ⟨gA, 0, none⟩ a0).setCell ⟨gA, 1, none⟩ a1).setCell ⟨gA, 2, none⟩ a2).setCell ⟨gA, 3, none⟩ a3).setCell ⟨gA, 4, none⟩ a4 ∧ Blk W9 gA 27 #[a0, a1, a2, a3, a4] ∧ Kept (fun k => k = gA) W W9 :=
  ⟨_, rfl, blk_of5 bA a0 a1 a2 a3 a4, kept_set5 W gA a0 a1 a2 a3 a4⟩
theorem blk_outs {W : World} {gA : Nat} {x0 x1 x2 x3 x4 : Value} (h : Blk W gA 27 #[x0, x1, x2, x3, x4]) :
    W.cell? ⟨gA, 0, none⟩ = some x0 ∧ W.cell? ⟨gA, 1, none⟩ = some x1 ∧ W.cell? ⟨gA, 2, none⟩ = some x2 ∧ W.cell? ⟨gA, 3, none⟩ = some x3 ∧ W.cell? ⟨gA, 4, none⟩ = some x4 ∧ (∀ i, W.frozen? ⟨gA, i, none⟩ = false) := by
  have a0 := h.cell 0
  have a1 := h.cell 1
  have a2 := h.cell 2
  have a3 := h.cell 3
  have a4 := h.cell 4
  simp at a0 a1 a2 a3 a4
  exact ⟨a0, a1, a2, a3, a4, fun i => h.frozen i⟩
theorem init1 (w : World) : ∃ W gA, W = w.alloc (.cells #[.string ⟨#[]⟩, .string ⟨#[]⟩, .int .i64 0, .string ⟨#[]⟩, .slice none 0 0] 27) ∧ gA = w.heap.size ∧ Blk W gA 27 #[.string ⟨#[]⟩, .string ⟨#[]⟩, .int .i64 0, .string ⟨#[]⟩, .slice none 0 0] ∧ Below w.heap.size w W ∧ w.heap.size ≤ gA :=
  ⟨_, _, rfl, rfl, Blk.new w _ _, (Below.refl _ w).alloc (Nat.le_refl _) _, Nat.le_refl _⟩
set_option maxRecDepth 20000 in
set_option maxHeartbeats 16000000 in
theorem ratom_any (gx : Nat) (s t : List UInt8) (a : Nat) (r : List Tk) (n m : Nat) (W : World) (hs : s.length ≤ 900000) (ha : a ≤ s.length) (htk : tkR s a = (t, a) :: r) (ht : t ≠ []) (hwf : WfT ((t, a) :: r)) (hn : n ≤ 64)
    (hB : Blk W gx 52 #[.string (bs s), .int .i64 (a : Int), .string ⟨#[]⟩, .int .i64 0, .int .i64 0, .int .i64 (n : Int)]) :
    Calls Tryd.prog 30 #[.pointer (some ⟨gx, 0, none⟩), .string (bs t)] W (DepD gx s m W ((t, a) :: r).length (atomP ((t, a) :: r) n)) := by
  have HP : Hid (atomP ((t, a) :: r) n = if n = 64 then .err a 4 else if nmR t = false then .err a 10 else atom1 (t, a) r n) := Lib.hid rfl
  obtain ⟨_, _, htl, htn⟩ := tkR_cons htk ha
  have htn := htn ht
  have hgW := hB.lt
  have hwr := hwf.next ht
  have hbt := bs_size t
  obtain ⟨R, HR⟩ : ∃ R, Hid (atomP ((t, a) :: r) n = R) := ⟨_, Lib.hid rfl⟩
  rw [HR.out] at HP ⊢
  have HTK := Lib.hid htk
  have HTN := Lib.hid htn
  have hlt0 : 0 < t.length := List.length_pos_iff.2 ht
  clear htk htn ht hwf
  obtain ⟨W1, gA, hW1, hgA, bA, hb1, hA⟩ := init1 W
  have w1 : IntKind.i64.wrap ((n : Int) + 1) = (n : Int) + 1 := i64_in _ (by omega) (by omega)
  go_enter Tryd.func30, Tryd.ntmps30
  go_upto_region 1 with fail
  rw [← hW1, ← hgA]
  have xt0 : XT W W1 gx gA #[.string (bs s), .int .i64 (a : Int), .string ⟨#[]⟩, .int .i64 0, .int .i64 0, .int .i64 (n : Int)] := ⟨Kept.of_below hb1 _, hB.below hb1 hgW, bA, hA⟩
  clear hW1 hgA bA hb1
  have z5 := xt0.bx.cell 5
  have f5 := xt0.bx.frozen 5
  simp at z5
  go_upto_region 2 with fail
  have xt1 : XT W (W1.setCell ⟨gx, 5, none⟩ (.int .i64 ((n : Int) + 1))) gx gA #[.string (bs s), .int .i64 (a : Int), .string ⟨#[]⟩, .int .i64 0, .int .i64 0, .int .i64 ((n : Int) + 1 : Int)] := xt0.set hgW 5 (.int .i64 ((n : Int) + 1))
  clear xt0 z5 f5 w1
  generalize W1.setCell ⟨gx, 5, none⟩ (.int .i64 ((n : Int) + 1)) = W2 at xt1 ⊢
  have z5 := xt1.bx.cell 5
  simp at z5
  by_cases h64 : n = 64
  · have q64 : decide ((n : Int) + 1 > 64) = true := decide_eq_true (by omega)
    have q66 : decide (64 < (n : Int) + 1) = true := decide_eq_true (by omega)
    have HV : Hid (R = .err a 4) := Lib.hid (by rw [HP.out, if_pos h64])
    clear HP h64
    have hbad := rbad_any gx s a (n + 1) 0 0 (4) W2 xt1.bx
    go_wp2_with (go_at_call 19; refine hbad.mono ?_; clear hbad; rintro rr W8 ⟨rfl, hx8, hk8⟩; have xt8 := xt1.next hx8 hk8 hgW; obtain ⟨q0, q1, q2, q3, q4, eA⟩ := blk_outs xt8.bA; have eA0 := eA 0; have eA1 := eA 1; have eA2 := eA 2; have eA3 := eA 3; have eA4 := eA 4)

    obtain ⟨W9, hW9, c1, k9⟩ := ret_rich xt8.bA (.string ⟨#[]⟩) (.string ⟨#[]⟩) (.int .i64 0) (.string ⟨#[]⟩) (.slice none 0 0)
    rw [← hW9]
    have hk9 : Kept (fun k => k = gx) W W9 := xt8.kept.cutR k9 fun i e => .inr (by rw [e]; exact xt8.hA)
    have bx9 := k9.blk xt8.bx fun e => by have := xt8.hA; omega
    have k0 := c1.cell 0
    have k1 := c1.cell 1
    have k2 := c1.cell 2
    have k3 := c1.cell 3
    have k4 := c1.cell 4
    simp at k0 k1 k2 k3 k4
    refine bodyPost_ret (v := .agg #[.string ⟨#[]⟩, .string ⟨#[]⟩, .int .i64 0, .string ⟨#[]⟩, .slice none 0 0]) (by simp [results, Tryd.results30, go_sem, k0, k1, k2, k3, k4]) rfl ?_

    rw [HV.out]
    exact And.intro hk9 (And.intro (by decide) ⟨⟨.mk [] [] 0 [] [], none, 0, 0, rfl⟩, _, _, bx9⟩)
  have q66 : decide (64 < (n : Int) + 1) = false := decide_eq_false (by omega)
  have HP2 := Lib.hid (HP.out.trans (if_neg h64))
  clear HP
  have hnm := rname_any t
  cases hnb : nmR t with
  | false =>
    have HV : Hid (R = .err a 10) := Lib.hid (by rw [HP2.out, if_pos hnb])
    rw [hnb] at hnm
    clear HP2 hnb
    go_upto_region 6 with (go_at_call 40; refine (hnm _ (by omega)).mono ?_; rintro rr W3 ⟨rfl, rfl⟩)
    have hbad := rbad_any gx s a (n + 1) 0 0 (10) W2 xt1.bx
    go_wp2_with (go_at_call 19; refine hbad.mono ?_; clear hbad; rintro rr W8 ⟨rfl, hx8, hk8⟩; have xt8 := xt1.next hx8 hk8 hgW; obtain ⟨q0, q1, q2, q3, q4, eA⟩ := blk_outs xt8.bA; have eA0 := eA 0; have eA1 := eA 1; have eA2 := eA 2; have eA3 := eA 3; have eA4 := eA 4)

    obtain ⟨W9, hW9, c1, k9⟩ := ret_rich xt8.bA (.string ⟨#[]⟩) (.string ⟨#[]⟩) (.int .i64 0) (.string ⟨#[]⟩) (.slice none 0 0)
    rw [← hW9]
    have hk9 : Kept (fun k => k = gx) W W9 := xt8.kept.cutR k9 fun i e => .inr (by rw [e]; exact xt8.hA)
    have bx9 := k9.blk xt8.bx fun e => by have := xt8.hA; omega
    have k0 := c1.cell 0
    have k1 := c1.cell 1
    have k2 := c1.cell 2
    have k3 := c1.cell 3
    have k4 := c1.cell 4
    simp at k0 k1 k2 k3 k4
    refine bodyPost_ret (v := .agg #[.string ⟨#[]⟩, .string ⟨#[]⟩, .int .i64 0, .string ⟨#[]⟩, .slice none 0 0]) (by simp [results, Tryd.results30, go_sem, k0, k1, k2, k3, k4]) rfl ?_

    rw [HV.out]
    exact And.intro hk9 (And.intro (by decide) ⟨⟨.mk [] [] 0 [] [], none, 0, 0, rfl⟩, _, _, bx9⟩)
  | true =>
    have HP3 : Hid (R = atom1 (t, a) r n) := Lib.hid (by rw [HP2.out, hnb, if_neg (by simp)])
    rw [hnb] at hnm
    clear HP2 hnb
    go_upto_region 8 with (go_at_call 40; refine (hnm _ (by omega)).mono ?_; rintro rr W3 ⟨rfl, rfl⟩)
    go_upto_region 9 with fail
    have bD := Blk.new W2 24 #[.string (bs t), .int .i64 0, .string ⟨#[]⟩]
    have hqD : Below W2.heap.size W2 (W2.alloc (.cells #[.string (bs t), .int .i64 0, .string ⟨#[]⟩] 24)) := (Below.refl _ _).alloc (Nat.le_refl _) _
    have xt2 := xt1.below hqD
    have hD : W.heap.size ≤ W2.heap.size := xt1.kept.size
    have hDA : W2.heap.size ≠ gA := fun e => by have := xt1.bA.lt; omega
    clear hqD xt1 hnm z5 q66
    generalize W2.alloc (.cells #[.string (bs t), .int .i64 0, .string ⟨#[]⟩] 24) = W5 at xt2 bD ⊢
    generalize W2.heap.size = gD at bD hD hDA ⊢
    have hDx : gD ≠ gx := fun e => by omega
    have z1 := xt2.bx.cell 1
    have f1 := xt2.bx.frozen 1
    simp at z1
    have w1 : IntKind.i64.wrap ((a : Int) + (t.length : Int)) = (a : Int) + (t.length : Int) := i64_in _ (by omega) (by omega)
    go_upto_region 10 with fail
    have xt3 : XT W (W5.setCell ⟨gx, 1, none⟩ (.int .i64 ((a : Int) + (t.length : Int)))) gx gA #[.string (bs s), .int .i64 ((a : Int) + (t.length : Int) : Int), .string ⟨#[]⟩, .int .i64 0, .int .i64 0, .int .i64 ((n : Int) + 1 : Int)] := xt2.set hgW 1 (.int .i64 ((a : Int) + (t.length : Int)))
    have kx : Kept (fun k => k = gx) W5 (W5.setCell ⟨gx, 1, none⟩ (.int .i64 ((a : Int) + (t.length : Int)))) := (Kept.refl (fun k => k = gx) W5).setCell (p := ⟨gx, 1, none⟩) _ fun _ => rfl
    have bD3 := kx.blk bD hDx
    clear xt2 z1 f1 w1 kx bD
    generalize W5.setCell ⟨gx, 1, none⟩ (.int .i64 ((a : Int) + (t.length : Int))) = W6 at xt3 bD3 ⊢
    obtain ⟨p1, r1, rfl⟩ := hwr.ne
    obtain ⟨t1, a1⟩ := p1
    have hlk := rlook_ds gx s t1 a1 r1 (n + 1) W6 hs ⟨a + t.length, htl, HTN.out, xt3.bx⟩
    go_upto_region 11 with (go_at_call 18; refine hlk.mono ?_; clear hlk; rintro rr W7 ⟨rfl, hx7, hk7⟩)
    have xt4 := xt3.next hx7 hk7 hgW
    have bD4 := hk7.blk bD3 hDx
    clear xt3 bD3 hx7 hk7
    obtain ⟨ht1s, _, ht1l, ht1n⟩ := tkR_cons HTN.out htl
    have HA1 : Hid (R = if relR t1 = 0 then .ok (.mk [] t 0 [] []) ((t1, a1) :: r1) (n + 1) else atom2 (t, a) (relR t1) r1 n) := HP3
    clear HP3
    have hop := rop_any t1 W7
    go_upto_region 12 with (go_at_call 41; refine hop.mono ?_; clear hop; rintro rr W8 ⟨rfl, hb8⟩; have xt5 := xt4.below hb8; have bD5 := bD4.below hb8 bD4.lt; have g1 := bD5.frozen 1; have d1 := bD5.cell 1; simp at d1)
    obtain ⟨op, HOP⟩ : ∃ x, Hid (relR t1 = x) := ⟨_, Lib.hid rfl⟩
    rw [HOP.out] at HA1 ⊢
    have hopl : op ≤ 5 := by rw [← HOP.out]; exact relR_le _
    have kD : Kept (fun k => k = gD) W8 (W8.setCell ⟨gD, 1, none⟩ (.int .i64 (op : Int))) := (Kept.refl (fun k => k = gD) W8).setCell (p := ⟨gD, 1, none⟩) (.int .i64 (op : Int)) fun _ => rfl
    have bD6 : Blk (W8.setCell ⟨gD, 1, none⟩ (.int .i64 (op : Int))) gD 24 #[.string (bs t), .int .i64 (op : Int), .string ⟨#[]⟩] := by
      have := bD5.set (u := .int .i64 (op : Int)) 1
      simpa using this
    have xt6 : XT W (W8.setCell ⟨gD, 1, none⟩ (.int .i64 (op : Int))) gx gA #[.string (bs s), .int .i64 (a1 : Int), .string ⟨#[]⟩, .int .i64 0, .int .i64 0, .int .i64 ((n : Int) + 1 : Int)] := ⟨xt5.kept.cutR kD (fun i e => .inr (by rw [e]; exact hD)), kD.blk xt5.bx (fun e => hDx e.symm), kD.blk xt5.bA (fun e => hDA e.symm), xt5.hA⟩
    clear xt4 bD4 xt5 bD5 g1 d1 kD hb8
    generalize W8.setCell ⟨gD, 1, none⟩ (.int .i64 (op : Int)) = W9 at xt6 bD6 ⊢
    have d0 := bD6.cell 0
    have d1 := bD6.cell 1
    have d2 := bD6.cell 2
    simp at d0 d1 d2
    by_cases hop0 : op = 0
    · have qo : decide (0 < (op : Int)) = false := decide_eq_false (by omega)
      have qn : ¬ 0 < op := by omega
      have HV : Hid (R = .ok (.mk [] t 0 [] []) ((t1, a1) :: r1) (n + 1)) := Lib.hid (by rw [HA1.out, if_pos hop0])
      have hn1 : n + 1 ≤ 64 := by omega
      have HO := Lib.hid hop0
      clear HA1 hop0
      obtain ⟨q0, q1, q2, q3, q4, eA⟩ := blk_outs xt6.bA
      have eA0 := eA 0
      have eA1 := eA 1
      have eA2 := eA 2
      have eA3 := eA 3
      have eA4 := eA 4
      go_wp2_with fail
      have hV : (Value.int .i64 (op : Int)) = .int .i64 0 := by rw [HO.out]; rfl
      rw [hV]
      obtain ⟨Wz, hWz, c1, k9⟩ := ret_rich xt6.bA (.string ⟨#[]⟩) (.string (bs t)) (.int .i64 0) (.string ⟨#[]⟩) (.slice none 0 0)
      rw [← hWz]
      have hk9 : Kept (fun k => k = gx) W Wz := xt6.kept.cutR k9 fun i e => .inr (by rw [e]; exact xt6.hA)
      have bx9 := k9.blk xt6.bx fun e => by have := xt6.hA; omega
      have k0 := c1.cell 0
      have k1 := c1.cell 1
      have k2 := c1.cell 2
      have k3 := c1.cell 3
      have k4 := c1.cell 4
      simp at k0 k1 k2 k3 k4
      refine bodyPost_ret (v := .agg #[.string ⟨#[]⟩, .string (bs t), .int .i64 0, .string ⟨#[]⟩, .slice none 0 0]) (by simp [results, Tryd.results30, go_sem, k0, k1, k2, k3, k4]) rfl ?_

      rw [HV.out]
      exact And.intro hk9 ⟨⟨_, rfl, Sk.nil _ _ _ _⟩, hwr, by simp, ⟨a1, by omega, ht1s, bx9⟩, hn1⟩
    have qo : decide (0 < (op : Int)) = true := decide_eq_true (by omega)
    have qn : 0 < op := by omega
    have HA2 : Hid (R = atom2 (t, a) op r1 n) := Lib.hid (by rw [HA1.out, if_neg hop0])
    have ht1 : t1 ≠ [] := fun e => hop0 (by rw [← HOP.out, e]; rfl)
    have ht1n := ht1n ht1
    have hwr1 := hwr.next ht1
    have hbt1 := bs_size t1
    clear HA1 hop0 HOP
    have z1 := xt6.bx.cell 1
    have f1 := xt6.bx.frozen 1
    simp at z1
    have w1 : IntKind.i64.wrap ((a1 : Int) + (t1.length : Int)) = (a1 : Int) + (t1.length : Int) := i64_in _ (by omega) (by omega)
    go_upto_region 14 with fail
    have xt7 : XT W (W9.setCell ⟨gx, 1, none⟩ (.int .i64 ((a1 : Int) + (t1.length : Int)))) gx gA #[.string (bs s), .int .i64 ((a1 : Int) + (t1.length : Int) : Int), .string ⟨#[]⟩, .int .i64 0, .int .i64 0, .int .i64 ((n : Int) + 1 : Int)] := xt6.set hgW 1 (.int .i64 ((a1 : Int) + (t1.length : Int)))
    have kx : Kept (fun k => k = gx) W9 (W9.setCell ⟨gx, 1, none⟩ (.int .i64 ((a1 : Int) + (t1.length : Int)))) := (Kept.refl (fun k => k = gx) W9).setCell (p := ⟨gx, 1, none⟩) _ fun _ => rfl
    have bD7 := kx.blk bD6 hDx
    clear xt6 z1 f1 w1 kx bD6 d0 d1 d2
    generalize W9.setCell ⟨gx, 1, none⟩ (.int .i64 ((a1 : Int) + (t1.length : Int))) = Wa at xt7 bD7 ⊢
    obtain ⟨p2, r2, rfl⟩ := hwr1.ne
    obtain ⟨t2, a2⟩ := p2
    have hlk := rlook_ds gx s t2 a2 r2 (n + 1) Wa hs ⟨a1 + t1.length, ht1l, ht1n, xt7.bx⟩
    go_upto_region 15 with (go_at_call 18; refine hlk.mono ?_; clear hlk; rintro rr Wb ⟨rfl, hx8, hk8⟩)
    have xt8 := xt7.next hx8 hk8 hgW
    have bD8 := hk8.blk bD7 hDx
    clear xt7 bD7 hx8 hk8
    obtain ⟨ht2s, _, ht2l, ht2n⟩ := tkR_cons ht1n ht1l
    have hbt2 := bs_size t2
    have HA3 : Hid (R = if brk t2 = true then .err a2 3 else if vErr 2 t2 ≠ 0 then .err a2 (vErr 2 t2) else .ok (.mk [] t (op : Nat) t2 []) r2 (n + 1)) := HA2
    have HBK : Hid (brk t2 = (decide (t2 = []) || (decide (t2 = [40]) || decide (t2 = [41])))) := Lib.hid rfl
    have e1 := eqS t2 []
    have e1b : (bs t2).toList.isEmpty = decide (t2 = []) := by rw [toList_bs, Bool.eq_iff_iff]; simp
    have e2 := eqS t2 [40]
    have e3 := eqS t2 [41]
    have hne2 : brk t2 = false → t2 ≠ [] := fun h e => by rw [e] at h; exact absurd h (by decide)
    have HNE2 := Lib.hid hne2
    clear hne2 HA2
    generalize decide (t2 = []) = b1 at e1 e1b HBK
    generalize decide (t2 = [40]) = b2 at e2 HBK
    generalize decide (t2 = [41]) = b3 at e3 HBK
    cases b1 with
    | true =>
      have HV : Hid (R = .err a2 3) := Lib.hid (by rw [HA3.out, if_pos (by rw [HBK.out]; rfl)])
      clear HA3 HBK
      have hbad := rbad_any gx s a2 (n + 1) 0 0 (3) Wb xt8.bx
      go_wp2_with (go_at_call 19; refine hbad.mono ?_; clear hbad; rintro rr Wd ⟨rfl, hx8, hk8⟩; have xtd := xt8.next hx8 hk8 hgW; obtain ⟨q0, q1, q2, q3, q4, eA⟩ := blk_outs xtd.bA; have eA0 := eA 0; have eA1 := eA 1; have eA2 := eA 2; have eA3 := eA 3; have eA4 := eA 4)

      obtain ⟨W9, hW9, c1, k9⟩ := ret_rich xtd.bA (.string ⟨#[]⟩) (.string ⟨#[]⟩) (.int .i64 0) (.string ⟨#[]⟩) (.slice none 0 0)
      rw [← hW9]
      have hk9 : Kept (fun k => k = gx) W W9 := xtd.kept.cutR k9 fun i e => .inr (by rw [e]; exact xtd.hA)
      have bx9 := k9.blk xtd.bx fun e => by have := xtd.hA; omega
      have k0 := c1.cell 0
      have k1 := c1.cell 1
      have k2 := c1.cell 2
      have k3 := c1.cell 3
      have k4 := c1.cell 4
      simp at k0 k1 k2 k3 k4
      refine bodyPost_ret (v := .agg #[.string ⟨#[]⟩, .string ⟨#[]⟩, .int .i64 0, .string ⟨#[]⟩, .slice none 0 0]) (by simp [results, Tryd.results30, go_sem, k0, k1, k2, k3, k4]) rfl ?_

      rw [HV.out]
      exact And.intro hk9 (And.intro (by decide) ⟨⟨.mk [] [] 0 [] [], none, 0, 0, rfl⟩, _, _, bx9⟩)
    | false =>
    cases b2 with
    | true =>
      have HV : Hid (R = .err a2 3) := Lib.hid (by rw [HA3.out, if_pos (by rw [HBK.out]; rfl)])
      clear HA3 HBK
      have hbad := rbad_any gx s a2 (n + 1) 0 0 (3) Wb xt8.bx
      go_wp2_with (go_at_call 19; refine hbad.mono ?_; clear hbad; rintro rr Wd ⟨rfl, hx8, hk8⟩; have xtd := xt8.next hx8 hk8 hgW; obtain ⟨q0, q1, q2, q3, q4, eA⟩ := blk_outs xtd.bA; have eA0 := eA 0; have eA1 := eA 1; have eA2 := eA 2; have eA3 := eA 3; have eA4 := eA 4)

      obtain ⟨W9, hW9, c1, k9⟩ := ret_rich xtd.bA (.string ⟨#[]⟩) (.string ⟨#[]⟩) (.int .i64 0) (.string ⟨#[]⟩) (.slice none 0 0)
      rw [← hW9]
      have hk9 : Kept (fun k => k = gx) W W9 := xtd.kept.cutR k9 fun i e => .inr (by rw [e]; exact xtd.hA)
      have bx9 := k9.blk xtd.bx fun e => by have := xtd.hA; omega
      have k0 := c1.cell 0
      have k1 := c1.cell 1
      have k2 := c1.cell 2
      have k3 := c1.cell 3
      have k4 := c1.cell 4
      simp at k0 k1 k2 k3 k4
      refine bodyPost_ret (v := .agg #[.string ⟨#[]⟩, .string ⟨#[]⟩, .int .i64 0, .string ⟨#[]⟩, .slice none 0 0]) (by simp [results, Tryd.results30, go_sem, k0, k1, k2, k3, k4]) rfl ?_

      rw [HV.out]
      exact And.intro hk9 (And.intro (by decide) ⟨⟨.mk [] [] 0 [] [], none, 0, 0, rfl⟩, _, _, bx9⟩)
    | false =>
    cases b3 with
    | true =>
      have HV : Hid (R = .err a2 3) := Lib.hid (by rw [HA3.out, if_pos (by rw [HBK.out]; rfl)])
      clear HA3 HBK
      have hbad := rbad_any gx s a2 (n + 1) 0 0 (3) Wb xt8.bx
      go_wp2_with (go_at_call 19; refine hbad.mono ?_; clear hbad; rintro rr Wd ⟨rfl, hx8, hk8⟩; have xtd := xt8.next hx8 hk8 hgW; obtain ⟨q0, q1, q2, q3, q4, eA⟩ := blk_outs xtd.bA; have eA0 := eA 0; have eA1 := eA 1; have eA2 := eA 2; have eA3 := eA 3; have eA4 := eA 4)

      obtain ⟨W9, hW9, c1, k9⟩ := ret_rich xtd.bA (.string ⟨#[]⟩) (.string ⟨#[]⟩) (.int .i64 0) (.string ⟨#[]⟩) (.slice none 0 0)
      rw [← hW9]
      have hk9 : Kept (fun k => k = gx) W W9 := xtd.kept.cutR k9 fun i e => .inr (by rw [e]; exact xtd.hA)
      have bx9 := k9.blk xtd.bx fun e => by have := xtd.hA; omega
      have k0 := c1.cell 0
      have k1 := c1.cell 1
      have k2 := c1.cell 2
      have k3 := c1.cell 3
      have k4 := c1.cell 4
      simp at k0 k1 k2 k3 k4
      refine bodyPost_ret (v := .agg #[.string ⟨#[]⟩, .string ⟨#[]⟩, .int .i64 0, .string ⟨#[]⟩, .slice none 0 0]) (by simp [results, Tryd.results30, go_sem, k0, k1, k2, k3, k4]) rfl ?_

      rw [HV.out]
      exact And.intro hk9 (And.intro (by decide) ⟨⟨.mk [] [] 0 [] [], none, 0, 0, rfl⟩, _, _, bx9⟩)
    | false =>
    have hbk : brk t2 = false := HBK.out
    have hp2 := HNE2.out hbk
    have HA4 : Hid (R = if vErr 2 t2 ≠ 0 then .err a2 (vErr 2 t2) else .ok (.mk [] t (op : Nat) t2 []) r2 (n + 1)) := Lib.hid (by rw [HA3.out, if_neg (by rw [hbk]; simp)])
    have hwr2 := hwr1.next hp2
    have ht2n := ht2n hp2
    have hck := rcheck_any 2 t2 Wb (by omega)
    clear HA3 HBK HNE2 hbk hp2
    obtain ⟨ev, HEV⟩ : ∃ x, Hid (vErr 2 t2 = x) := ⟨_, Lib.hid rfl⟩
    rw [HEV.out] at HA4 hck
    go_upto_region 19 with (go_at_call 42; refine hck.mono ?_; clear hck; rintro rr Wc ⟨rfl, hb8⟩)
    have xt9 := xt8.below hb8
    have bD9 := bD8.below hb8 bD8.lt
    clear xt8 bD8 hb8 e1 e1b e2 e3
    by_cases hev : ev = 0
    rotate_left
    · have qe : (ev != 0) = true := by simpa using hev
      have HV : Hid (R = .err a2 ev) := Lib.hid (by rw [HA4.out, if_pos hev])
      have HEV0 := Lib.hid hev
      clear HA4 hev
      have hbad := rbad_any gx s a2 (n + 1) 0 0 (ev) Wc xt9.bx
      go_wp2_with (go_at_call 19; refine hbad.mono ?_; clear hbad; rintro rr Wd ⟨rfl, hx8, hk8⟩; have xtd := xt9.next hx8 hk8 hgW; obtain ⟨q0, q1, q2, q3, q4, eA⟩ := blk_outs xtd.bA; have eA0 := eA 0; have eA1 := eA 1; have eA2 := eA 2; have eA3 := eA 3; have eA4 := eA 4)

      obtain ⟨W9, hW9, c1, k9⟩ := ret_rich xtd.bA (.string ⟨#[]⟩) (.string ⟨#[]⟩) (.int .i64 0) (.string ⟨#[]⟩) (.slice none 0 0)
      rw [← hW9]
      have hk9 : Kept (fun k => k = gx) W W9 := xtd.kept.cutR k9 fun i e => .inr (by rw [e]; exact xtd.hA)
      have bx9 := k9.blk xtd.bx fun e => by have := xtd.hA; omega
      have k0 := c1.cell 0
      have k1 := c1.cell 1
      have k2 := c1.cell 2
      have k3 := c1.cell 3
      have k4 := c1.cell 4
      simp at k0 k1 k2 k3 k4
      refine bodyPost_ret (v := .agg #[.string ⟨#[]⟩, .string ⟨#[]⟩, .int .i64 0, .string ⟨#[]⟩, .slice none 0 0]) (by simp [results, Tryd.results30, go_sem, k0, k1, k2, k3, k4]) rfl ?_

      rw [HV.out]
      exact And.intro hk9 (And.intro (HEV0.out) ⟨⟨.mk [] [] 0 [] [], none, 0, 0, rfl⟩, _, _, bx9⟩)
    · subst hev
      have HV : Hid (R = .ok (.mk [] t (op : Nat) t2 []) r2 (n + 1)) := Lib.hid (by rw [HA4.out, if_neg (by simp)])
      clear HA4
      have d2 := bD9.cell 2
      have g2 := bD9.frozen 2
      simp at d2
      go_upto_region 23 with fail
      have kD : Kept (fun k => k = gD) Wc (Wc.setCell ⟨gD, 2, none⟩ (.string (bs t2))) := (Kept.refl (fun k => k = gD) Wc).setCell (p := ⟨gD, 2, none⟩) (.string (bs t2)) fun _ => rfl
      have bDa : Blk (Wc.setCell ⟨gD, 2, none⟩ (.string (bs t2))) gD 24 #[.string (bs t), .int .i64 (op : Int), .string (bs t2)] := by
        have := bD9.set (u := .string (bs t2)) 2
        simpa using this
      have xta : XT W (Wc.setCell ⟨gD, 2, none⟩ (.string (bs t2))) gx gA #[.string (bs s), .int .i64 (a2 : Int), .string ⟨#[]⟩, .int .i64 0, .int .i64 0, .int .i64 ((n : Int) + 1 : Int)] := ⟨xt9.kept.cutR kD (fun i e => .inr (by rw [e]; exact hD)), kD.blk xt9.bx (fun e => hDx e.symm), kD.blk xt9.bA (fun e => hDA e.symm), xt9.hA⟩
      clear xt9 bD9 d2 g2 kD
      generalize Wc.setCell ⟨gD, 2, none⟩ (.string (bs t2)) = We at xta bDa ⊢
      have z1 := xta.bx.cell 1
      have f1 := xta.bx.frozen 1
      simp at z1
      have w1 : IntKind.i64.wrap ((a2 : Int) + (t2.length : Int)) = (a2 : Int) + (t2.length : Int) := i64_in _ (by omega) (by omega)
      go_upto_region 24 with fail
      have xtb : XT W (We.setCell ⟨gx, 1, none⟩ (.int .i64 ((a2 : Int) + (t2.length : Int)))) gx gA #[.string (bs s), .int .i64 ((a2 : Int) + (t2.length : Int) : Int), .string ⟨#[]⟩, .int .i64 0, .int .i64 0, .int .i64 ((n : Int) + 1 : Int)] := xta.set hgW 1 (.int .i64 ((a2 : Int) + (t2.length : Int)))
      have kx : Kept (fun k => k = gx) We (We.setCell ⟨gx, 1, none⟩ (.int .i64 ((a2 : Int) + (t2.length : Int)))) := (Kept.refl (fun k => k = gx) We).setCell (p := ⟨gx, 1, none⟩) _ fun _ => rfl
      have bDb := kx.blk bDa hDx
      clear xta z1 f1 w1 kx bDa
      generalize We.setCell ⟨gx, 1, none⟩ (.int .i64 ((a2 : Int) + (t2.length : Int))) = Wf at xtb bDb ⊢
      have d0 := bDb.cell 0
      have d1 := bDb.cell 1
      have d2 := bDb.cell 2
      simp at d0 d1 d2
      obtain ⟨q0, q1, q2, q3, q4, eA⟩ := blk_outs xtb.bA
      have eA0 := eA 0
      have eA1 := eA 1
      have eA2 := eA 2
      have eA3 := eA 3
      have eA4 := eA 4
      go_wp2_with fail
      obtain ⟨Wz, hWz, c1, k9⟩ := ret_rich xtb.bA (.string ⟨#[]⟩) (.string (bs t)) (.int .i64 (op : Int)) (.string (bs t2)) (.slice none 0 0)
      rw [← hWz]
      have hk9 : Kept (fun k => k = gx) W Wz := xtb.kept.cutR k9 fun i e => .inr (by rw [e]; exact xtb.hA)
      have bx9 := k9.blk xtb.bx fun e => by have := xtb.hA; omega
      have k0 := c1.cell 0
      have k1 := c1.cell 1
      have k2 := c1.cell 2
      have k3 := c1.cell 3
      have k4 := c1.cell 4
      simp at k0 k1 k2 k3 k4
      refine bodyPost_ret (v := .agg #[.string ⟨#[]⟩, .string (bs t), .int .i64 (op : Int), .string (bs t2), .slice none 0 0]) (by simp [results, Tryd.results30, go_sem, k0, k1, k2, k3, k4]) rfl ?_

      rw [HV.out]
      exact And.intro hk9 ⟨⟨_, rfl, Sk.nil _ _ _ _⟩, hwr2, by simp; omega, ⟨a2 + t2.length, ht2l, ht2n, bx9⟩, by omega⟩
end Go.Proofs.YtjdcegogkafmoaaDoor


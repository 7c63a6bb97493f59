/- The walk of drayageref15's State.dep: dependencies and groups. Printed by gen_rdp.py. -/
import Derived.Test.YtjdcegogkafmoaaDoorRdO
namespace Go.Proofs.YtjdcegogkafmoaaDoor
open Go.RowKit
/-- Which words may stand between so many kids. -/
def GI (op : List UInt8) : Nat → Prop
  | 0 => op = []
  | 1 => knR op = true
  | 2 => isAO op = true ∨ isIU op = true
  | _ + 3 => isAO op = true
theorem knR_is (w : List UInt8) : knR w = (isAO w || (isIU w || isWW w)) := by
  unfold knR wordsR isAO isIU isWW
  rw [Bool.eq_iff_iff]
  simp
  grind
theorem ao_iu {w : List UInt8} (h : isAO w = true) : isIU w = false := by
  unfold isAO at h
  rw [Bool.or_eq_true] at h
  rcases h with h | h <;> (have := of_decide_eq_true h; subst this; decide)
theorem ao_ne {w : List UInt8} (h : isAO w = true) : w ≠ [] := by
  rintro rfl
  exact absurd h (by decide)
theorem iu_ne {w : List UInt8} (h : isIU w = true) : w ≠ [] := by
  rintro rfl
  exact absurd h (by decide)
theorem kn_ne {w : List UInt8} (h : knR w = true) : w ≠ [] := by
  rintro rfl
  exact absurd h (by decide)
theorem gi_nil {op : List UInt8} {n : Nat} (h : GI op n) : (op = []) ↔ n = 0 := by
  match n, h with
  | 0, h => exact ⟨fun _ => rfl, fun _ => h⟩
  | 1, h => exact ⟨fun e => absurd e (kn_ne h), fun e => absurd e (by decide)⟩
  | 2, h => exact ⟨fun e => absurd e (h.elim ao_ne iu_ne), fun e => absurd e (by decide)⟩
  | _ + 3, h => exact ⟨fun e => absurd e (ao_ne h), fun e => by omega⟩
theorem gi_close {op : List UInt8} {n : Nat} (h : GI op n) : clR op (n + 1) = decide (1 ≤ n) := by
  match n, h with
  | 0, h =>
    have : op = [] := h
    subst this
    rfl
  | 1, h =>
    have h : knR op = true := h
    rw [knR_is] at h
    unfold clR
    by_cases h1 : isAO op = true
    · rw [if_pos h1]; rfl
    · rw [if_neg h1]
      by_cases h2 : isIU op = true
      · rw [if_pos h2]; rfl
      · rw [if_neg h2, if_pos (by simpa [h1, h2] using h)]; rfl
  | 2, h =>
    unfold clR
    rcases h with h | h
    · rw [if_pos h]; rfl
    · rw [if_neg (fun e => by rw [ao_iu e] at h; exact absurd h (by decide)), if_pos h]; rfl
  | m + 3, h =>
    have h : isAO op = true := h
    unfold clR
    rw [if_pos h]
    rw [decide_eq_true (by omega), decide_eq_true (by omega)]
theorem foR_zero (w : List UInt8) : foR [] 1 w = knR w := by unfold foR; rfl
/-- The document's way: "else" behind two, or the same word again. -/
theorem foR_more {op : List UInt8} {n : Nat} (h : GI op n) (h1 : 1 ≤ n) (w : List UInt8) : foR op (n + 1) w = ((decide (n = 1) && (decide (w = [101, 108, 115, 101]) && isIU op)) || (decide (w = op) && isAO w)) := by
  have key : isAO op = true → foR op (n + 1) w = ((decide (n = 1) && (decide (w = [101, 108, 115, 101]) && isIU op)) || (decide (w = op) && isAO w)) := fun ha => by
    unfold foR
    rw [if_neg (by omega), if_pos ha, ao_iu ha, Bool.and_false, Bool.and_false, Bool.false_or]
    by_cases e : w = op
    · subst e; rw [ha]; simp
    · simp [e]
  have key2 : isIU op = true → foR op (n + 1) w = ((decide (n = 1) && (decide (w = [101, 108, 115, 101]) && isIU op)) || (decide (w = op) && isAO w)) := fun hi => by
    have hna : isAO op = false := by
      cases ha : isAO op with
      | false => rfl
      | true => rw [ao_iu ha] at hi; exact absurd hi (by decide)
    unfold foR
    rw [if_neg (by omega), if_neg (by rw [hna]; decide), if_pos hi, hi, Bool.and_true]
    have e2 : (decide (w = op) && isAO w) = false := by
      by_cases e : w = op
      · subst e; rw [hna]; simp
      · simp [e]
    rw [e2, Bool.or_false]
    congr 1
    rw [Bool.eq_iff_iff]
    simp
  match n, h with
  | 1, h =>
    have h : knR op = true := h
    rw [knR_is] at h
    by_cases ha : isAO op = true
    · exact key ha
    · by_cases hi : isIU op = true
      · exact key2 hi
      · unfold foR
        rw [if_neg (by decide), if_neg ha, if_neg hi]
        have e2 : (decide (w = op) && isAO w) = false := by
          by_cases e : w = op
          · subst e; simp [ha]
          · simp [e]
        rw [e2]
        simp [hi]
  | 2, h => exact h.elim key key2
  | _ + 3, h => exact key h
theorem gi_next0 {w : List UInt8} (h : knR w = true) : GI w 1 := h
theorem gi_next {op : List UInt8} {n : Nat} (h : GI op n) (h1 : 1 ≤ n) {w : List UInt8} (hf : foR op (n + 1) w = true) : GI op (n + 1) := by
  rw [foR_more h h1, Bool.or_eq_true, Bool.and_eq_true, Bool.and_eq_true, Bool.and_eq_true] at hf
  match n, h with
  | 1, _ =>
    rcases hf with ⟨_, _, hi⟩ | ⟨he, ha⟩
    · exact .inr hi
    · have := of_decide_eq_true he
      subst this
      exact .inl ha
  | 2, _ =>
    rcases hf with ⟨e, _⟩ | ⟨he, ha⟩
    · exact absurd e (by decide)
    · have := of_decide_eq_true he
      subst this
      exact ha
  | _ + 3, h => exact h
/-- What dep has in memory, ahead of a round. -/
structure GD (w : World) (gx gA gD m : Nat) (op : List UInt8) (kids : List Rdp) (kv : Value) (W : World) : Prop where
  kept : Kept (fun k => k = gx) w W
  bA : Blk W gA 27 #[.string ⟨#[]⟩, .string ⟨#[]⟩, .int .i64 0, .string ⟨#[]⟩, .slice none 0 0]
  bD : Blk W gD 27 #[.string (bs op), .string ⟨#[]⟩, .int .i64 0, .string ⟨#[]⟩, kv]
  own : OwnL 5 (Rr m) 27 w.heap.size (fun k => k < w.heap.size ∨ (k = gA ∨ k = gD)) W kv kids
  hA : w.heap.size ≤ gA
  hD : w.heap.size ≤ gD
  hAD : gA ≠ gD
theorem GD.below {w W W' : World} {gx gA gD m : Nat} {op : List UInt8} {kids : List Rdp} {kv : Value} (h : GD w gx gA gD m op kids kv W) (hb : Below W.heap.size W W') : GD w gx gA gD m op kids kv W' :=
  ⟨h.kept.trans (Kept.of_below hb _), h.bA.below hb h.bA.lt, h.bD.below hb h.bD.lt, h.own.keep (good_rich _) (Kept.of_below hb _), h.hA, h.hD, h.hAD⟩
theorem GD.next {w W W' : World} {gx gA gD m : Nat} {op : List UInt8} {kids : List Rdp} {kv : Value} (h : GD w gx gA gD m op kids kv W) (k : Kept (fun k => k = gx) W W') (hgx : gx < w.heap.size) : GD w gx gA gD m op kids kv W' :=
  ⟨h.kept.trans k, k.blk h.bA (fun e => by have := h.hA; omega), k.blk h.bD (fun e => by have := h.hD; omega), h.own.keep (good_rich _) (k.mono fun i _ e => .inl (by rw [e]; exact hgx)), h.hA, h.hD, h.hAD⟩
theorem kept_op (W : World) (gD : Nat) (op' : List UInt8) : Kept (fun k => k = gD) W (W.setCell ⟨gD, 0, none⟩ (.string (bs op'))) := (Kept.refl _ W).setCell (p := ⟨gD, 0, none⟩) (.string (bs op')) fun _ => rfl
theorem GD.setop {w W : World} {gx gA gD m : Nat} {op : List UInt8} {kids : List Rdp} {kv : Value} (h : GD w gx gA gD m op kids kv W) (op' : List UInt8) : GD w gx gA gD m op' kids kv (W.setCell ⟨gD, 0, none⟩ (.string (bs op'))) := by
  have kD := kept_op W gD op'
  have bD8 : Blk (W.setCell ⟨gD, 0, none⟩ (.string (bs op'))) gD 27 #[.string (bs op'), .string ⟨#[]⟩, .int .i64 0, .string ⟨#[]⟩, kv] := by
    have := h.bD.set (u := .string (bs op')) 0
    simpa using this
  exact ⟨h.kept.cutR kD fun i e => .inr (by rw [e]; exact h.hD), kD.blk h.bA h.hAD, bD8, h.own.keep (good_rich _) (kD.mono fun i _ e => .inr (.inr e)), h.hA, h.hD, h.hAD⟩
theorem GD.push {w W W7 : World} {gx gA gD m : Nat} {op : List UInt8} {kids kids' : List Rdp} {kv v7 : Value} (h : GD w gx gA gD m op kids kv W) (k7 : Kept (fun k => kv.ownBlock = some k) W W7)
    (ho : OwnL 5 (Rr m) 27 w.heap.size (fun k => k < w.heap.size ∨ (k = gA ∨ k = gD)) W7 v7 kids') : GD w gx gA gD m op kids' v7 (W7.setCell ⟨gD, 4, none⟩ v7) ∧ Kept (fun k => w.heap.size ≤ k) W (W7.setCell ⟨gD, 4, none⟩ v7) := by
  have nX : ∀ k, kv.ownBlock = some k → w.heap.size ≤ k ∧ (k ≠ gA ∧ k ≠ gD) := fun k hk => by
    have := (ownL_notX h.own hk).1
    exact ⟨own_ge h.own hk, fun e => this (.inr (.inl e)), fun e => this (.inr (.inr e))⟩
  have kD : Kept (fun k => k = gD) W7 (W7.setCell ⟨gD, 4, none⟩ v7) := (Kept.refl _ W7).setCell (p := ⟨gD, 4, none⟩) v7 fun _ => rfl
  have bD7 := k7.blk h.bD (fun e => (nX _ e).2.2 rfl)
  have bD8 : Blk (W7.setCell ⟨gD, 4, none⟩ v7) gD 27 #[.string (bs op), .string ⟨#[]⟩, .int .i64 0, .string ⟨#[]⟩, v7] := by
    have := bD7.set (u := v7) 4
    simpa using this
  refine ⟨⟨(h.kept.cutR k7 fun i e => .inr (nX i e).1).cutR kD fun i e => .inr (by rw [e]; exact h.hD), kD.blk (k7.blk h.bA fun e => (nX _ e).2.1 rfl) h.hAD, bD8, ho.keep (good_rich _) (kD.mono fun i _ e => .inr (.inr e)), h.hA, h.hD, h.hAD⟩, ?_⟩
  exact (k7.mono fun i _ e => (nX i e).1).trans (kD.mono fun i _ e => by rw [e]; exact h.hD)
def DepDK (k : Nat) : Prop := ∀ (ts : List Tk) (n ar gx : Nat) (s : List UInt8) (W : World), DS W gx s ts n → WfT ts → n ≤ 64 → ar ≤ 32 → s.length ≤ 900000 → ts.length ≤ 1000000 → 2 * ts.length + 1 ≤ k →
  Calls Tryd.prog 17 #[.pointer (some ⟨gx, 0, none⟩), .int .i64 (ar : Int)] W (DepD gx s (40 - ar) W ts.length (depP k ts n ar))
set_option maxRecDepth 20000 in
set_option maxHeartbeats 16000000 in
theorem rdep_any (k : Nat) (HD : ∀ j, j < k → DepDK j) : DepDK (k + 1) := by
  intro ts n ar gx s W hds hwf hn har hs hln hfu
  obtain ⟨p0, r0, rfl⟩ := hwf.ne
  obtain ⟨t, a⟩ := p0
  have HP : Hid (depP (k + 1) ((t, a) :: r0) n ar = if t = [] ∨ t = [41] then .err a 3 else if t = [40] then (if ar = 32 then .err a 4 else groupP k [] [] r0 n (ar + 1)) else atomP ((t, a) :: r0) n) := Lib.hid rfl
  have hgW := hds.lt
  have HDK := Lib.hid HD
  have HFU := Lib.hid hfu
  have HLN := Lib.hid hln
  clear HD hfu hln
  obtain ⟨R, HR⟩ : ∃ R, Hid (depP (k + 1) ((t, a) :: r0) n ar = R) := ⟨_, Lib.hid rfl⟩
  rw [HR.out] at HP ⊢
  have htk : tkR s a = (t, a) :: r0 ∧ a + t.length ≤ s.length ∧ (t ≠ [] → tkR s (a + t.length) = r0) := by
    obtain ⟨p, h1, h2, h3⟩ := hds
    obtain ⟨h4, _, h5, h6⟩ := tkR_cons h2 h1
    exact ⟨h4, h5, h6⟩
  obtain ⟨htk, htl, htn⟩ := htk
  obtain ⟨W1, gA, hW1, hgA, bA, hb1, hA⟩ := init1 W
  obtain ⟨m, HM⟩ : ∃ m, Hid (m = 39 - ar) := ⟨_, Lib.hid rfl⟩
  have hm1 : 40 - ar = m + 1 := by rw [HM.out]; omega
  rw [hm1]
  have HM2 : Hid (40 - (ar + 1) = m) := Lib.hid (by omega)
  clear hm1
  go_enter Tryd.func17, Tryd.ntmps17
  go_upto_region 1 with fail
  rw [← hW1, ← hgA]
  have hlk := rlook_ds gx s t a r0 n W1 hs (hds.below hb1)
  have k1 : Kept (fun k => k = gx) W W1 := Kept.of_below hb1 _
  clear hW1 hgA hb1 hds
  go_upto_region 2 with (go_at_call 18; refine hlk.mono ?_; clear hlk; rintro rr W2 ⟨rfl, hx2, hk2⟩)
  have xt0 : XT W W2 gx gA #[.string (bs s), .int .i64 (a : Int), .string ⟨#[]⟩, .int .i64 0, .int .i64 0, .int .i64 (n : Int)] := ⟨k1.trans hk2, hx2, hk2.blk bA (fun e => by omega), hA⟩
  clear k1 hk2 hx2 bA
  have e1 := eqS t []
  have e1b : (bs t).toList.isEmpty = decide (t = []) := by rw [toList_bs, Bool.eq_iff_iff]; simp
  have e2 := eqS t [41]
  have e3 := eqS t [40]
  by_cases ht0 : t = []
  · rw [decide_eq_true ht0] at e1 e1b
    have HV : Hid (R = .err a 3) := Lib.hid (by rw [HP.out, if_pos (.inl ht0)])
    clear HP ht0 e2 e3
    have hbad := rbad_any gx s a (n) 0 0 (3) W2 xt0.bx
    go_wp2_with (go_at_call 19; refine hbad.mono ?_; clear hbad; rintro rr W8 ⟨rfl, hx8, hk8⟩; have xt8 := xt0.next hx8 hk8 hgW; obtain ⟨q0, q1, q2, q3, q4, eA⟩ := blk_outs xt8.bA; have eA0 := eA 0; have eA1 := eA 1; have eA2 := eA 2; have eA3 := eA 3; have eA4 := eA 4)

    obtain ⟨Wz, hWz, c1, k9⟩ := ret_rich xt8.bA (.string ⟨#[]⟩) (.string ⟨#[]⟩) (.int .i64 0) (.string ⟨#[]⟩) (.slice none 0 0)
    rw [← hWz]
    have hk9 : Kept (fun k => k = gx) W Wz := xt8.kept.cutR k9 fun i e => .inr (by rw [e]; exact xt8.hA)
    have k0 := c1.cell 0
    have k1 := c1.cell 1
    have k2 := c1.cell 2
    have k3 := c1.cell 3
    have k4 := c1.cell 4
    simp at k0 k1 k2 k3 k4
    refine bodyPost_ret (v := .agg #[.string ⟨#[]⟩, .string ⟨#[]⟩, .int .i64 0, .string ⟨#[]⟩, .slice none 0 0]) (by simp [results, Tryd.results17, go_sem, k0, k1, k2, k3, k4]) rfl ?_

    have bx9 := k9.blk xt8.bx fun e => by have := xt8.hA; omega
    rw [HV.out]
    exact And.intro hk9 (And.intro (by decide) ⟨⟨.mk [] [] 0 [] [], none, 0, 0, rfl⟩, _, _, bx9⟩)
  rw [decide_eq_false ht0] at e1 e1b
  by_cases ht1 : t = [41]
  · rw [decide_eq_true ht1] at e2
    have HV : Hid (R = .err a 3) := Lib.hid (by rw [HP.out, if_pos (.inr ht1)])
    clear HP ht1 ht0 e3
    have hbad := rbad_any gx s a (n) 0 0 (3) W2 xt0.bx
    go_wp2_with (go_at_call 19; refine hbad.mono ?_; clear hbad; rintro rr W8 ⟨rfl, hx8, hk8⟩; have xt8 := xt0.next hx8 hk8 hgW; obtain ⟨q0, q1, q2, q3, q4, eA⟩ := blk_outs xt8.bA; have eA0 := eA 0; have eA1 := eA 1; have eA2 := eA 2; have eA3 := eA 3; have eA4 := eA 4)

    obtain ⟨Wz, hWz, c1, k9⟩ := ret_rich xt8.bA (.string ⟨#[]⟩) (.string ⟨#[]⟩) (.int .i64 0) (.string ⟨#[]⟩) (.slice none 0 0)
    rw [← hWz]
    have hk9 : Kept (fun k => k = gx) W Wz := xt8.kept.cutR k9 fun i e => .inr (by rw [e]; exact xt8.hA)
    have k0 := c1.cell 0
    have k1 := c1.cell 1
    have k2 := c1.cell 2
    have k3 := c1.cell 3
    have k4 := c1.cell 4
    simp at k0 k1 k2 k3 k4
    refine bodyPost_ret (v := .agg #[.string ⟨#[]⟩, .string ⟨#[]⟩, .int .i64 0, .string ⟨#[]⟩, .slice none 0 0]) (by simp [results, Tryd.results17, go_sem, k0, k1, k2, k3, k4]) rfl ?_

    have bx9 := k9.blk xt8.bx fun e => by have := xt8.hA; omega
    rw [HV.out]
    exact And.intro hk9 (And.intro (by decide) ⟨⟨.mk [] [] 0 [] [], none, 0, 0, rfl⟩, _, _, bx9⟩)
  rw [decide_eq_false ht1] at e2
  have HP1 := Lib.hid (HP.out.trans (if_neg (fun h => h.elim ht0 ht1)))
  by_cases ht2 : t = [40]
  rotate_left
  · rw [decide_eq_false ht2] at e3
    have HV : Hid (R = atomP ((t, a) :: r0) n) := Lib.hid (by rw [HP1.out, if_neg ht2])
    have hat := ratom_any gx s t a r0 n (m + 1) W2 hs (by omega) htk ht0 hwf hn xt0.bx
    have hW2 := xt0.kept.size
    rw [← HV.out] at hat
    clear HP HP1 ht0 ht1 ht2
    obtain ⟨RR, HRR⟩ : ∃ x, Hid (R = x) := ⟨_, Lib.hid rfl⟩
    rw [HRR.out] at hat
    cases RR with
    | err ea ec =>
      go_wp2_with (go_at_call 30; refine hat.mono ?_; clear hat; rintro rr W8 ⟨hk8, hec, ⟨dd, A8, n8, c8, rfl⟩, p8, m8, hx8⟩; simp only [richV, richC]; have xt8 := xt0.next hx8 hk8 hgW; obtain ⟨q0, q1, q2, q3, q4, eA⟩ := blk_outs xt8.bA; have eA0 := eA 0; have eA1 := eA 1; have eA2 := eA 2; have eA3 := eA 3; have eA4 := eA 4)
      obtain ⟨Wz, hWz, c1, k9⟩ := ret_rich xt8.bA (.string (bs dd.op)) (.string (bs dd.name)) (.int .i64 dd.aop) (.string (bs dd.ver)) (.slice A8 n8 c8)
      rw [← hWz]
      have hk9 : Kept (fun k => k = gx) W Wz := xt8.kept.cutR k9 fun i e => .inr (by rw [e]; exact xt8.hA)
      have k0 := c1.cell 0
      have k1 := c1.cell 1
      have k2 := c1.cell 2
      have k3 := c1.cell 3
      have k4 := c1.cell 4
      simp at k0 k1 k2 k3 k4
      refine bodyPost_ret (v := .agg #[.string (bs dd.op), .string (bs dd.name), .int .i64 dd.aop, .string (bs dd.ver), .slice A8 n8 c8]) (by simp [results, Tryd.results17, go_sem, k0, k1, k2, k3, k4]) rfl ?_

      have bx9 := k9.blk xt8.bx fun e => by have := xt8.hA; omega
      rw [HRR.out]
      exact And.intro hk9 (And.intro hec ⟨⟨dd, A8, n8, c8, rfl⟩, _, _, bx9⟩)
    | ok dd tt nn =>
      go_wp2_with (go_at_call 30; refine hat.mono ?_; clear hat; rintro rr W8 ⟨hk8, ⟨kv, rfl, hkv⟩, hwf8, hlen8, hds8, hn8⟩; obtain ⟨A8, c8, rfl, _, _⟩ := hkv.form; simp only [richV, richC]; obtain ⟨p8, hp8, htk8, hx8⟩ := hds8; have xt8 := xt0.next hx8 hk8 hgW; obtain ⟨q0, q1, q2, q3, q4, eA⟩ := blk_outs xt8.bA; have eA0 := eA 0; have eA1 := eA 1; have eA2 := eA 2; have eA3 := eA 3; have eA4 := eA 4)
      obtain ⟨Wz, hWz, c1, k9⟩ := ret_rich xt8.bA (.string (bs dd.op)) (.string (bs dd.name)) (.int .i64 dd.aop) (.string (bs dd.ver)) (.slice A8 dd.kids.length c8)
      rw [← hWz]
      have hk9 : Kept (fun k => k = gx) W Wz := xt8.kept.cutR k9 fun i e => .inr (by rw [e]; exact xt8.hA)
      have k0 := c1.cell 0
      have k1 := c1.cell 1
      have k2 := c1.cell 2
      have k3 := c1.cell 3
      have k4 := c1.cell 4
      simp at k0 k1 k2 k3 k4
      refine bodyPost_ret (v := .agg #[.string (bs dd.op), .string (bs dd.name), .int .i64 dd.aop, .string (bs dd.ver), .slice A8 dd.kids.length c8]) (by simp [results, Tryd.results17, go_sem, k0, k1, k2, k3, k4]) rfl ?_

      have bx9 := k9.blk xt8.bx fun e => by have := xt8.hA; omega
      have hA8 := xt8.bA.lt
      have hA0 := xt0.bA.lt
      rw [HRR.out]
      have hkv9 : Sk 5 (Rr (m + 1)) (fun k => k < W.heap.size) Wz (.slice A8 dd.kids.length c8) dd.kids := (hkv.keep (good_rich _) (k9.mono fun i _ hi => by show i < W2.heap.size; rw [hi]; exact hA0)).mono (good_rich _) (by omega) fun i _ hi => Nat.lt_of_lt_of_le hi hW2
      exact And.intro hk9 ⟨⟨_, rfl, hkv9⟩, hwf8, hlen8, ⟨p8, hp8, htk8, bx9⟩, hn8⟩
  rw [decide_eq_true ht2] at e3
  have HP2 : Hid (R = if ar = 32 then .err a 4 else groupP k [] [] r0 n (ar + 1)) := Lib.hid (by rw [HP1.out, if_pos ht2])
  have htn := htn ht0
  have htle : t.length = 1 := by rw [ht2]; rfl
  have hwr := hwf.next ht0
  clear HP HP1 ht1 ht2 ht0
  by_cases h32 : ar = 32
  · have q32 : ((ar : Int) == 32) = true := by rw [beq_iff_eq]; omega
    have HV : Hid (R = .err a 4) := Lib.hid (by rw [HP2.out, if_pos h32])
    clear HP2 h32
    have hbad := rbad_any gx s a (n) 0 0 (4) W2 xt0.bx
    go_wp2_with (go_at_call 19; refine hbad.mono ?_; clear hbad; rintro rr W8 ⟨rfl, hx8, hk8⟩; have xt8 := xt0.next hx8 hk8 hgW; obtain ⟨q0, q1, q2, q3, q4, eA⟩ := blk_outs xt8.bA; have eA0 := eA 0; have eA1 := eA 1; have eA2 := eA 2; have eA3 := eA 3; have eA4 := eA 4)

    obtain ⟨Wz, hWz, c1, k9⟩ := ret_rich xt8.bA (.string ⟨#[]⟩) (.string ⟨#[]⟩) (.int .i64 0) (.string ⟨#[]⟩) (.slice none 0 0)
    rw [← hWz]
    have hk9 : Kept (fun k => k = gx) W Wz := xt8.kept.cutR k9 fun i e => .inr (by rw [e]; exact xt8.hA)
    have k0 := c1.cell 0
    have k1 := c1.cell 1
    have k2 := c1.cell 2
    have k3 := c1.cell 3
    have k4 := c1.cell 4
    simp at k0 k1 k2 k3 k4
    refine bodyPost_ret (v := .agg #[.string ⟨#[]⟩, .string ⟨#[]⟩, .int .i64 0, .string ⟨#[]⟩, .slice none 0 0]) (by simp [results, Tryd.results17, go_sem, k0, k1, k2, k3, k4]) rfl ?_

    have bx9 := k9.blk xt8.bx fun e => by have := xt8.hA; omega
    rw [HV.out]
    exact And.intro hk9 (And.intro (by decide) ⟨⟨.mk [] [] 0 [] [], none, 0, 0, rfl⟩, _, _, bx9⟩)
  have q32 : ((ar : Int) == 32) = false := by simpa using (show ¬ (ar : Int) = 32 by omega)
  have HR0 : Hid (R = groupP k [] [] r0 n (ar + 1)) := Lib.hid (by rw [HP2.out, if_neg h32])
  have har2 : ar < 32 := by omega
  have z1 := xt0.bx.cell 1
  have f1 := xt0.bx.frozen 1
  simp at z1
  have w1 : IntKind.i64.wrap ((a : Int) + 1) = (a : Int) + 1 := i64_in _ (by omega) (by omega)
  clear HP2 h32 har
  go_upto_region 11 with fail
  have xt1 : XT W (W2.setCell ⟨gx, 1, none⟩ (.int .i64 ((a : Int) + 1))) gx gA #[.string (bs s), .int .i64 ((a : Int) + 1 : Int), .string ⟨#[]⟩, .int .i64 0, .int .i64 0, .int .i64 (n : Int)] := xt0.set hgW 1 (.int .i64 ((a : Int) + 1))
  clear xt0 z1 f1 w1 q32 e1 e1b e2 e3
  generalize W2.setCell ⟨gx, 1, none⟩ (.int .i64 ((a : Int) + 1)) = W3 at xt1 ⊢
  go_wp2_with fail
  have bD : Blk (W3.alloc (.cells #[.string ⟨#[]⟩, .string ⟨#[]⟩, .int .i64 0, .string ⟨#[]⟩, .slice none 0 0] 27)) W3.heap.size 27 #[.string (bs []), .string ⟨#[]⟩, .int .i64 0, .string ⟨#[]⟩, .slice none 0 0] := Blk.new W3 _ _
  have hq : Below W3.heap.size W3 (W3.alloc (.cells #[.string ⟨#[]⟩, .string ⟨#[]⟩, .int .i64 0, .string ⟨#[]⟩, .slice none 0 0] 27)) := (Below.refl _ _).alloc (Nat.le_refl _) _
  have hAD : gA ≠ W3.heap.size := fun e => by have := xt1.bA.lt; omega
  have hD3 : W.heap.size ≤ W3.heap.size := xt1.kept.size
  have xt2 := xt1.below hq
  have gt0 : GD W gx gA W3.heap.size (m + 1) [] [] (.slice none 0 0) (W3.alloc (.cells #[.string ⟨#[]⟩, .string ⟨#[]⟩, .int .i64 0, .string ⟨#[]⟩, .slice none 0 0] 27)) :=
    ⟨xt2.kept, xt2.bA, bD, OwnL.nil _ _ _ _ _ _, hA, hD3, hAD⟩
  have ds0 : DS (W3.alloc (.cells #[.string ⟨#[]⟩, .string ⟨#[]⟩, .int .i64 0, .string ⟨#[]⟩, .slice none 0 0] 27)) gx s r0 n := ⟨a + t.length, htl, htn, by rw [htle]; exact xt2.bx⟩
  have hDx : W3.heap.size ≠ gx := fun e => by omega
  clear hq bD xt1 xt2 hAD hA hD3
  generalize (W3.alloc (.cells #[.string ⟨#[]⟩, .string ⟨#[]⟩, .int .i64 0, .string ⟨#[]⟩, .slice none 0 0] 27)) = W4 at gt0 ds0 ⊢
  generalize W3.heap.size = gD at gt0 hDx ⊢
  have hfu := HFU.out
  have hln := HLN.out
  simp only [List.length_cons] at hfu hln
  go_loopg [] k (fun G wr => ∃ (j : Nat) (op : List UInt8) (kids : List Rdp) (ts : List Tk) (n : Nat) (A : Option Addr) (c : Nat), G = j + 1 ∧ j < k ∧ 2 * ts.length + 2 ≤ j + 1 ∧ kids.length + ts.length ≤ r0.length ∧ WfT ts ∧ n ≤ 64 ∧ GD W gx gA gD (m + 1) op kids (.slice A kids.length c) wr ∧ DS wr gx s ts n ∧ GI op kids.length ∧ Hid (R = groupP (j + 1) op kids ts n (ar + 1)))
  case atStart => exact ⟨k - 1, [], [], r0, n, none, 0, by omega, by omega, by omega, by simp, hwr, hn, gt0, ds0, rfl, Lib.hid (by rw [show k - 1 + 1 = k by omega]; exact HR0.out)⟩
  case round =>
    clear HR HR0 gt0 ds0 hn htk htl htn hwr hwf hfu
    obtain ⟨j, op, kids, ts, n, A, c, rfl, hGK, hfu, hkl, hwf, hn, gt, ds, hgi, HE⟩ := hrel
    have hdep := HDK.out j (by omega) ts n (ar + 1) gx s wr ds hwf hn (by omega) hs (by omega) (by omega)
    rw [HM2.out] at hdep
    have HST : Hid (R = match depP j ts n (ar + 1) with | .err a c => .err a c | .ok kid ts1 n1 => if (hdT ts1).1 = [41] ∧ clR op (kids.length + 1) = true then .ok (.mk op [] 0 [] (kids ++ [kid])) ts1.tail n1 else if foR op (kids.length + 1) (hdT ts1).1 = false then .err (hdT ts1).2 3 else groupP j (if op = [] then (hdT ts1).1 else op) (kids ++ [kid]) ts1.tail n1 (ar + 1)) := Lib.hid (by rw [HE.out, groupP]; rfl)
    obtain ⟨PRr, HPR⟩ : ∃ x, Hid (depP j ts n (ar + 1) = x) := ⟨_, Lib.hid rfl⟩
    rw [HPR.out] at hdep HST
    have HGI := Lib.hid hgi
    have hcst : ((ar + 1 : Nat) : Int) = (ar : Int) + 1 := by omega
    rw [hcst] at hdep
    have wa : IntKind.i64.wrap ((ar : Int) + 1) = (ar : Int) + 1 := i64_in _ (by omega) (by omega)
    clear HE HDK ds hgi hcst
    cases PRr with
    | err ea ec =>
      go_upto_region 13 with (go_at_call 17; refine hdep.mono ?_; clear hdep; rintro rr W5 ⟨hk5, hec, ⟨dd, A8, n8, c8, rfl⟩, p8, m8, hx8⟩; simp only [richV, richC])
      have HV : Hid (R = .err ea ec) := HST
      have gt5 := gt.next hk5 hgW
      have hq : Below W5.heap.size W5 (W5.alloc (.cells #[.string (bs dd.op), .string (bs dd.name), .int .i64 dd.aop, .string (bs dd.ver), .slice A8 n8 c8] 27)) := (Below.refl _ _).alloc (Nat.le_refl _) _
      have gt6 := gt5.below hq
      have hx6 := hx8.below hq hx8.lt
      clear gt gt5 hx8 hk5 hq HST HPR
      generalize W5.alloc (.cells #[.string (bs dd.op), .string (bs dd.name), .int .i64 dd.aop, .string (bs dd.ver), .slice A8 n8 c8] 27) = W6 at gt6 hx6 ⊢
      have x4 := hx6.cell 4
      simp at x4
      have qec : (ec != 0) = true := by simpa using hec
      obtain ⟨d0, d1, d2, d3, d4, _⟩ := blk_outs gt6.bD
      obtain ⟨q0, q1, q2, q3, q4, eA⟩ := blk_outs gt6.bA
      have eA0 := eA 0
      have eA1 := eA 1
      have eA2 := eA 2
      have eA3 := eA 3
      have eA4 := eA 4
      go_wp2_with fail
      obtain ⟨Wz, hWz, c1, k9⟩ := ret_rich gt6.bA (.string (bs op)) (.string ⟨#[]⟩) (.int .i64 0) (.string ⟨#[]⟩) (.slice A kids.length c)
      rw [← hWz]
      have hk9 : Kept (fun k => k = gx) W Wz := gt6.kept.cutR k9 fun i e => .inr (by rw [e]; exact gt6.hA)
      have k0 := c1.cell 0
      have k1 := c1.cell 1
      have k2 := c1.cell 2
      have k3 := c1.cell 3
      have k4 := c1.cell 4
      simp at k0 k1 k2 k3 k4
      refine bodyPost_ret (v := .agg #[.string (bs op), .string ⟨#[]⟩, .int .i64 0, .string ⟨#[]⟩, .slice A kids.length c]) (by simp [results, Tryd.results17, go_sem, k0, k1, k2, k3, k4]) rfl ?_

      have bxz := k9.blk hx6 fun e => by have := gt6.hA; omega
      rw [HV.out]
      exact And.intro hk9 (And.intro hec ⟨⟨.mk op [] 0 [] [], A, kids.length, c, rfl⟩, _, _, bxz⟩)
    | ok dd tt nn =>
      obtain ⟨kop, kname, kaop, kver, kkids⟩ := dd
      have hlt1 := gt.bA.lt
      have hlt3 := gt.bD.lt
      have hltA := gt.hA
      have hltD := gt.hD
      go_upto_region 13 with (go_at_call 17; refine hdep.mono ?_; clear hdep; rintro rr W5 ⟨hk5, ⟨kv, rfl, hkv⟩, hwf5, hlen5, hds5, hn5⟩; obtain ⟨Ak, ck, rfl, _, _⟩ := hkv.form; simp only [richV, richC, Rdp.op, Rdp.name, Rdp.aop, Rdp.ver, Rdp.kids] at hkv ⊢)
      have gt5 := gt.next hk5 hgW
      have hw5 := hk5.size
      have hoX : ∀ k, (Value.slice A kids.length c).ownBlock = some k → k < wr.heap.size := fun k hk => (ownL_notX gt.own hk).2
      have hWr := gt.kept.size
      have hq : Below W5.heap.size W5 (W5.alloc (.cells #[.string (bs kop), .string (bs kname), .int .i64 kaop, .string (bs kver), .slice Ak kkids.length ck] 27)) := (Below.refl _ _).alloc (Nat.le_refl _) _
      have bK := Blk.new W5 27 #[.string (bs kop), .string (bs kname), .int .i64 kaop, .string (bs kver), .slice Ak kkids.length ck]
      have gt6 := gt5.below hq
      have ds6 := hds5.below hq
      have hkv6 := Below.sk (good_rich m) hq hkv
      have hb6s := hq.size
      clear gt5 hkv hds5 hk5 gt hq HPR
      generalize W5.alloc (.cells #[.string (bs kop), .string (bs kname), .int .i64 kaop, .string (bs kver), .slice Ak kkids.length ck] 27) = W6 at gt6 ds6 hkv6 bK hb6s ⊢
      generalize W5.heap.size = gK at bK hw5 hb6s ⊢
      obtain ⟨u0, u1, u2, u3, u4, _⟩ := blk_outs bK
      obtain ⟨d0, d1, d2, d3, d4, _⟩ := blk_outs gt6.bD
      have g4 := gt6.bD.frozen 4
      have x4 : W6.cell? ⟨gx, 4, none⟩ = some (.int .i64 0) := by
        obtain ⟨_, _, _, hx⟩ := ds6
        have := hx.cell 4
        simpa using this
      have hR6 : Rr (m + 1) (fun k => (k < W.heap.size ∨ (k = gA ∨ k = gD)) ∨ (Value.slice A kids.length c).ownBlock = some k) W6 [.string (bs kop), .string (bs kname), .int .i64 kaop, .string (bs kver), .slice Ak kkids.length ck] (.mk kop kname kaop kver kkids) :=
        ⟨_, rfl, hkv6.mono (good_rich m) (by omega) fun k hk h => by
          rcases h with (h | h | h) | h
          · omega
          · omega
          · omega
          · exact hoX k h⟩
      have hsz6 : W.heap.size ≤ W6.heap.size := by omega
      have hXn : ∀ k, W6.heap.size ≤ k → ¬ (k < W.heap.size ∨ (k = gA ∨ k = gD)) := fun k hk h => by omega
      have hoD : ∀ k, (Value.slice A kids.length c).ownBlock = some k → k ≠ gD := fun k hk e => (ownL_notX gt6.own hk).1 (.inr (.inr e))
      go_upto_region 16 with (at_builtin; refine wpList_appendL (l := kids) (good_rich (m + 1)) rfl _ _ _ _ _ 80 rfl Tryd.underlying25 info_rich rfl (by omega) W.heap.size rfl gt6.own [.string (bs kop), .string (bs kname), .int .i64 kaop, .string (bs kver), .slice Ak kkids.length ck] (.mk kop kname kaop kver kkids) rfl hR6 (by omega) (by omega) hsz6 hXn ?_; intro v7 W7 hown7 hk7; obtain ⟨A7, c7, rfl⟩ := hown7.form; have bD7 := hk7.blk gt6.bD (fun e => hoD _ e rfl); have d4' := bD7.cell 4; have g4' := bD7.frozen 4; simp at d4')
      obtain ⟨gt8, hk8⟩ := gt6.push hk7 hown7
      have ds8 := ds6.keep hk8 (by omega)
      clear hkv6 bK u0 u1 u2 u3 u4 d0 d1 d2 d3 d4 g4 hR6 hXn hoD hoX gt6 ds6 hown7 hk7 hk8 bD7 d4' g4' x4
      obtain ⟨kid, HKID⟩ : ∃ x, Hid (Rdp.mk kop kname kaop kver kkids = x) := ⟨_, Lib.hid rfl⟩
      rw [HKID.out] at gt8 HST ds8
      rw [show (kids ++ [kid]).length = kids.length + 1 by simp] at gt8 ds8
      generalize W7.setCell ⟨gD, 4, none⟩ (.slice A7 (kids.length + 1) c7) = W8 at gt8 ds8 ⊢
      obtain ⟨p1, r1, rfl⟩ := hwf5.ne
      obtain ⟨t1, a1⟩ := p1
      have HST3 : Hid (R = if t1 = [41] ∧ clR op (kids.length + 1) = true then .ok (.mk op [] 0 [] (kids ++ [kid])) r1 nn else if foR op (kids.length + 1) t1 = false then .err a1 3 else groupP j (if op = [] then t1 else op) (kids ++ [kid]) r1 nn (ar + 1)) := HST
      clear HST HKID
      have ht1 : a1 + t1.length ≤ s.length ∧ (t1 ≠ [] → tkR s (a1 + t1.length) = r1) := by
        obtain ⟨p, h1, h2, h3⟩ := ds8
        obtain ⟨_, _, h5, h6⟩ := tkR_cons h2 h1
        exact ⟨h5, h6⟩
      obtain ⟨ht1l, ht1n⟩ := ht1
      have HTN1 := Lib.hid ht1n
      have hlk := rlook_ds gx s t1 a1 r1 nn W8 hs ds8
      go_upto_region 17 with (go_at_call 18; refine hlk.mono ?_; clear hlk; rintro rr W9 ⟨rfl, bx9, hk9⟩)
      have gt9 := gt8.next hk9 hgW
      clear gt8 ds8 hk9 ht1n
      obtain ⟨d0, d1, d2, d3, d4, _⟩ := blk_outs gt9.bD
      have hbt1 := bs_size t1
      have hwd := rword_any t1
      have e41 := eqS t1 [41]
      have HCL := Lib.hid (gi_close HGI.out)
      go_upto_region 18 with fail
      by_cases hk0 : kids.length = 0
      · have n1 : decide (1 < (kids.length : Int) + 1) = false := decide_eq_false (by omega)
        have n2 : ((kids.length : Int) + 1 == 1) = true := by rw [beq_iff_eq]; omega
        have n3 : ((kids.length : Int) + 1 == 2) = false := by simpa using (show ¬ (kids.length : Int) + 1 = 2 by omega)
        have n4 : decide ((kids.length : Int) + 1 < 2) = true := decide_eq_true (by omega)
        have hop : op = [] := (gi_nil HGI.out).2 hk0
        have HSZ : Hid (R = if knR t1 = false then .err a1 3 else groupP j t1 (kids ++ [kid]) r1 nn (ar + 1)) := Lib.hid (by
          rw [HST3.out, if_neg (fun h => by rw [HCL.out, hk0] at h; exact absurd h.2 (by decide)), hop, hk0, foR_zero, if_pos rfl])
        clear HST3 hop HCL HGI
        cases hkn : knR t1 with
        | false =>
          have HV : Hid (R = .err a1 3) := Lib.hid (by rw [HSZ.out, if_pos hkn])
          rw [hkn] at hwd
          clear hkn HSZ hk0
          have hbad := rbad_any gx s a1 nn 0 0 3 W9 bx9
          go_wp2_with (first
            | (go_at_call 31; refine (hwd _).mono ?_; rintro rr Ww ⟨rfl, rfl⟩)
            | (go_at_call 19; refine hbad.mono ?_; clear hbad d0 d1 d2 d3 d4; rintro rr Wb ⟨rfl, hxb, hkb⟩; have gtb := gt9.next hkb hgW; obtain ⟨d0, d1, d2, d3, d4, _⟩ := blk_outs gtb.bD; obtain ⟨q0, q1, q2, q3, q4, eA⟩ := blk_outs gtb.bA; have eA0 := eA 0; have eA1 := eA 1; have eA2 := eA 2; have eA3 := eA 3; have eA4 := eA 4))

          obtain ⟨Wz, hWz, c1, k9⟩ := ret_rich gtb.bA (.string (bs op)) (.string ⟨#[]⟩) (.int .i64 0) (.string ⟨#[]⟩) (.slice A7 (kids.length + 1) c7)
          rw [← hWz]
          have hk9 : Kept (fun k => k = gx) W Wz := gtb.kept.cutR k9 fun i e => .inr (by rw [e]; exact gtb.hA)
          have k0 := c1.cell 0
          have k1 := c1.cell 1
          have k2 := c1.cell 2
          have k3 := c1.cell 3
          have k4 := c1.cell 4
          simp at k0 k1 k2 k3 k4
          refine bodyPost_ret (v := .agg #[.string (bs op), .string ⟨#[]⟩, .int .i64 0, .string ⟨#[]⟩, .slice A7 (kids.length + 1) c7]) (by simp [results, Tryd.results17, go_sem, k0, k1, k2, k3, k4]) rfl ?_

          have bxz := k9.blk hxb fun e => by have := gtb.hA; omega
          rw [HV.out]
          exact And.intro hk9 (And.intro (by decide) ⟨⟨.mk op [] 0 [] [], A7, kids.length + 1, c7, rfl⟩, _, _, bxz⟩)
        | true =>
          have HV : Hid (R = groupP j t1 (kids ++ [kid]) r1 nn (ar + 1)) := Lib.hid (by rw [HSZ.out, if_neg (by rw [hkn]; decide)])
          have HNE := Lib.hid (kn_ne hkn)
          have HGN : Hid (GI t1 (kids.length + 1)) := Lib.hid (by rw [hk0]; exact gi_next0 hkn)
          rw [hkn] at hwd
          clear hkn HSZ hk0
          have ht1n := HTN1.out HNE.out
          have z1 := bx9.cell 1
          have f1 := bx9.frozen 1
          simp at z1

          have g0 := gt9.bD.frozen 0
          go_upto_region 28 with (go_at_call 31; refine (hwd _).mono ?_; rintro rr Ww ⟨rfl, rfl⟩)
          have gta := gt9.setop t1
          have bxa := (kept_op W9 gD t1).blk bx9 (fun e => hDx e.symm)
          clear gt9 bx9 d0 d1 d2 d3 d4 g0 z1 f1
          generalize W9.setCell ⟨gD, 0, none⟩ (.string (bs t1)) = Wo at gta bxa ⊢
          have z1 := bxa.cell 1
          have f1 := bxa.frozen 1
          simp at z1

          have w1 : IntKind.i64.wrap ((a1 : Int) + (t1.length : Int)) = (a1 : Int) + (t1.length : Int) := i64_in _ (by omega) (by omega)
          go_wp2_with fail
          have kx : Kept (fun k => k = gx) Wo (Wo.setCell ⟨gx, 1, none⟩ (.int .i64 ((a1 : Int) + (t1.length : Int)))) := (Kept.refl (fun k => k = gx) Wo).setCell (p := ⟨gx, 1, none⟩) _ fun _ => rfl
          have bxb : Blk (Wo.setCell ⟨gx, 1, none⟩ (.int .i64 ((a1 : Int) + (t1.length : Int)))) gx 52 #[.string (bs s), .int .i64 ((a1 : Int) + (t1.length : Int) : Int), .string ⟨#[]⟩, .int .i64 0, .int .i64 0, .int .i64 (nn : Int)] := by
            have := bxa.set (u := .int .i64 ((a1 : Int) + (t1.length : Int))) 1
            simpa using this
          have gtz := gta.next kx hgW
          have HGI2 : GI t1 (kids.length + 1) := HGN.out
          go_roundg j
          case measure => omega
          case rel => exact ⟨j - 1, t1, kids ++ [kid], r1, nn, A7, c7, by omega, by omega, by simp only [List.length_cons] at hlen5; omega, by simp only [List.length_cons] at hlen5; simp; omega, hwf5.next HNE.out, hn5, by rw [show (kids ++ [kid]).length = kids.length + 1 by simp]; exact gtz, ⟨a1 + t1.length, ht1l, ht1n, bxb⟩, by rw [show (kids ++ [kid]).length = kids.length + 1 by simp]; exact HGI2, Lib.hid (by rw [show j - 1 + 1 = j by omega]; exact HV.out)⟩
      · have hk1 : 1 ≤ kids.length := by omega
        have n1 : decide (1 < (kids.length : Int) + 1) = true := decide_eq_true (by omega)
        have n2 : ((kids.length : Int) + 1 == 1) = false := by simpa using (show ¬ (kids.length : Int) + 1 = 1 by omega)
        have n4 : decide ((kids.length : Int) + 1 < 2) = false := decide_eq_false (by omega)
        have hopn : op ≠ [] := fun e => hk0 ((gi_nil HGI.out).1 e)
        by_cases h41 : t1 = [41]
        · rw [decide_eq_true h41] at e41
          have HV : Hid (R = .ok (.mk op [] 0 [] (kids ++ [kid])) r1 nn) := Lib.hid (by rw [HST3.out, if_pos ⟨h41, by rw [HCL.out]; exact decide_eq_true hk1⟩])
          have HNE := Lib.hid (show t1 ≠ [] by rw [h41]; simp)
          have ht1n := HTN1.out HNE.out
          have hl1 : t1.length = 1 := by rw [h41]; rfl
          have z1 := bx9.cell 1
          have f1 := bx9.frozen 1
          simp at z1
          have w1 : IntKind.i64.wrap ((a1 : Int) + 1) = (a1 : Int) + 1 := i64_in _ (by omega) (by omega)
          clear HST3 HCL HGI h41 hopn
          go_upto_region 20 with fail
          have kx : Kept (fun k => k = gx) W9 (W9.setCell ⟨gx, 1, none⟩ (.int .i64 ((a1 : Int) + 1))) := (Kept.refl (fun k => k = gx) W9).setCell (p := ⟨gx, 1, none⟩) _ fun _ => rfl
          have bxb : Blk (W9.setCell ⟨gx, 1, none⟩ (.int .i64 ((a1 : Int) + 1))) gx 52 #[.string (bs s), .int .i64 ((a1 : Int) + 1), .string ⟨#[]⟩, .int .i64 0, .int .i64 0, .int .i64 (nn : Int)] := by
            have := bx9.set (u := .int .i64 ((a1 : Int) + 1)) 1
            simpa using this
          have gtb := gt9.next kx hgW
          clear gt9 bx9 z1 f1 kx d0 d1 d2 d3 d4 w1
          generalize W9.setCell ⟨gx, 1, none⟩ (.int .i64 ((a1 : Int) + 1)) = Wb at gtb bxb ⊢
          obtain ⟨d0, d1, d2, d3, d4, _⟩ := blk_outs gtb.bD
          obtain ⟨q0, q1, q2, q3, q4, eA⟩ := blk_outs gtb.bA
          have eA0 := eA 0
          have eA1 := eA 1
          have eA2 := eA 2
          have eA3 := eA 3
          have eA4 := eA 4
          go_wp2_with fail
          obtain ⟨Wz, hWz, c1, k9⟩ := ret_rich gtb.bA (.string (bs op)) (.string ⟨#[]⟩) (.int .i64 0) (.string ⟨#[]⟩) (.slice A7 (kids.length + 1) c7)
          rw [← hWz]
          have hk9 : Kept (fun k => k = gx) W Wz := gtb.kept.cutR k9 fun i e => .inr (by rw [e]; exact gtb.hA)
          have k0 := c1.cell 0
          have k1 := c1.cell 1
          have k2 := c1.cell 2
          have k3 := c1.cell 3
          have k4 := c1.cell 4
          simp at k0 k1 k2 k3 k4
          refine bodyPost_ret (v := .agg #[.string (bs op), .string ⟨#[]⟩, .int .i64 0, .string ⟨#[]⟩, .slice A7 (kids.length + 1) c7]) (by simp [results, Tryd.results17, go_sem, k0, k1, k2, k3, k4]) rfl ?_

          have bxz := k9.blk bxb fun e => by have := gtb.hA; omega
          have hAb := gtb.bA.lt
          rw [HV.out]
          have hkv9 : Sk 5 (Rr (m + 1)) (fun k => k < W.heap.size) Wz (.slice A7 (kids.length + 1) c7) (kids ++ [kid]) := ((gtb.own.sk (good_rich _)).keep (good_rich _) (k9.mono fun i _ hi => .inr (.inl hi))).mono (good_rich _) (by omega) fun i _ hi => .inl hi
          exact And.intro hk9 ⟨⟨_, rfl, hkv9⟩, hwf5.next HNE.out, by simp only [List.length_cons] at hlen5; omega, ⟨a1 + 1, by omega, by rw [← hl1]; exact ht1n, bxz⟩, hn5⟩
        · rw [decide_eq_false h41] at e41
          have HFM := Lib.hid (foR_more HGI.out hk1 t1)
          have HGN0 : Hid (foR op (kids.length + 1) t1 = true → GI op (kids.length + 1) ∧ t1 ≠ []) := Lib.hid fun h => ⟨gi_next HGI.out hk1 h, foR_ne h⟩
          have HST4 : Hid (R = if foR op (kids.length + 1) t1 = false then .err a1 3 else groupP j op (kids ++ [kid]) r1 nn (ar + 1)) := Lib.hid (by rw [HST3.out, if_neg (fun h => h41 h.1), if_neg hopn])
          have HAO : Hid (isAO t1 = (decide (t1 = [97, 110, 100]) || decide (t1 = [111, 114]))) := Lib.hid rfl
          have HIU : Hid (isIU op = (decide (op = [105, 102]) || decide (op = [117, 110, 108, 101, 115, 115]))) := Lib.hid rfl
          rw [HAO.out, HIU.out] at HFM
          have el := eqS t1 [101, 108, 115, 101]
          have oi := eqS op [105, 102]
          have ou := eqS op [117, 110, 108, 101, 115, 115]
          have eo := eqS2 t1 op
          have ea := eqS t1 [97, 110, 100]
          have er := eqS t1 [111, 114]
          clear HST3 HCL HAO HIU hopn h41
          generalize decide (op = [105, 102]) = boi at oi HFM
          generalize decide (op = [117, 110, 108, 101, 115, 115]) = bou at ou HFM
          generalize decide (t1 = op) = beo at eo HFM
          generalize decide (t1 = [97, 110, 100]) = bea at ea HFM
          generalize decide (t1 = [111, 114]) = ber at er HFM
          by_cases hk2 : kids.length = 1
          · have n3 : ((kids.length : Int) + 1 == 2) = true := by rw [beq_iff_eq]; omega
            rw [decide_eq_true hk2] at HFM
            clear hk2
            by_cases hel : t1 = [101, 108, 115, 101]
            · have hl4 : t1.length = 4 := by rw [hel]; rfl
              rw [decide_eq_true hel] at el HFM
              clear hel
              cases boi with
              | true =>
                have hfo : foR op (kids.length + 1) t1 = true := by rw [HFM.out]; simp
                have HV : Hid (R = groupP j op (kids ++ [kid]) r1 nn (ar + 1)) := Lib.hid (by rw [HST4.out, if_neg (by rw [hfo]; simp)])
                have HNE := Lib.hid (HGN0.out hfo).2
                have HGN := Lib.hid (HGN0.out hfo).1
                clear hfo HFM HST4 HGN0

                have ht1n := HTN1.out HNE.out
                have z1 := bx9.cell 1
                have f1 := bx9.frozen 1
                simp at z1

                go_upto_region 28 with fail
                have gta := gt9
                have bxa := bx9
                clear gt9 bx9 d0 d1 d2 d3 d4

                have w1 : IntKind.i64.wrap ((a1 : Int) + 4) = (a1 : Int) + 4 := i64_in _ (by omega) (by omega)
                go_wp2_with fail
                have kx : Kept (fun k => k = gx) W9 (W9.setCell ⟨gx, 1, none⟩ (.int .i64 ((a1 : Int) + 4))) := (Kept.refl (fun k => k = gx) W9).setCell (p := ⟨gx, 1, none⟩) _ fun _ => rfl
                have bxb : Blk (W9.setCell ⟨gx, 1, none⟩ (.int .i64 ((a1 : Int) + 4))) gx 52 #[.string (bs s), .int .i64 ((a1 : Int) + 4 : Int), .string ⟨#[]⟩, .int .i64 0, .int .i64 0, .int .i64 (nn : Int)] := by
                  have := bxa.set (u := .int .i64 ((a1 : Int) + 4)) 1
                  simpa using this
                have gtz := gta.next kx hgW
                have HGI2 : GI op (kids.length + 1) := HGN.out
                go_roundg j
                case measure => omega
                case rel => exact ⟨j - 1, op, kids ++ [kid], r1, nn, A7, c7, by omega, by omega, by simp only [List.length_cons] at hlen5; omega, by simp only [List.length_cons] at hlen5; simp; omega, hwf5.next HNE.out, hn5, by rw [show (kids ++ [kid]).length = kids.length + 1 by simp]; exact gtz, ⟨a1 + 4, by omega, by rw [← hl4]; exact ht1n, bxb⟩, by rw [show (kids ++ [kid]).length = kids.length + 1 by simp]; exact HGI2, Lib.hid (by rw [show j - 1 + 1 = j by omega]; exact HV.out)⟩
              | false =>
              cases bou with
              | true =>
                have hfo : foR op (kids.length + 1) t1 = true := by rw [HFM.out]; simp
                have HV : Hid (R = groupP j op (kids ++ [kid]) r1 nn (ar + 1)) := Lib.hid (by rw [HST4.out, if_neg (by rw [hfo]; simp)])
                have HNE := Lib.hid (HGN0.out hfo).2
                have HGN := Lib.hid (HGN0.out hfo).1
                clear hfo HFM HST4 HGN0

                have ht1n := HTN1.out HNE.out
                have z1 := bx9.cell 1
                have f1 := bx9.frozen 1
                simp at z1

                go_upto_region 28 with fail
                have gta := gt9
                have bxa := bx9
                clear gt9 bx9 d0 d1 d2 d3 d4

                have w1 : IntKind.i64.wrap ((a1 : Int) + 4) = (a1 : Int) + 4 := i64_in _ (by omega) (by omega)
                go_wp2_with fail
                have kx : Kept (fun k => k = gx) W9 (W9.setCell ⟨gx, 1, none⟩ (.int .i64 ((a1 : Int) + 4))) := (Kept.refl (fun k => k = gx) W9).setCell (p := ⟨gx, 1, none⟩) _ fun _ => rfl
                have bxb : Blk (W9.setCell ⟨gx, 1, none⟩ (.int .i64 ((a1 : Int) + 4))) gx 52 #[.string (bs s), .int .i64 ((a1 : Int) + 4 : Int), .string ⟨#[]⟩, .int .i64 0, .int .i64 0, .int .i64 (nn : Int)] := by
                  have := bxa.set (u := .int .i64 ((a1 : Int) + 4)) 1
                  simpa using this
                have gtz := gta.next kx hgW
                have HGI2 : GI op (kids.length + 1) := HGN.out
                go_roundg j
                case measure => omega
                case rel => exact ⟨j - 1, op, kids ++ [kid], r1, nn, A7, c7, by omega, by omega, by simp only [List.length_cons] at hlen5; omega, by simp only [List.length_cons] at hlen5; simp; omega, hwf5.next HNE.out, hn5, by rw [show (kids ++ [kid]).length = kids.length + 1 by simp]; exact gtz, ⟨a1 + 4, by omega, by rw [← hl4]; exact ht1n, bxb⟩, by rw [show (kids ++ [kid]).length = kids.length + 1 by simp]; exact HGI2, Lib.hid (by rw [show j - 1 + 1 = j by omega]; exact HV.out)⟩
              | false =>
                clear hl4
                cases beo with
                | false =>
                  have HV : Hid (R = .err a1 3) := Lib.hid (by rw [HST4.out, if_pos (by rw [HFM.out]; simp)])
                  clear HFM HST4 HGN0

                  have hbad := rbad_any gx s a1 nn 0 0 3 W9 bx9
                  go_wp2_with (first
                    | (go_at_call 31; refine (hwd _).mono ?_; rintro rr Ww ⟨rfl, rfl⟩)
                    | (go_at_call 19; refine hbad.mono ?_; clear hbad d0 d1 d2 d3 d4; rintro rr Wb ⟨rfl, hxb, hkb⟩; have gtb := gt9.next hkb hgW; obtain ⟨d0, d1, d2, d3, d4, _⟩ := blk_outs gtb.bD; obtain ⟨q0, q1, q2, q3, q4, eA⟩ := blk_outs gtb.bA; have eA0 := eA 0; have eA1 := eA 1; have eA2 := eA 2; have eA3 := eA 3; have eA4 := eA 4))

                  obtain ⟨Wz, hWz, c1, k9⟩ := ret_rich gtb.bA (.string (bs op)) (.string ⟨#[]⟩) (.int .i64 0) (.string ⟨#[]⟩) (.slice A7 (kids.length + 1) c7)
                  rw [← hWz]
                  have hk9 : Kept (fun k => k = gx) W Wz := gtb.kept.cutR k9 fun i e => .inr (by rw [e]; exact gtb.hA)
                  have k0 := c1.cell 0
                  have k1 := c1.cell 1
                  have k2 := c1.cell 2
                  have k3 := c1.cell 3
                  have k4 := c1.cell 4
                  simp at k0 k1 k2 k3 k4
                  refine bodyPost_ret (v := .agg #[.string (bs op), .string ⟨#[]⟩, .int .i64 0, .string ⟨#[]⟩, .slice A7 (kids.length + 1) c7]) (by simp [results, Tryd.results17, go_sem, k0, k1, k2, k3, k4]) rfl ?_

                  have bxz := k9.blk hxb fun e => by have := gtb.hA; omega
                  rw [HV.out]
                  exact And.intro hk9 (And.intro (by decide) ⟨⟨.mk op [] 0 [] [], A7, kids.length + 1, c7, rfl⟩, _, _, bxz⟩)
                | true =>
                cases bea with
                | true =>
                  have hfo : foR op (kids.length + 1) t1 = true := by rw [HFM.out]; simp
                  have HV : Hid (R = groupP j op (kids ++ [kid]) r1 nn (ar + 1)) := Lib.hid (by rw [HST4.out, if_neg (by rw [hfo]; simp)])
                  have HNE := Lib.hid (HGN0.out hfo).2
                  have HGN := Lib.hid (HGN0.out hfo).1
                  clear hfo HFM HST4 HGN0

                  have ht1n := HTN1.out HNE.out
                  have z1 := bx9.cell 1
                  have f1 := bx9.frozen 1
                  simp at z1

                  go_upto_region 28 with fail
                  have gta := gt9
                  have bxa := bx9
                  clear gt9 bx9 d0 d1 d2 d3 d4

                  have w1 : IntKind.i64.wrap ((a1 : Int) + (t1.length : Int)) = (a1 : Int) + (t1.length : Int) := i64_in _ (by omega) (by omega)
                  go_wp2_with fail
                  have kx : Kept (fun k => k = gx) W9 (W9.setCell ⟨gx, 1, none⟩ (.int .i64 ((a1 : Int) + (t1.length : Int)))) := (Kept.refl (fun k => k = gx) W9).setCell (p := ⟨gx, 1, none⟩) _ fun _ => rfl
                  have bxb : Blk (W9.setCell ⟨gx, 1, none⟩ (.int .i64 ((a1 : Int) + (t1.length : Int)))) gx 52 #[.string (bs s), .int .i64 ((a1 : Int) + (t1.length : Int) : Int), .string ⟨#[]⟩, .int .i64 0, .int .i64 0, .int .i64 (nn : Int)] := by
                    have := bxa.set (u := .int .i64 ((a1 : Int) + (t1.length : Int))) 1
                    simpa using this
                  have gtz := gta.next kx hgW
                  have HGI2 : GI op (kids.length + 1) := HGN.out
                  go_roundg j
                  case measure => omega
                  case rel => exact ⟨j - 1, op, kids ++ [kid], r1, nn, A7, c7, by omega, by omega, by simp only [List.length_cons] at hlen5; omega, by simp only [List.length_cons] at hlen5; simp; omega, hwf5.next HNE.out, hn5, by rw [show (kids ++ [kid]).length = kids.length + 1 by simp]; exact gtz, ⟨a1 + t1.length, ht1l, ht1n, bxb⟩, by rw [show (kids ++ [kid]).length = kids.length + 1 by simp]; exact HGI2, Lib.hid (by rw [show j - 1 + 1 = j by omega]; exact HV.out)⟩
                | false =>
                cases ber with
                | true =>
                  have hfo : foR op (kids.length + 1) t1 = true := by rw [HFM.out]; simp
                  have HV : Hid (R = groupP j op (kids ++ [kid]) r1 nn (ar + 1)) := Lib.hid (by rw [HST4.out, if_neg (by rw [hfo]; simp)])
                  have HNE := Lib.hid (HGN0.out hfo).2
                  have HGN := Lib.hid (HGN0.out hfo).1
                  clear hfo HFM HST4 HGN0

                  have ht1n := HTN1.out HNE.out
                  have z1 := bx9.cell 1
                  have f1 := bx9.frozen 1
                  simp at z1

                  go_upto_region 28 with fail
                  have gta := gt9
                  have bxa := bx9
                  clear gt9 bx9 d0 d1 d2 d3 d4

                  have w1 : IntKind.i64.wrap ((a1 : Int) + (t1.length : Int)) = (a1 : Int) + (t1.length : Int) := i64_in _ (by omega) (by omega)
                  go_wp2_with fail
                  have kx : Kept (fun k => k = gx) W9 (W9.setCell ⟨gx, 1, none⟩ (.int .i64 ((a1 : Int) + (t1.length : Int)))) := (Kept.refl (fun k => k = gx) W9).setCell (p := ⟨gx, 1, none⟩) _ fun _ => rfl
                  have bxb : Blk (W9.setCell ⟨gx, 1, none⟩ (.int .i64 ((a1 : Int) + (t1.length : Int)))) gx 52 #[.string (bs s), .int .i64 ((a1 : Int) + (t1.length : Int) : Int), .string ⟨#[]⟩, .int .i64 0, .int .i64 0, .int .i64 (nn : Int)] := by
                    have := bxa.set (u := .int .i64 ((a1 : Int) + (t1.length : Int))) 1
                    simpa using this
                  have gtz := gta.next kx hgW
                  have HGI2 : GI op (kids.length + 1) := HGN.out
                  go_roundg j
                  case measure => omega
                  case rel => exact ⟨j - 1, op, kids ++ [kid], r1, nn, A7, c7, by omega, by omega, by simp only [List.length_cons] at hlen5; omega, by simp only [List.length_cons] at hlen5; simp; omega, hwf5.next HNE.out, hn5, by rw [show (kids ++ [kid]).length = kids.length + 1 by simp]; exact gtz, ⟨a1 + t1.length, ht1l, ht1n, bxb⟩, by rw [show (kids ++ [kid]).length = kids.length + 1 by simp]; exact HGI2, Lib.hid (by rw [show j - 1 + 1 = j by omega]; exact HV.out)⟩
                | false =>
                  have HV : Hid (R = .err a1 3) := Lib.hid (by rw [HST4.out, if_pos (by rw [HFM.out]; simp)])
                  clear HFM HST4 HGN0

                  have hbad := rbad_any gx s a1 nn 0 0 3 W9 bx9
                  go_wp2_with (first
                    | (go_at_call 31; refine (hwd _).mono ?_; rintro rr Ww ⟨rfl, rfl⟩)
                    | (go_at_call 19; refine hbad.mono ?_; clear hbad d0 d1 d2 d3 d4; rintro rr Wb ⟨rfl, hxb, hkb⟩; have gtb := gt9.next hkb hgW; obtain ⟨d0, d1, d2, d3, d4, _⟩ := blk_outs gtb.bD; obtain ⟨q0, q1, q2, q3, q4, eA⟩ := blk_outs gtb.bA; have eA0 := eA 0; have eA1 := eA 1; have eA2 := eA 2; have eA3 := eA 3; have eA4 := eA 4))

                  obtain ⟨Wz, hWz, c1, k9⟩ := ret_rich gtb.bA (.string (bs op)) (.string ⟨#[]⟩) (.int .i64 0) (.string ⟨#[]⟩) (.slice A7 (kids.length + 1) c7)
                  rw [← hWz]
                  have hk9 : Kept (fun k => k = gx) W Wz := gtb.kept.cutR k9 fun i e => .inr (by rw [e]; exact gtb.hA)
                  have k0 := c1.cell 0
                  have k1 := c1.cell 1
                  have k2 := c1.cell 2
                  have k3 := c1.cell 3
                  have k4 := c1.cell 4
                  simp at k0 k1 k2 k3 k4
                  refine bodyPost_ret (v := .agg #[.string (bs op), .string ⟨#[]⟩, .int .i64 0, .string ⟨#[]⟩, .slice A7 (kids.length + 1) c7]) (by simp [results, Tryd.results17, go_sem, k0, k1, k2, k3, k4]) rfl ?_

                  have bxz := k9.blk hxb fun e => by have := gtb.hA; omega
                  rw [HV.out]
                  exact And.intro hk9 (And.intro (by decide) ⟨⟨.mk op [] 0 [] [], A7, kids.length + 1, c7, rfl⟩, _, _, bxz⟩)
            · rw [decide_eq_false hel] at el HFM
              clear hel
              cases beo with
              | false =>
                have HV : Hid (R = .err a1 3) := Lib.hid (by rw [HST4.out, if_pos (by rw [HFM.out]; simp)])
                clear HFM HST4 HGN0

                have hbad := rbad_any gx s a1 nn 0 0 3 W9 bx9
                go_wp2_with (first
                  | (go_at_call 31; refine (hwd _).mono ?_; rintro rr Ww ⟨rfl, rfl⟩)
                  | (go_at_call 19; refine hbad.mono ?_; clear hbad d0 d1 d2 d3 d4; rintro rr Wb ⟨rfl, hxb, hkb⟩; have gtb := gt9.next hkb hgW; obtain ⟨d0, d1, d2, d3, d4, _⟩ := blk_outs gtb.bD; obtain ⟨q0, q1, q2, q3, q4, eA⟩ := blk_outs gtb.bA; have eA0 := eA 0; have eA1 := eA 1; have eA2 := eA 2; have eA3 := eA 3; have eA4 := eA 4))

                obtain ⟨Wz, hWz, c1, k9⟩ := ret_rich gtb.bA (.string (bs op)) (.string ⟨#[]⟩) (.int .i64 0) (.string ⟨#[]⟩) (.slice A7 (kids.length + 1) c7)
                rw [← hWz]
                have hk9 : Kept (fun k => k = gx) W Wz := gtb.kept.cutR k9 fun i e => .inr (by rw [e]; exact gtb.hA)
                have k0 := c1.cell 0
                have k1 := c1.cell 1
                have k2 := c1.cell 2
                have k3 := c1.cell 3
                have k4 := c1.cell 4
                simp at k0 k1 k2 k3 k4
                refine bodyPost_ret (v := .agg #[.string (bs op), .string ⟨#[]⟩, .int .i64 0, .string ⟨#[]⟩, .slice A7 (kids.length + 1) c7]) (by simp [results, Tryd.results17, go_sem, k0, k1, k2, k3, k4]) rfl ?_

                have bxz := k9.blk hxb fun e => by have := gtb.hA; omega
                rw [HV.out]
                exact And.intro hk9 (And.intro (by decide) ⟨⟨.mk op [] 0 [] [], A7, kids.length + 1, c7, rfl⟩, _, _, bxz⟩)
              | true =>
              cases bea with
              | true =>
                have hfo : foR op (kids.length + 1) t1 = true := by rw [HFM.out]; simp
                have HV : Hid (R = groupP j op (kids ++ [kid]) r1 nn (ar + 1)) := Lib.hid (by rw [HST4.out, if_neg (by rw [hfo]; simp)])
                have HNE := Lib.hid (HGN0.out hfo).2
                have HGN := Lib.hid (HGN0.out hfo).1
                clear hfo HFM HST4 HGN0

                have ht1n := HTN1.out HNE.out
                have z1 := bx9.cell 1
                have f1 := bx9.frozen 1
                simp at z1

                go_upto_region 28 with fail
                have gta := gt9
                have bxa := bx9
                clear gt9 bx9 d0 d1 d2 d3 d4

                have w1 : IntKind.i64.wrap ((a1 : Int) + (t1.length : Int)) = (a1 : Int) + (t1.length : Int) := i64_in _ (by omega) (by omega)
                go_wp2_with fail
                have kx : Kept (fun k => k = gx) W9 (W9.setCell ⟨gx, 1, none⟩ (.int .i64 ((a1 : Int) + (t1.length : Int)))) := (Kept.refl (fun k => k = gx) W9).setCell (p := ⟨gx, 1, none⟩) _ fun _ => rfl
                have bxb : Blk (W9.setCell ⟨gx, 1, none⟩ (.int .i64 ((a1 : Int) + (t1.length : Int)))) gx 52 #[.string (bs s), .int .i64 ((a1 : Int) + (t1.length : Int) : Int), .string ⟨#[]⟩, .int .i64 0, .int .i64 0, .int .i64 (nn : Int)] := by
                  have := bxa.set (u := .int .i64 ((a1 : Int) + (t1.length : Int))) 1
                  simpa using this
                have gtz := gta.next kx hgW
                have HGI2 : GI op (kids.length + 1) := HGN.out
                go_roundg j
                case measure => omega
                case rel => exact ⟨j - 1, op, kids ++ [kid], r1, nn, A7, c7, by omega, by omega, by simp only [List.length_cons] at hlen5; omega, by simp only [List.length_cons] at hlen5; simp; omega, hwf5.next HNE.out, hn5, by rw [show (kids ++ [kid]).length = kids.length + 1 by simp]; exact gtz, ⟨a1 + t1.length, ht1l, ht1n, bxb⟩, by rw [show (kids ++ [kid]).length = kids.length + 1 by simp]; exact HGI2, Lib.hid (by rw [show j - 1 + 1 = j by omega]; exact HV.out)⟩
              | false =>
              cases ber with
              | true =>
                have hfo : foR op (kids.length + 1) t1 = true := by rw [HFM.out]; simp
                have HV : Hid (R = groupP j op (kids ++ [kid]) r1 nn (ar + 1)) := Lib.hid (by rw [HST4.out, if_neg (by rw [hfo]; simp)])
                have HNE := Lib.hid (HGN0.out hfo).2
                have HGN := Lib.hid (HGN0.out hfo).1
                clear hfo HFM HST4 HGN0

                have ht1n := HTN1.out HNE.out
                have z1 := bx9.cell 1
                have f1 := bx9.frozen 1
                simp at z1

                go_upto_region 28 with fail
                have gta := gt9
                have bxa := bx9
                clear gt9 bx9 d0 d1 d2 d3 d4

                have w1 : IntKind.i64.wrap ((a1 : Int) + (t1.length : Int)) = (a1 : Int) + (t1.length : Int) := i64_in _ (by omega) (by omega)
                go_wp2_with fail
                have kx : Kept (fun k => k = gx) W9 (W9.setCell ⟨gx, 1, none⟩ (.int .i64 ((a1 : Int) + (t1.length : Int)))) := (Kept.refl (fun k => k = gx) W9).setCell (p := ⟨gx, 1, none⟩) _ fun _ => rfl
                have bxb : Blk (W9.setCell ⟨gx, 1, none⟩ (.int .i64 ((a1 : Int) + (t1.length : Int)))) gx 52 #[.string (bs s), .int .i64 ((a1 : Int) + (t1.length : Int) : Int), .string ⟨#[]⟩, .int .i64 0, .int .i64 0, .int .i64 (nn : Int)] := by
                  have := bxa.set (u := .int .i64 ((a1 : Int) + (t1.length : Int))) 1
                  simpa using this
                have gtz := gta.next kx hgW
                have HGI2 : GI op (kids.length + 1) := HGN.out
                go_roundg j
                case measure => omega
                case rel => exact ⟨j - 1, op, kids ++ [kid], r1, nn, A7, c7, by omega, by omega, by simp only [List.length_cons] at hlen5; omega, by simp only [List.length_cons] at hlen5; simp; omega, hwf5.next HNE.out, hn5, by rw [show (kids ++ [kid]).length = kids.length + 1 by simp]; exact gtz, ⟨a1 + t1.length, ht1l, ht1n, bxb⟩, by rw [show (kids ++ [kid]).length = kids.length + 1 by simp]; exact HGI2, Lib.hid (by rw [show j - 1 + 1 = j by omega]; exact HV.out)⟩
              | false =>
                have HV : Hid (R = .err a1 3) := Lib.hid (by rw [HST4.out, if_pos (by rw [HFM.out]; simp)])
                clear HFM HST4 HGN0

                have hbad := rbad_any gx s a1 nn 0 0 3 W9 bx9
                go_wp2_with (first
                  | (go_at_call 31; refine (hwd _).mono ?_; rintro rr Ww ⟨rfl, rfl⟩)
                  | (go_at_call 19; refine hbad.mono ?_; clear hbad d0 d1 d2 d3 d4; rintro rr Wb ⟨rfl, hxb, hkb⟩; have gtb := gt9.next hkb hgW; obtain ⟨d0, d1, d2, d3, d4, _⟩ := blk_outs gtb.bD; obtain ⟨q0, q1, q2, q3, q4, eA⟩ := blk_outs gtb.bA; have eA0 := eA 0; have eA1 := eA 1; have eA2 := eA 2; have eA3 := eA 3; have eA4 := eA 4))

                obtain ⟨Wz, hWz, c1, k9⟩ := ret_rich gtb.bA (.string (bs op)) (.string ⟨#[]⟩) (.int .i64 0) (.string ⟨#[]⟩) (.slice A7 (kids.length + 1) c7)
                rw [← hWz]
                have hk9 : Kept (fun k => k = gx) W Wz := gtb.kept.cutR k9 fun i e => .inr (by rw [e]; exact gtb.hA)
                have k0 := c1.cell 0
                have k1 := c1.cell 1
                have k2 := c1.cell 2
                have k3 := c1.cell 3
                have k4 := c1.cell 4
                simp at k0 k1 k2 k3 k4
                refine bodyPost_ret (v := .agg #[.string (bs op), .string ⟨#[]⟩, .int .i64 0, .string ⟨#[]⟩, .slice A7 (kids.length + 1) c7]) (by simp [results, Tryd.results17, go_sem, k0, k1, k2, k3, k4]) rfl ?_

                have bxz := k9.blk hxb fun e => by have := gtb.hA; omega
                rw [HV.out]
                exact And.intro hk9 (And.intro (by decide) ⟨⟨.mk op [] 0 [] [], A7, kids.length + 1, c7, rfl⟩, _, _, bxz⟩)
          · have n3 : ((kids.length : Int) + 1 == 2) = false := by simpa using (show ¬ (kids.length : Int) + 1 = 2 by omega)
            rw [decide_eq_false hk2] at HFM
            cases beo with
            | false =>
              have HV : Hid (R = .err a1 3) := Lib.hid (by rw [HST4.out, if_pos (by rw [HFM.out]; simp)])
              clear HFM HST4 HGN0

              have hbad := rbad_any gx s a1 nn 0 0 3 W9 bx9
              go_wp2_with (first
                | (go_at_call 31; refine (hwd _).mono ?_; rintro rr Ww ⟨rfl, rfl⟩)
                | (go_at_call 19; refine hbad.mono ?_; clear hbad d0 d1 d2 d3 d4; rintro rr Wb ⟨rfl, hxb, hkb⟩; have gtb := gt9.next hkb hgW; obtain ⟨d0, d1, d2, d3, d4, _⟩ := blk_outs gtb.bD; obtain ⟨q0, q1, q2, q3, q4, eA⟩ := blk_outs gtb.bA; have eA0 := eA 0; have eA1 := eA 1; have eA2 := eA 2; have eA3 := eA 3; have eA4 := eA 4))

              obtain ⟨Wz, hWz, c1, k9⟩ := ret_rich gtb.bA (.string (bs op)) (.string ⟨#[]⟩) (.int .i64 0) (.string ⟨#[]⟩) (.slice A7 (kids.length + 1) c7)
              rw [← hWz]
              have hk9 : Kept (fun k => k = gx) W Wz := gtb.kept.cutR k9 fun i e => .inr (by rw [e]; exact gtb.hA)
              have k0 := c1.cell 0
              have k1 := c1.cell 1
              have k2 := c1.cell 2
              have k3 := c1.cell 3
              have k4 := c1.cell 4
              simp at k0 k1 k2 k3 k4
              refine bodyPost_ret (v := .agg #[.string (bs op), .string ⟨#[]⟩, .int .i64 0, .string ⟨#[]⟩, .slice A7 (kids.length + 1) c7]) (by simp [results, Tryd.results17, go_sem, k0, k1, k2, k3, k4]) rfl ?_

              have bxz := k9.blk hxb fun e => by have := gtb.hA; omega
              rw [HV.out]
              exact And.intro hk9 (And.intro (by decide) ⟨⟨.mk op [] 0 [] [], A7, kids.length + 1, c7, rfl⟩, _, _, bxz⟩)
            | true =>
            cases bea with
            | true =>
              have hfo : foR op (kids.length + 1) t1 = true := by rw [HFM.out]; simp
              have HV : Hid (R = groupP j op (kids ++ [kid]) r1 nn (ar + 1)) := Lib.hid (by rw [HST4.out, if_neg (by rw [hfo]; simp)])
              have HNE := Lib.hid (HGN0.out hfo).2
              have HGN := Lib.hid (HGN0.out hfo).1
              clear hfo HFM HST4 HGN0

              have ht1n := HTN1.out HNE.out
              have z1 := bx9.cell 1
              have f1 := bx9.frozen 1
              simp at z1

              go_upto_region 28 with fail
              have gta := gt9
              have bxa := bx9
              clear gt9 bx9 d0 d1 d2 d3 d4

              have w1 : IntKind.i64.wrap ((a1 : Int) + (t1.length : Int)) = (a1 : Int) + (t1.length : Int) := i64_in _ (by omega) (by omega)
              go_wp2_with fail
              have kx : Kept (fun k => k = gx) W9 (W9.setCell ⟨gx, 1, none⟩ (.int .i64 ((a1 : Int) + (t1.length : Int)))) := (Kept.refl (fun k => k = gx) W9).setCell (p := ⟨gx, 1, none⟩) _ fun _ => rfl
              have bxb : Blk (W9.setCell ⟨gx, 1, none⟩ (.int .i64 ((a1 : Int) + (t1.length : Int)))) gx 52 #[.string (bs s), .int .i64 ((a1 : Int) + (t1.length : Int) : Int), .string ⟨#[]⟩, .int .i64 0, .int .i64 0, .int .i64 (nn : Int)] := by
                have := bxa.set (u := .int .i64 ((a1 : Int) + (t1.length : Int))) 1
                simpa using this
              have gtz := gta.next kx hgW
              have HGI2 : GI op (kids.length + 1) := HGN.out
              go_roundg j
              case measure => omega
              case rel => exact ⟨j - 1, op, kids ++ [kid], r1, nn, A7, c7, by omega, by omega, by simp only [List.length_cons] at hlen5; omega, by simp only [List.length_cons] at hlen5; simp; omega, hwf5.next HNE.out, hn5, by rw [show (kids ++ [kid]).length = kids.length + 1 by simp]; exact gtz, ⟨a1 + t1.length, ht1l, ht1n, bxb⟩, by rw [show (kids ++ [kid]).length = kids.length + 1 by simp]; exact HGI2, Lib.hid (by rw [show j - 1 + 1 = j by omega]; exact HV.out)⟩
            | false =>
            cases ber with
            | true =>
              have hfo : foR op (kids.length + 1) t1 = true := by rw [HFM.out]; simp
              have HV : Hid (R = groupP j op (kids ++ [kid]) r1 nn (ar + 1)) := Lib.hid (by rw [HST4.out, if_neg (by rw [hfo]; simp)])
              have HNE := Lib.hid (HGN0.out hfo).2
              have HGN := Lib.hid (HGN0.out hfo).1
              clear hfo HFM HST4 HGN0

              have ht1n := HTN1.out HNE.out
              have z1 := bx9.cell 1
              have f1 := bx9.frozen 1
              simp at z1

              go_upto_region 28 with fail
              have gta := gt9
              have bxa := bx9
              clear gt9 bx9 d0 d1 d2 d3 d4

              have w1 : IntKind.i64.wrap ((a1 : Int) + (t1.length : Int)) = (a1 : Int) + (t1.length : Int) := i64_in _ (by omega) (by omega)
              go_wp2_with fail
              have kx : Kept (fun k => k = gx) W9 (W9.setCell ⟨gx, 1, none⟩ (.int .i64 ((a1 : Int) + (t1.length : Int)))) := (Kept.refl (fun k => k = gx) W9).setCell (p := ⟨gx, 1, none⟩) _ fun _ => rfl
              have bxb : Blk (W9.setCell ⟨gx, 1, none⟩ (.int .i64 ((a1 : Int) + (t1.length : Int)))) gx 52 #[.string (bs s), .int .i64 ((a1 : Int) + (t1.length : Int) : Int), .string ⟨#[]⟩, .int .i64 0, .int .i64 0, .int .i64 (nn : Int)] := by
                have := bxa.set (u := .int .i64 ((a1 : Int) + (t1.length : Int))) 1
                simpa using this
              have gtz := gta.next kx hgW
              have HGI2 : GI op (kids.length + 1) := HGN.out
              go_roundg j
              case measure => omega
              case rel => exact ⟨j - 1, op, kids ++ [kid], r1, nn, A7, c7, by omega, by omega, by simp only [List.length_cons] at hlen5; omega, by simp only [List.length_cons] at hlen5; simp; omega, hwf5.next HNE.out, hn5, by rw [show (kids ++ [kid]).length = kids.length + 1 by simp]; exact gtz, ⟨a1 + t1.length, ht1l, ht1n, bxb⟩, by rw [show (kids ++ [kid]).length = kids.length + 1 by simp]; exact HGI2, Lib.hid (by rw [show j - 1 + 1 = j by omega]; exact HV.out)⟩
            | false =>
              have HV : Hid (R = .err a1 3) := Lib.hid (by rw [HST4.out, if_pos (by rw [HFM.out]; simp)])
              clear HFM HST4 HGN0

              have hbad := rbad_any gx s a1 nn 0 0 3 W9 bx9
              go_wp2_with (first
                | (go_at_call 31; refine (hwd _).mono ?_; rintro rr Ww ⟨rfl, rfl⟩)
                | (go_at_call 19; refine hbad.mono ?_; clear hbad d0 d1 d2 d3 d4; rintro rr Wb ⟨rfl, hxb, hkb⟩; have gtb := gt9.next hkb hgW; obtain ⟨d0, d1, d2, d3, d4, _⟩ := blk_outs gtb.bD; obtain ⟨q0, q1, q2, q3, q4, eA⟩ := blk_outs gtb.bA; have eA0 := eA 0; have eA1 := eA 1; have eA2 := eA 2; have eA3 := eA 3; have eA4 := eA 4))

              obtain ⟨Wz, hWz, c1, k9⟩ := ret_rich gtb.bA (.string (bs op)) (.string ⟨#[]⟩) (.int .i64 0) (.string ⟨#[]⟩) (.slice A7 (kids.length + 1) c7)
              rw [← hWz]
              have hk9 : Kept (fun k => k = gx) W Wz := gtb.kept.cutR k9 fun i e => .inr (by rw [e]; exact gtb.hA)
              have k0 := c1.cell 0
              have k1 := c1.cell 1
              have k2 := c1.cell 2
              have k3 := c1.cell 3
              have k4 := c1.cell 4
              simp at k0 k1 k2 k3 k4
              refine bodyPost_ret (v := .agg #[.string (bs op), .string ⟨#[]⟩, .int .i64 0, .string ⟨#[]⟩, .slice A7 (kids.length + 1) c7]) (by simp [results, Tryd.results17, go_sem, k0, k1, k2, k3, k4]) rfl ?_

              have bxz := k9.blk hxb fun e => by have := gtb.hA; omega
              rw [HV.out]
              exact And.intro hk9 (And.intro (by decide) ⟨⟨.mk op [] 0 [] [], A7, kids.length + 1, c7, rfl⟩, _, _, bxz⟩)
end Go.Proofs.YtjdcegogkafmoaaDoor


/- The document's way through a text of paragraphs, plain; and its state in memory. -/
import Derived.Test.YthcgomainhaemaaDoorPaL
import Derived.Test.YthcgomainhaemaaDoorPaY
namespace Go.Proofs.YthcgomainhaemaaDoor
open Go.RowKit
def foldP : List (List UInt8) → Int → PSt → List (List Fd) × Int × Int
  | [], _, s => (endP s, 0, 0)
  | l :: t, a, s => if (lineP s l).2 = 0 then foldP t (a + l.length + 1) (lineP s l).1 else ([], a, (lineP s l).2)
def plines (s : List UInt8) : List (List UInt8) := if s = [] ∨ s.getLast? = some 10 then (splitB 10 s).dropLast else splitB 10 s
theorem splitB_ne (s : List UInt8) : splitB 10 s ≠ [] := splitP_ne s []
theorem dropLast_cons {α : Type} (x : α) (l : List α) (h : l ≠ []) : (x :: l).dropLast = x :: l.dropLast := by
  cases l with
  | nil => exact absurd rfl h
  | cons y t => rfl
theorem plines_more (a q : List UInt8) (r : List UInt8) (hr : r = a ++ 10 :: q) (hs : splitB 10 r = a :: splitB 10 q) : plines r = a :: plines q := by
  have hne : r ≠ [] := by rw [hr]; simp
  rw [plines, hs]
  by_cases hq : q = []
  · subst hq
    have : r.getLast? = some 10 := by rw [hr]; simp
    rw [if_pos (.inr this)]
    rfl
  · have hl : r.getLast? = q.getLast? := by
      rw [hr, show a ++ 10 :: q = (a ++ [10]) ++ q by simp, List.getLast?_append]
      cases h : q.getLast? with
      | none => exact absurd (List.getLast?_eq_none_iff.1 h) hq
      | some x => rfl
    rw [plines]
    by_cases h : q.getLast? = some 10
    · rw [if_pos (.inr (by rw [hl, h])), if_pos (.inr h), dropLast_cons _ _ (splitB_ne q)]
    · rw [if_neg (by rw [hl]; simp [hne, h]), if_neg (by simp [hq, h])]
theorem go_fold : ∀ (n : Nat) (r : List UInt8), r.length ≤ n → ∀ (a : Int) (s : PSt), goP r a s = foldP (plines r) a s := by
  intro n
  induction n with
  | zero =>
    intro r h a s
    have : r = [] := List.eq_nil_of_length_eq_zero (by omega)
    subst this
    rw [goP_nil]; rfl
  | succ n ih =>
    intro r h a s
    by_cases hr : r = []
    · subst hr; rw [goP_nil]; rfl
    · obtain ⟨h1, h2, _⟩ := cut_parts r
      rw [cut10] at h1 h2
      by_cases hb : inB r 10 = true
      · rw [if_pos hb] at h2
        have hs := splitB_cut 10 r
        rw [if_pos hb, cut10] at hs
        have hl := (cutB_len r 10).2 hb
        have hd : r.drop ((lineOf r).length + 1) = cutB r 10 := by
          conv => lhs; rw [h2]
          rw [show lineOf r ++ 10 :: cutB r 10 = (lineOf r ++ [10]) ++ cutB r 10 by simp]
          have e : (lineOf (lineOf r ++ [10] ++ cutB r 10)).length + 1 = (lineOf r ++ [10]).length := by
            rw [show lineOf r ++ [10] ++ cutB r 10 = r by conv => rhs; rw [h2]
                                                          simp]
            simp
          rw [e, List.drop_left]
        rw [plines_more (lineOf r) (cutB r 10) r h2 hs, foldP]
        by_cases h0 : (lineP s (lineOf r)).2 = 0
        · rw [goP_next r a s hr h0, if_pos h0, hd, ih _ (by omega)]
        · rw [goP_bad r a s hr h0, if_neg h0]
      · rw [if_neg hb, List.append_nil] at h2
        have hs := splitB_cut 10 r
        rw [if_neg hb] at hs
        have hl : r.getLast? ≠ some 10 := fun e => by
          have := List.mem_of_getLast? e
          rw [h2] at this
          exact h1 10 this rfl
        rw [plines, if_neg (by simp [hr, hl]), hs, foldP]
        have hn := goP_next r a s hr
        have hbd := goP_bad r a s hr
        rw [← h2] at hn hbd
        by_cases h0 : (lineP s r).2 = 0
        · rw [hn h0, if_pos h0, List.drop_eq_nil_of_le (by omega), goP_nil]; rfl
        · rw [hbd h0, if_neg h0]
theorem parse_fold (s : List UInt8) : parseP s = foldP (plines s) 0 ⟨[], []⟩ := go_fold s.length s (Nat.le_refl _) 0 _
/-- The blocks that the document's Parse still writes. -/
def MO (ov pv : Value) : Nat → Prop := fun k => ov.ownBlock = some k ∨ pv.ownBlock = some k
structure TP (B : Nat) (ov pv : Value) (s : PSt) (w : World) : Prop where
  out : ∃ vs : List Value, vs.length = s.all.length ∧ OwnL 1 Rval tP B nowhere w ov vs ∧ ∀ i (h : i < s.all.length) (h' : i < vs.length), Sl 2 Rfield (MO ov pv) w vs[i] s.all[i]
  cur : OwnL 2 Rfield tF B nowhere w pv s.cur
section
variable {B : Nat} {ov pv : Value} {s : PSt} {w w' w1 : World}
theorem TP.new (B : Nat) (w : World) : TP B (.slice none 0 0) (.slice none 0 0) ⟨[], []⟩ w :=
  ⟨⟨[], rfl, OwnL.nil _ _ _ _ _ _, fun i h => by simp at h⟩, OwnL.nil _ _ _ _ _ _⟩
theorem TP.below (h : TP B ov pv s w) (k : Below w.heap.size w w') : TP B ov pv s w' := by
  obtain ⟨⟨vs, h1, h2, h3⟩, hc⟩ := h
  have kk := Kept.of_below k
  exact ⟨⟨vs, h1, h2.kept free_val (kk nowhere) (fun _ _ h => h), fun i hi hi' => (h3 i hi hi').keep good_field (kk _)⟩, hc.kept free_field (kk nowhere) (fun _ _ h => h)⟩
theorem TP.value {nm x y : List UInt8} {ps : List (List Fd)} {ci : List Fd} (h : TP B ov pv ⟨ps, ci ++ [(nm, x)]⟩ w) {g cap : Nat} (hcv : pv = .slice (some ⟨g, 0, none⟩) (ci.length + 1) cap) (hB : B ≤ w.heap.size) :
    TP B ov pv ⟨ps, ci ++ [(nm, y)]⟩ (w.setCell ⟨g, ci.length * 2 + 1, none⟩ (.string (bs y))) ∧ Below B w (w.setCell ⟨g, ci.length * 2 + 1, none⟩ (.string (bs y))) := by
  obtain ⟨⟨vs, h1, h2, h3⟩, hc⟩ := h
  have hown : pv.ownBlock = some g := by rw [hcv]; rfl
  have k2 : Kept (fun k => pv.ownBlock = some k) w (w.setCell ⟨g, ci.length * 2 + 1, none⟩ (.string (bs y))) := (Kept.refl _ w).setCell _ fun _ => hown
  refine ⟨⟨⟨vs, h1, h2.kept free_val k2 fun k e => h2.apart hc nePF e, fun i hi hi' => (h3 i hi hi').keep good_field (k2.mono fun k _ e => .inr e)⟩, ?_⟩, k2.below hB fun k _ e => (hc.typed e).1⟩
  have ho := own_field hc
  rw [hcv] at ho ⊢
  have hlen : (ci ++ [(nm, x)]).length = ci.length + 1 := by simp
  have hlen2 : (ci ++ [(nm, y)]).length = ci.length + 1 := by simp
  simp only at ho
  rw [hlen] at ho
  have h5 := own_set ho (ci.length * 2 + 1) (.string (bs y))
  refine field_own ?_
  simp only
  rw [hlen2]
  have hfl := fcells_len ci
  have : (fcells (ci ++ [(nm, x)])).set (ci.length * 2 + 1) (.string (bs y)) = fcells (ci ++ [(nm, y)]) := by
    have e1 : ∀ z, fcells (ci ++ [(nm, z)]) = fcells ci ++ [.string (bs nm), .string (bs z)] := fun z => by simp [fcells]
    rw [e1, e1, List.set_append_right _ _ (by omega), hfl, show ci.length * 2 + 1 - ci.length * 2 = 1 by omega]
    rfl
  rw [← this]
  exact h5
/-- The paragraph's row is another one. -/
theorem TP.push (h : TP B ov pv s w) {pv' : Value} {cm' : List Fd} (hk : Kept (fun k => pv.ownBlock = some k) w w1) (hc : OwnL 2 Rfield tF B (old' w pv) w1 pv' cm') (hB : B ≤ w.heap.size) :
    TP B ov pv' ⟨s.all, cm'⟩ w1 ∧ Below B w w1 := by
  obtain ⟨⟨vs, h1, h2, h3⟩, hcur⟩ := h
  refine ⟨⟨⟨vs, h1, h2.kept free_val hk fun k e => h2.apart hcur nePF e, fun i hi hi' => ?_⟩, hc.no free_field⟩, hk.below hB fun k _ e => (hcur.typed e).1⟩
  have hsub : ∀ k, k < w.heap.size → MO ov pv' k → MO ov pv k := fun k hk hm => by
    rcases hm with e | e
    · exact .inl e
    · by_cases hv : pv.ownBlock = some k
      · exact .inr hv
      · obtain ⟨_, _, _, hX, _⟩ := hc
        exact absurd ⟨hk, hv⟩ (hX k e)
  refine ((h3 i hi hi').mono good_field (by decide) (Y := fun k => MO ov pv k ∨ MO ov pv' k) fun k hk2 hm => hm.elim id (hsub k hk2)).keep good_field ?_ |>.mono good_field (by decide) fun k _ hm => .inr hm
  exact hk.mono fun k _ e => .inl (.inr e)
/-- The paragraph is done. -/
theorem TP.done (h : TP B ov pv s w) {vs : List Value} (h1 : vs.length = s.all.length) (h2 : OwnL 1 Rval tP B nowhere w ov vs) (h3 : ∀ i (h : i < s.all.length) (h' : i < vs.length), Sl 2 Rfield (MO ov pv) w vs[i] s.all[i])
    {ov' : Value} (hk : Kept (fun k => ov.ownBlock = some k) w w1) (ho : OwnL 1 Rval tP B (old' w ov) w1 ov' (vs ++ [pv])) (hB : B ≤ w.heap.size) :
    TP B ov' (.slice none 0 0) ⟨s.all ++ [s.cur], []⟩ w1 ∧ Below B w w1 := by
  have hcur := h.cur
  refine ⟨⟨⟨vs ++ [pv], by simp [h1], ho.no free_val, fun i hi hi' => ?_⟩, OwnL.nil _ _ _ _ _ _⟩, hk.below hB fun k _ e => (h2.typed e).1⟩
  have hsub : ∀ k, k < w.heap.size → MO ov' (.slice none 0 0) k → MO ov pv k := fun k hk hm => by
    rcases hm with e | e
    · by_cases hv : ov.ownBlock = some k
      · exact .inl hv
      · obtain ⟨_, _, _, hX, _⟩ := ho
        exact absurd ⟨hk, hv⟩ (hX k e)
    · simp [Value.ownBlock] at e
  by_cases hil : i < s.all.length
  · have e1 : (vs ++ [pv])[i] = vs[i]'(by omega) := List.getElem_append_left (by omega)
    have e2 : (s.all ++ [s.cur])[i] = s.all[i] := List.getElem_append_left hil
    rw [e1]
    show Sl 2 Rfield _ w1 _ ((s.all ++ [s.cur])[i])
    rw [e2]
    refine ((h3 i hil (by omega)).mono good_field (by decide) (Y := fun k => MO ov pv k ∨ MO ov' (.slice none 0 0) k) fun k hk2 hm => hm.elim id (hsub k hk2)).keep good_field ?_ |>.mono good_field (by decide) fun k _ hm => .inr hm
    exact hk.mono fun k _ e => .inl (.inl e)
  · have hie : i = s.all.length := by simp at hi; omega
    subst hie
    have e1 : (vs ++ [pv])[s.all.length] = pv := by simp [← h1]
    have e2 : (s.all ++ [s.cur])[s.all.length] = s.cur := by simp
    rw [e1]
    show Sl 2 Rfield _ w1 _ ((s.all ++ [s.cur])[s.all.length])
    rw [e2]
    have hcur1 : OwnL 2 Rfield tF B nowhere w1 pv s.cur := hcur.kept free_field hk fun k e e2 => h2.apart hcur nePF e2 e
    refine (hcur1.to free_field fun k e hm => ?_).sl good_field
    rcases hm with e2 | e2
    · exact ho.apart hcur1 nePF e2 e
    · simp [Value.ownBlock] at e2
theorem TP.sl (h : TP B ov pv s w) : Sl 1 Rpara nowhere w ov s.all := by
  obtain ⟨⟨vs, h1, h2, h3⟩, _⟩ := h
  exact slices_own h1 h2 h3 fun k _ e => .inl e
end
/-- The name, as the document takes it. -/
theorem bare_name (l : List UInt8) (h : l.head? ≠ some 32) : bareL (preC58 l) = trimR (preC58 l) := by
  rw [bareL, trimL_head]
  cases l with
  | nil => simp [preC58]
  | cons c t =>
    by_cases hc : c = 58
    · simp [preC58, hc]
    · simpa [preC58, hc] using h
theorem pre_step (l : List UInt8) (k : Nat) (h : k < l.length) : preC58 (l.drop k) = if l[k] = 58 then [] else l[k] :: preC58 (l.drop (k + 1)) := by
  rw [List.drop_eq_getElem_cons h, preC58, List.takeWhile_cons]
  by_cases hc : l[k] = 58
  · simp [hc]
  · simp [hc, preC58]
theorem fnd_has (p : List Fd) (n : List UInt8) : decide ((0 : Int) ≤ fnd n p 0) = hasName p n := by
  have : ∀ (p : List Fd) (k : Nat), decide ((0 : Int) ≤ fnd n p k) = hasName p n := by
    intro p
    induction p with
    | nil => intro k; simp [fnd, hasName]
    | cons f t ih =>
      intro k
      rw [fnd, hasName, List.any_cons]
      by_cases h : f.1 = n
      · rw [if_pos h, decide_eq_true h]; simp
      · rw [if_neg h, decide_eq_false h, Bool.false_or]; exact ih (k + 1)
  exact this p 0
end Go.Proofs.YthcgomainhaemaaDoor

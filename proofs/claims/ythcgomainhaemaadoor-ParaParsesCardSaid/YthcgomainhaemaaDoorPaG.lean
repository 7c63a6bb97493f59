/- The reader of paragraphs: its states, and what each step does to them. -/
import Derived.Test.YthcgomainhaemaaDoorPaF
namespace Go.Proofs.YthcgomainhaemaaDoor
open Go.RowKit
/-- The blocks that the reader still writes. -/
def MB (rb mb : Nat) (av cv lv : Value) : Nat → Prop := fun k => k = rb ∨ k = mb ∨ av.ownBlock = some k ∨ cv.ownBlock = some k ∨ lv.ownBlock = some k
/-- A paragraph has begun: ps are done, cm is what stands of it. -/
structure RA (B rb mb : Nat) (av cv lv : Value) (ps : List (List Fd)) (cm : List Fd) (ls : List (List UInt8)) (n : Nat) (m : List UInt8 → Option Int) (w : World) : Prop where
  hb : B ≤ rb
  hm : B ≤ mb
  blk : Blk w rb tR #[av, .map (some mb), lv]
  out : ∃ vs : List Value, vs.length = ps.length ∧ OwnL 1 Rval tP B nowhere w av (vs ++ [cv]) ∧ ∀ i (h : i < ps.length) (h' : i < vs.length), Sl 2 Rfield (MB rb mb av cv lv) w vs[i] ps[i]
  cur : OwnL 2 Rfield tF B nowhere w cv cm
  ln : OwnL 1 Rtext tS B nowhere w lv ls
  map : NMap w mb n m
def MI (rb : Nat) (av lv : Value) : Nat → Prop := fun k => k = rb ∨ av.ownBlock = some k ∨ lv.ownBlock = some k
/-- No paragraph has begun. -/
structure RI (B rb : Nat) (av lv : Value) (ps : List (List Fd)) (ls : List (List UInt8)) (w : World) : Prop where
  hb : B ≤ rb
  blk : Blk w rb tR #[av, .map none, lv]
  out : ∃ vs : List Value, vs.length = ps.length ∧ OwnL 1 Rval tP B nowhere w av vs ∧ ∀ i (h : i < ps.length) (h' : i < vs.length), Sl 2 Rfield (MI rb av lv) w vs[i] ps[i]
  ln : OwnL 1 Rtext tS B nowhere w lv ls
section
variable {B rb mb : Nat} {av cv lv : Value} {ps : List (List Fd)} {cm : List Fd} {ls : List (List UInt8)} {n : Nat} {m : List UInt8 → Option Int} {w w' w1 : World}
theorem neFS : tF ≠ tS := by decide
theorem nePS : tP ≠ tS := by decide
theorem nePF : tP ≠ tF := by decide
theorem neRP : tP ≠ tR := by decide
theorem neRF : tF ≠ tR := by decide
theorem neRS : tS ≠ tR := by decide
theorem RA.below (h : RA B rb mb av cv lv ps cm ls n m w) (k : Below w.heap.size w w') : RA B rb mb av cv lv ps cm ls n m w' := by
  obtain ⟨vs, h1, h2, h3⟩ := h.out
  have kk := Kept.of_below k
  exact ⟨h.hb, h.hm, h.blk.below k h.blk.lt, ⟨vs, h1, h2.kept free_val (kk nowhere) (fun _ _ h => h), fun i hi hi' => (h3 i hi hi').keep good_field (kk _)⟩, h.cur.kept free_field (kk nowhere) (fun _ _ h => h), h.ln.kept free_text (kk nowhere) (fun _ _ h => h), h.map.below k⟩
theorem RI.below (h : RI B rb av lv ps ls w) (k : Below w.heap.size w w') : RI B rb av lv ps ls w' := by
  obtain ⟨vs, h1, h2, h3⟩ := h.out
  have kk := Kept.of_below k
  exact ⟨h.hb, h.blk.below k h.blk.lt, ⟨vs, h1, h2.kept free_val (kk nowhere) (fun _ _ h => h), fun i hi hi' => (h3 i hi hi').keep good_field (kk _)⟩, h.ln.kept free_text (kk nowhere) (fun _ _ h => h)⟩
/-- Another row of lines. -/
theorem RA.lines (h : RA B rb mb av cv lv ps cm ls n m w) {lv' : Value} {ls' : List (List UInt8)} (hk : Kept (fun k => lv.ownBlock = some k) w w1) (hl : OwnL 1 Rtext tS B (old' w lv) w1 lv' ls') :
    RA B rb mb av cv lv' ps cm ls' n m (w1.setCell ⟨rb, 2, none⟩ lv') ∧ Below B w (w1.setCell ⟨rb, 2, none⟩ lv') := by
  obtain ⟨vs, h1, h2, h3⟩ := h.out
  have hbl : Blk w1 rb tR #[av, .map (some mb), lv] := (hk.block rb h.blk.lt fun e => h.ln.apartB h.blk neRS e).trans h.blk
  have hset : Blk (w1.setCell ⟨rb, 2, none⟩ lv') rb tR #[av, .map (some mb), lv'] := by simpa using hbl.set (u := lv') 2
  have k2 : Kept (fun k => k = rb) w1 (w1.setCell ⟨rb, 2, none⟩ lv') := (Kept.refl _ w1).setCell _ fun _ => rfl
  have hsub : ∀ k, k < w.heap.size → MB rb mb av cv lv' k → MB rb mb av cv lv k := fun k hk hm => by
    rcases hm with e | e | e | e | e
    · exact .inl e
    · exact .inr (.inl e)
    · exact .inr (.inr (.inl e))
    · exact .inr (.inr (.inr (.inl e)))
    · by_cases hv : lv.ownBlock = some k
      · exact .inr (.inr (.inr (.inr hv)))
      · obtain ⟨_, _, _, hX, _⟩ := hl
        exact absurd ⟨hk, hv⟩ (hX k e)
  have mapk : NMap w1 mb n m := h.map.keep hk fun e => h.ln.apartM h.map e
  refine ⟨⟨h.hb, h.hm, hset, ⟨vs, h1, ?_, fun i hi hi' => ?_⟩, ?_, ?_, ?_⟩, ?_⟩
  · refine (h2.kept free_val hk fun k e => h2.apart h.ln nePS e).kept free_val k2 fun k e => ?_
    rintro rfl
    exact h2.apartB h.blk neRP e
  · refine ((h3 i hi hi').mono good_field (by decide) (Y := fun k => MB rb mb av cv lv k ∨ MB rb mb av cv lv' k) fun k hk2 hm => hm.elim id (hsub k hk2)).keep good_field (w' := w1.setCell ⟨rb, 2, none⟩ lv') ?_ |>.mono good_field (by decide) fun k _ hm => .inr hm
    exact (hk.mono fun k _ e => .inl (.inr (.inr (.inr (.inr e))))).trans (k2.mono fun k _ e => .inl (.inl e))
  · refine (h.cur.kept free_field hk fun k e => h.cur.apart h.ln neFS e).kept free_field k2 fun k e => ?_
    rintro rfl
    exact h.cur.apartB h.blk neRF e
  · refine (hl.no free_text).kept free_text k2 fun k e => ?_
    rintro rfl
    exact hl.apartB hbl neRS e
  · exact mapk.keep k2 fun e => hbl.apartM mapk e.symm
  · refine (hk.below (Nat.le_trans h.hb (Nat.le_of_lt h.blk.lt)) fun k _ e => (h.ln.typed e).1).trans ?_
    exact k2.below (Nat.le_trans (Nat.le_trans h.hb (Nat.le_of_lt h.blk.lt)) hk.size) fun k _ e => by rw [e]; exact h.hb
theorem val_own {e : TypeId} {v : Value} {vs : List Value} {k : Nat} (hk : k = vs.length) (h : w.ownsRow B e 1 v k vs) (h1 : ∀ u ∈ vs, u.oneCell' = true) : OwnL 1 Rval e B nowhere w v vs := by
  subst hk
  refine ⟨vs.map fun u => [u], ?_, by simp, fun _ _ h => h, fun j h h' => by simp [Rval]; exact h1 _ (List.getElem_mem h)⟩
  have : (vs.map fun u => [u]).flatten = vs := by
    clear h h1
    induction vs with
    | nil => rfl
    | cons a r ih => simp [ih]
  rw [this]; exact h
theorem own_val {e : TypeId} {v : Value} {X : Nat → Prop} {vs : List Value} (h : OwnL 1 Rval e B X w v vs) : w.ownsRow B e 1 v vs.length vs ∧ ∀ u ∈ vs, u.oneCell' = true := by
  obtain ⟨css, ho, hl, _, hR⟩ := h
  refine ⟨?_, fun u hu => ?_⟩
  · have : css.flatten = vs := by
      clear ho
      induction vs generalizing css with
      | nil => rw [List.eq_nil_of_length_eq_zero hl]; rfl
      | cons f p ih =>
        cases css with
        | nil => simp at hl
        | cons c css =>
          have h0 := (hR 0 (by simp) (by simp)).1
          simp at h0
          rw [List.flatten_cons, ih css (by simpa using hl) (fun j h h' => hR (j + 1) (Nat.succ_lt_succ h) (Nat.succ_lt_succ h')), h0]
          rfl
    rwa [this] at ho
  · obtain ⟨j, hj, rfl⟩ := List.getElem_of_mem hu
    exact (hR j hj (by omega)).2
theorem own_slice {α : Type} {sz : Nat} {R : Rel α} {e : TypeId} {X : Nat → Prop} {v : Value} {l : List α} (h : OwnL sz R e B X w v l) (hn : l ≠ []) : ∃ g cap, v = .slice (some ⟨g, 0, none⟩) l.length cap ∧ v.ownBlock = some g := by
  obtain ⟨css, ho, _⟩ := h
  rcases ho.2 with ⟨_, h0⟩ | ⟨g, cap, cur, rfl, _⟩
  · exact absurd (List.eq_nil_of_length_eq_zero h0) hn
  · exact ⟨g, cap, rfl, rfl⟩
theorem fcells_len (ci : List Fd) : (fcells ci).length = ci.length * 2 := by
  induction ci with
  | nil => rfl
  | cons a r ih =>
    have : fcells (a :: r) = [.string (bs a.1), .string (bs a.2)] ++ fcells r := by simp [fcells]
    rw [this, List.length_append, ih]
    simp
    omega
/-- The value of the field that was last. -/
theorem RA.value {nm x y : List UInt8} {ci : List Fd} (h : RA B rb mb av cv lv ps (ci ++ [(nm, x)]) ls n m w) {g cap : Nat} (hcv : cv = .slice (some ⟨g, 0, none⟩) (ci.length + 1) cap) :
    RA B rb mb av cv lv ps (ci ++ [(nm, y)]) ls n m (w.setCell ⟨g, ci.length * 2 + 1, none⟩ (.string (bs y))) ∧ Below B w (w.setCell ⟨g, ci.length * 2 + 1, none⟩ (.string (bs y))) := by
  obtain ⟨vs, h1, h2, h3⟩ := h.out
  have hown : cv.ownBlock = some g := by rw [hcv]; rfl
  have k2 : Kept (fun k => cv.ownBlock = some k) w (w.setCell ⟨g, ci.length * 2 + 1, none⟩ (.string (bs y))) := (Kept.refl _ w).setCell _ fun _ => hown
  have hle := Nat.le_trans h.hb (Nat.le_of_lt h.blk.lt)
  refine ⟨⟨h.hb, h.hm, (k2.blk h.blk fun e => h.cur.apartB h.blk neRF e), ⟨vs, h1, ?_, fun i hi hi' => (h3 i hi hi').keep good_field (k2.mono fun k _ e => .inr (.inr (.inr (.inl e))))⟩, ?_, ?_, ?_⟩, ?_⟩
  · exact h2.kept free_val k2 fun k e => h2.apart h.cur nePF e
  · have ho := own_field h.cur
    rw [hcv] at ho ⊢
    have hlen : (ci ++ [(nm, x)]).length = ci.length + 1 := by simp
    have hlen2 : (ci ++ [(nm, y)]).length = ci.length + 1 := by simp
    rw [hlen] at ho
    have h5 := own_set ho (ci.length * 2 + 1) (.string (bs y))
    refine field_own ?_
    rw [hlen2]
    have hfl := fcells_len ci
    have : (fcells (ci ++ [(nm, x)])).set (ci.length * 2 + 1) (.string (bs y)) = fcells (ci ++ [(nm, y)]) := by
      have e1 : ∀ z, fcells (ci ++ [(nm, z)]) = fcells ci ++ [.string (bs nm), .string (bs z)] := fun z => by simp [fcells]
      rw [e1, e1, List.set_append_right _ _ (by omega), hfl, show ci.length * 2 + 1 - ci.length * 2 = 1 by omega]
      rfl
    rw [← this]
    exact h5
  · exact h.ln.kept free_text k2 fun k e e2 => h.cur.apart h.ln neFS e2 e
  · exact h.map.keep k2 fun e => h.cur.apartM h.map e
  · exact k2.below hle fun k _ e => (h.cur.typed e).1
/-- The paragraph's row is another one. -/
theorem RA.curs (h : RA B rb mb av cv lv ps cm ls n m w) {cv' : Value} {cm' : List Fd} (hk : Kept (fun k => cv.ownBlock = some k) w w1) (hc : OwnL 2 Rfield tF B (old' w cv) w1 cv' cm') {g k cap : Nat} (hav : av = .slice (some ⟨g, 0, none⟩) k cap) :
    RA B rb mb av cv' lv ps cm' ls n m (w1.setCell ⟨g, ps.length, none⟩ cv') ∧ Below B w (w1.setCell ⟨g, ps.length, none⟩ cv') := by
  obtain ⟨vs, h1, h2, h3⟩ := h.out
  have hown : av.ownBlock = some g := by rw [hav]; rfl
  have hle := Nat.le_trans h.hb (Nat.le_of_lt h.blk.lt)
  have hav1 : OwnL 1 Rval tP B nowhere w1 av (vs ++ [cv]) := h2.kept free_val hk fun k e => h2.apart h.cur nePF e
  have hbl : Blk w1 rb tR #[av, .map (some mb), lv] := hk.blk h.blk fun e => h.cur.apartB h.blk neRF e
  have mapk : NMap w1 mb n m := h.map.keep hk fun e => h.cur.apartM h.map e
  have lnk : OwnL 1 Rtext tS B nowhere w1 lv ls := h.ln.kept free_text hk fun k e e2 => h.cur.apart h.ln neFS e2 e
  have k2 : Kept (fun k => av.ownBlock = some k) w1 (w1.setCell ⟨g, ps.length, none⟩ cv') := (Kept.refl _ w1).setCell _ fun _ => hown
  obtain ⟨ca, cb, hcv⟩ := hc.form
  have hsub : ∀ k, k < w.heap.size → MB rb mb av cv' lv k → MB rb mb av cv lv k := fun k hk hm => by
    rcases hm with e | e | e | e | e
    · exact .inl e
    · exact .inr (.inl e)
    · exact .inr (.inr (.inl e))
    · by_cases hv : cv.ownBlock = some k
      · exact .inr (.inr (.inr (.inl hv)))
      · obtain ⟨_, _, _, hX, _⟩ := hc
        exact absurd ⟨hk, hv⟩ (hX k e)
    · exact .inr (.inr (.inr (.inr e)))
  refine ⟨⟨h.hb, h.hm, k2.blk hbl fun e => hav1.apartB hbl neRP e, ⟨vs, h1, ?_, fun i hi hi' => ?_⟩, ?_, ?_, ?_⟩, ?_⟩
  · obtain ⟨ho, hone⟩ := own_val hav1
    rw [hav] at ho ⊢
    have hkl : k = (vs ++ [cv]).length := by
      have := own_form ho
      obtain ⟨_, _, e⟩ := this
      injection e
    have hkl2 : (vs ++ [cv]).length = vs.length + 1 := by simp
    rw [← hkl] at ho
    have h5 := own_set ho ps.length cv'
    have : (vs ++ [cv]).set ps.length cv' = vs ++ [cv'] := by
      rw [← h1, List.set_append_right _ _ (Nat.le_refl _), Nat.sub_self]; rfl
    rw [this] at h5
    refine val_own (by simp; omega) h5 fun u hu => ?_
    rcases List.mem_append.1 hu with hu | hu
    · exact hone u (List.mem_append_left _ hu)
    · simp at hu; rw [hu, hcv]; rfl
  · refine ((h3 i hi hi').mono good_field (by decide) (Y := fun k => MB rb mb av cv lv k ∨ MB rb mb av cv' lv k) fun k hk2 hm => hm.elim id (hsub k hk2)).keep good_field (w' := w1.setCell ⟨g, ps.length, none⟩ cv') ?_ |>.mono good_field (by decide) fun k _ hm => .inr hm
    exact (hk.mono fun k _ e => .inl (.inr (.inr (.inr (.inl e))))).trans (k2.mono fun k _ e => .inl (.inr (.inr (.inl e))))
  · exact (hc.no free_field).kept free_field k2 fun k e e2 => hav1.apart hc nePF e2 e
  · exact lnk.kept free_text k2 fun k e e2 => hav1.apart lnk nePS e2 e
  · exact mapk.keep k2 fun e => hav1.apartM mapk e
  · refine (hk.below hle fun k _ e => (h.cur.typed e).1).trans ?_
    exact k2.below (Nat.le_trans hle hk.size) fun k _ e => (hav1.typed e).1
/-- Another map. -/
theorem RA.maps (h : RA B rb mb av cv lv ps cm ls n m w) {n' : Nat} {m' : List UInt8 → Option Int} (hk : Kept (fun k => k = mb) w w1) (hm : NMap w1 mb n' m') :
    RA B rb mb av cv lv ps cm ls n' m' w1 ∧ Below B w w1 := by
  obtain ⟨vs, h1, h2, h3⟩ := h.out
  have hle := Nat.le_trans h.hb (Nat.le_of_lt h.blk.lt)
  refine ⟨⟨h.hb, h.hm, hk.blk h.blk fun e => h.blk.apartM h.map e, ⟨vs, h1, h2.kept free_val hk fun k e => ?_, fun i hi hi' => (h3 i hi hi').keep good_field (hk.mono fun k _ e => .inr (.inl e))⟩, h.cur.kept free_field hk fun k e => ?_, h.ln.kept free_text hk fun k e => ?_, hm⟩, ?_⟩
  · rintro rfl; exact h2.apartM h.map e
  · rintro rfl; exact h.cur.apartM h.map e
  · rintro rfl; exact h.ln.apartM h.map e
  · exact hk.below hle fun k _ e => by rw [e]; exact h.hm
end
end Go.Proofs.YthcgomainhaemaaDoor

/- The reader of paragraphs: a paragraph ends, another begins; what has been read, read. -/
import Derived.Test.YthcgomainhaemaaDoorPaG
namespace Go.Proofs.YthcgomainhaemaaDoor
open Go.RowKit
/-- A map has been made, no paragraph has begun. -/
structure RM (B rb mb : Nat) (av lv : Value) (ps : List (List Fd)) (ls : List (List UInt8)) (w : World) : Prop where
  hb : B ≤ rb
  hm : B ≤ mb
  blk : Blk w rb tR #[av, .map (some mb), lv]
  out : ∃ vs : List Value, vs.length = ps.length ∧ OwnL 1 Rval tP B nowhere w av vs ∧ ∀ i (h : i < ps.length) (h' : i < vs.length), Sl 2 Rfield (fun k => k = mb ∨ MI rb av lv k) w vs[i] ps[i]
  ln : OwnL 1 Rtext tS B nowhere w lv ls
  map : NMap w mb 0 (fun _ => none)
section
variable {B rb mb : Nat} {av cv lv : Value} {ps : List (List Fd)} {cm : List Fd} {ls : List (List UInt8)} {n : Nat} {m : List UInt8 → Option Int} {w w' w1 : World}
theorem RA.drop (h : RA B rb mb av cv lv ps cm ls n m w) : RI B rb av lv (ps ++ [cm]) ls (w.setCell ⟨rb, 1, none⟩ (.map none)) ∧ Below B w (w.setCell ⟨rb, 1, none⟩ (.map none)) := by
  obtain ⟨vs, h1, h2, h3⟩ := h.out
  have hle := Nat.le_trans h.hb (Nat.le_of_lt h.blk.lt)
  have k2 : Kept (fun k => k = rb) w (w.setCell ⟨rb, 1, none⟩ (.map none)) := (Kept.refl _ w).setCell _ fun _ => rfl
  refine ⟨⟨h.hb, by simpa using h.blk.set (u := .map none) 1, ⟨vs ++ [cv], by simp [h1], ?_, fun i hi hi' => ?_⟩, ?_⟩, ?_⟩
  · refine h2.kept free_val k2 fun k e => ?_
    rintro rfl
    exact h2.apartB h.blk neRP e
  · by_cases hlt : i < ps.length
    · rw [List.getElem_append_left (by omega), List.getElem_append_left hlt]
      refine ((h3 i hlt (by omega)).keep good_field (w' := w.setCell ⟨rb, 1, none⟩ (.map none)) (k2.mono fun k _ e => .inl e)).mono good_field (by decide) fun k _ hm => ?_
      rcases hm with e | e | e
      · exact .inl e
      · exact .inr (.inr (.inl e))
      · exact .inr (.inr (.inr (.inr e)))
    · have hi2 : i = ps.length := by rw [List.length_append] at hi; simp at hi; omega
      subst hi2
      rw [List.getElem_append_right (by omega), List.getElem_append_right (by omega)]
      simp only [h1, Nat.sub_self, List.getElem_cons_zero]
      have hsl := (h.cur.to free_field (Y := MI rb av lv) fun k e hm => by
        rcases hm with e2 | e2 | e2
        · subst e2; exact h.cur.apartB h.blk neRF e
        · exact h2.apart h.cur nePF e2 e
        · exact h.cur.apart h.ln neFS e e2).sl good_field
      exact hsl.keep good_field (k2.mono fun k _ e => .inl e)
  · refine h.ln.kept free_text k2 fun k e => ?_
    rintro rfl
    exact h.ln.apartB h.blk neRS e
  · exact k2.below hle fun k _ e => by rw [e]; exact h.hb
theorem RI.made (h : RI B rb av lv ps ls w) : RM B rb w.heap.size av lv ps ls ((w.alloc (.map #[] 0)).setCell ⟨rb, 1, none⟩ (.map (some w.heap.size))) ∧ Below B w ((w.alloc (.map #[] 0)).setCell ⟨rb, 1, none⟩ (.map (some w.heap.size))) := by
  obtain ⟨vs, h1, h2, h3⟩ := h.out
  have hlt := h.blk.lt
  have hle := Nat.le_trans h.hb (Nat.le_of_lt hlt)
  have k1 : Kept nowhere w (w.alloc (.map #[] 0)) := (Kept.refl _ w).alloc _
  have k2 : Kept (fun k => k = rb) (w.alloc (.map #[] 0)) ((w.alloc (.map #[] 0)).setCell ⟨rb, 1, none⟩ (.map (some w.heap.size))) := (Kept.refl _ _).setCell _ fun _ => rfl
  have k : Kept (fun k => k = rb) w ((w.alloc (.map #[] 0)).setCell ⟨rb, 1, none⟩ (.map (some w.heap.size))) := (k1.mono fun _ _ h => h.elim).trans k2
  refine ⟨⟨h.hb, by omega, by simpa using (h.blk.alloc (.map #[] 0)).set (u := .map (some w.heap.size)) 1, ⟨vs, h1, ?_, fun i hi hi' => ?_⟩, ?_, ?_⟩, ?_⟩
  · refine h2.kept free_val k fun k e => ?_
    rintro rfl
    exact h2.apartB h.blk neRP e
  · refine (((h3 i hi hi').mono good_field (by decide) (Y := fun k => k = w.heap.size ∨ MI rb av lv k) fun k hk hm => hm.elim (fun e => by omega) id)).keep good_field (k.mono fun k _ e => .inr (.inl e))
  · refine h.ln.kept free_text k fun k e => ?_
    rintro rfl
    exact h.ln.apartB h.blk neRS e
  · exact (NMap.made w).keep k2 fun e => by omega
  · exact k.below hle fun k _ e => by rw [e]; exact h.hb
theorem RM.below (h : RM B rb mb av lv ps ls w) (k : Below w.heap.size w w') : RM B rb mb av lv ps ls w' := by
  obtain ⟨vs, h1, h2, h3⟩ := h.out
  have kk := Kept.of_below k
  exact ⟨h.hb, h.hm, h.blk.below k h.blk.lt, ⟨vs, h1, h2.kept free_val (kk nowhere) (fun _ _ h => h), fun i hi hi' => (h3 i hi hi').keep good_field (kk _)⟩, h.ln.kept free_text (kk nowhere) (fun _ _ h => h), h.map.below k⟩
theorem RM.begin (h : RM B rb mb av lv ps ls w) {vs : List Value} (h1 : vs.length = ps.length) (h2 : OwnL 1 Rval tP B nowhere w av vs) (h3 : ∀ i (h : i < ps.length) (h' : i < vs.length), Sl 2 Rfield (fun k => k = mb ∨ MI rb av lv k) w vs[i] ps[i])
    {av' : Value} (hk : Kept (fun k => av.ownBlock = some k) w w1) (ho : OwnL 1 Rval tP B (old' w av) w1 av' (vs ++ [.slice none 0 0])) :
    RA B rb mb av' (.slice none 0 0) lv ps [] ls 0 (fun _ => none) (w1.setCell ⟨rb, 0, none⟩ av') ∧ Below B w (w1.setCell ⟨rb, 0, none⟩ av') := by
  have hle := Nat.le_trans h.hb (Nat.le_of_lt h.blk.lt)
  have hbl : Blk w1 rb tR #[av, .map (some mb), lv] := hk.blk h.blk fun e => h2.apartB h.blk neRP e
  have k2 : Kept (fun k => k = rb) w1 (w1.setCell ⟨rb, 0, none⟩ av') := (Kept.refl _ _).setCell _ fun _ => rfl
  have lnk : OwnL 1 Rtext tS B nowhere w1 lv ls := h.ln.kept free_text hk fun k e e2 => h2.apart h.ln nePS e2 e
  have mapk : NMap w1 mb 0 (fun _ => none) := h.map.keep hk fun e => h2.apartM h.map e
  refine ⟨⟨h.hb, h.hm, by simpa using hbl.set (u := av') 0, ⟨vs, h1, ?_, fun i hi hi' => ?_⟩, OwnL.nil _ _ _ _ _ _, ?_, ?_⟩, ?_⟩
  · refine (ho.no free_val).kept free_val k2 fun k e => ?_
    rintro rfl
    exact ho.apartB hbl neRP e
  · refine ((h3 i hi hi').mono good_field (by decide) (Y := fun k => (k = mb ∨ MI rb av lv k) ∨ MB rb mb av' (.slice none 0 0) lv k) fun k hk2 hm => hm.elim id fun hm => ?_).keep good_field (w' := w1.setCell ⟨rb, 0, none⟩ av') ?_ |>.mono good_field (by decide) fun k _ hm => .inr hm
    · rcases hm with e | e | e | e | e
      · exact .inr (.inl e)
      · exact .inl e
      · by_cases hv : av.ownBlock = some k
        · exact .inr (.inr (.inl hv))
        · obtain ⟨_, _, _, hX, _⟩ := ho
          exact absurd ⟨hk2, hv⟩ (hX k e)
      · simp [Value.ownBlock] at e
      · exact .inr (.inr (.inr e))
    · exact (hk.mono fun k _ e => .inl (.inr (.inr (.inl e)))).trans (k2.mono fun k _ e => .inl (.inr (.inl e)))
  · refine lnk.kept free_text k2 fun k e => ?_
    rintro rfl
    exact lnk.apartB hbl neRS e
  · exact mapk.keep k2 fun e => hbl.apartM mapk e.symm
  · refine (hk.below hle fun k _ e => (h2.typed e).1).trans ?_
    exact k2.below (Nat.le_trans hle hk.size) fun k _ e => by rw [e]; exact h.hb
theorem flat_one (vs : List Value) : (vs.map fun u => [u]).flatten = vs := by
  induction vs with
  | nil => rfl
  | cons a r ih => rw [List.map_cons, List.flatten_cons, ih]; rfl
theorem slices_own {vs : List Value} {X : Nat → Prop} {v : Value} {l : List (List Fd)} (h1 : vs.length = l.length) (h2 : OwnL 1 Rval tP B nowhere w v vs) (h3 : ∀ i (h : i < l.length) (h' : i < vs.length), Sl 2 Rfield X w vs[i] l[i]) (hX : ∀ k, k < w.heap.size → v.ownBlock = some k → X k) :
    Sl 1 Rpara nowhere w v l := by
  obtain ⟨ho, _⟩ := own_val h2
  have : OwnL 1 Rpara tP B nowhere w v l := by
    refine ⟨vs.map fun u => [u], ?_, by simp [h1], fun _ _ h => h, fun j h h' => ?_⟩
    · rw [flat_one vs, ← h1]; exact ho
    · refine ⟨vs[j]'(by omega), by simp, (h3 j h (by omega)).mono good_field (by decide) fun k hk hm => hm.elim (fun h => h.elim) (hX k hk)⟩
  exact this.sl good_para
theorem RI.sl (h : RI B rb av lv ps ls w) : Sl 1 Rpara nowhere w av ps := by
  obtain ⟨vs, h1, h2, h3⟩ := h.out
  exact slices_own h1 h2 h3 fun k _ e => .inr (.inl e)
theorem RA.sl (h : RA B rb mb av cv lv ps cm ls n m w) : Sl 1 Rpara nowhere w av (ps ++ [cm]) := by
  have hd := h.drop.1
  obtain ⟨vs, h1, h2, h3⟩ := h.out
  refine slices_own (X := fun k => av.ownBlock = some k) (vs := vs ++ [cv]) (by simp [h1]) h2 (fun i hi hi' => ?_) fun k _ e => e
  by_cases hlt : i < ps.length
  · rw [List.getElem_append_left (by omega), List.getElem_append_left hlt]
    exact (h3 i hlt (by omega)).mono good_field (by decide) fun k _ hm => .inr (.inr (.inl hm))
  · have hi2 : i = ps.length := by rw [List.length_append] at hi; simp at hi; omega
    subst hi2
    rw [List.getElem_append_right (by omega), List.getElem_append_right (by omega)]
    simp only [h1, Nat.sub_self, List.getElem_cons_zero]
    exact (h.cur.to free_field fun k e hm => h2.apart h.cur nePF hm e).sl good_field
end
/-- What the reader holds between two lines. -/
def RS (B rb T : Nat) (s : PSt) (w : World) : Prop :=
  s.all.length ≤ T ∧ (s.all.length ≤ 4096 ∧ (s.cur ≠ [] → s.all.length + 1 ≤ 4096)) ∧ s.cur.length ≤ T ∧
  ((s.cur = [] ∧ ∃ av lv ls, RI B rb av lv s.all ls w) ∨
   (∃ mb av cv lv cm nm ls n m, RA B rb mb av cv lv s.all (cm ++ [(nm, [])]) ls n m w ∧ ls ≠ [] ∧ ls.length ≤ T ∧ (Lib.join ls [10]).length ≤ T ∧ s.cur = cm ++ [(nm, Lib.join ls [10])] ∧ InM m (s.cur.map (·.1)) ∧ n ≤ T))
/-- The same behind end. -/
def RE (B rb T : Nat) (s : PSt) (w : World) : Prop :=
  s.all.length ≤ T ∧ (s.all.length ≤ 4096 ∧ (s.cur ≠ [] → s.all.length + 1 ≤ 4096)) ∧ s.cur.length ≤ T ∧
  ((s.cur = [] ∧ ∃ av lv ls, RI B rb av lv s.all ls w) ∨
   (∃ mb av cv lv ls n m, RA B rb mb av cv lv s.all s.cur ls n m w ∧ s.cur ≠ [] ∧ InM m (s.cur.map (·.1)) ∧ n ≤ T))
theorem RS.below {B rb T : Nat} {s : PSt} {w w' : World} (h : RS B rb T s w) (k : Below w.heap.size w w') : RS B rb T s w' := by
  obtain ⟨h1, h2, h3, h4⟩ := h
  refine ⟨h1, h2, h3, h4.imp (fun ⟨a, av, lv, ls, hr⟩ => ⟨a, av, lv, ls, hr.below k⟩) fun ⟨mb, av, cv, lv, cm, nm, ls, n, m, hr, r⟩ => ⟨mb, av, cv, lv, cm, nm, ls, n, m, hr.below k, r⟩⟩
theorem RI.reset {B rb : Nat} {av lv : Value} {ps : List (List Fd)} {ls : List (List UInt8)} {w : World} (h : RI B rb av lv ps ls w) : RI B rb av lv ps ls (w.setCell ⟨rb, 1, none⟩ (.map none)) ∧ Below B w (w.setCell ⟨rb, 1, none⟩ (.map none)) := by
  obtain ⟨vs, h1, h2, h3⟩ := h.out
  have hle := Nat.le_trans h.hb (Nat.le_of_lt h.blk.lt)
  have k2 : Kept (fun k => k = rb) w (w.setCell ⟨rb, 1, none⟩ (.map none)) := (Kept.refl _ w).setCell _ fun _ => rfl
  refine ⟨⟨h.hb, by simpa using h.blk.set (u := .map none) 1, ⟨vs, h1, ?_, fun i hi hi' => (h3 i hi hi').keep good_field (k2.mono fun k _ e => .inl e)⟩, ?_⟩, ?_⟩
  · refine h2.kept free_val k2 fun k e => ?_
    rintro rfl
    exact h2.apartB h.blk neRP e
  · refine h.ln.kept free_text k2 fun k e => ?_
    rintro rfl
    exact h.ln.apartB h.blk neRS e
  · exact k2.below hle fun k _ e => by rw [e]; exact h.hb
/-- A paragraph's end. -/
theorem RE.drop {B rb T : Nat} {s : PSt} {w : World} (h : RE B rb T s w) : RS B rb (T + 1) ⟨endP s, []⟩ (w.setCell ⟨rb, 1, none⟩ (.map none)) ∧ Below B w (w.setCell ⟨rb, 1, none⟩ (.map none)) := by
  obtain ⟨h1, h2, h3, h4⟩ := h
  rcases h4 with ⟨hc, av, lv, ls, hr⟩ | ⟨mb, av, cv, lv, ls, n, m, hr, hne, hI, hn⟩
  · refine ⟨⟨by rw [endP, if_pos hc]; exact Nat.le_succ_of_le h1, ⟨by rw [endP, if_pos hc]; exact h2.1, fun h => absurd rfl h⟩, Nat.zero_le _, .inl ⟨rfl, av, lv, ls, ?_⟩⟩, hr.reset.2⟩
    have := hr.reset.1
    rwa [show (PSt.mk (endP s) []).all = s.all by rw [endP, if_pos hc]]
  · refine ⟨⟨by rw [endP, if_neg hne]; simp; exact h1, ⟨by rw [endP, if_neg hne]; have := h2.2 hne; simp; omega, fun h => absurd rfl h⟩, Nat.zero_le _, .inl ⟨rfl, av, lv, ls, ?_⟩⟩, hr.drop.2⟩
    have := hr.drop.1
    rwa [show (PSt.mk (endP s) []).all = s.all ++ [s.cur] by rw [endP, if_neg hne]]
theorem RE.blk {B rb T : Nat} {s : PSt} {w : World} (h : RE B rb T s w) : ∃ av nv lv, Blk w rb tR #[av, nv, lv] := by
  obtain ⟨_, _, _, h4⟩ := h
  rcases h4 with ⟨_, av, lv, ls, hr⟩ | ⟨mb, av, cv, lv, ls, n, m, hr, _⟩
  · exact ⟨_, _, _, hr.blk⟩
  · exact ⟨_, _, _, hr.blk⟩
theorem RS.mono {B rb T T' : Nat} {s : PSt} {w : World} (h : RS B rb T s w) (hT : T ≤ T') : RS B rb T' s w := by
  obtain ⟨h1, h2, h3, h4⟩ := h
  refine ⟨Nat.le_trans h1 hT, h2, Nat.le_trans h3 hT, h4.imp id fun ⟨mb, av, cv, lv, cm, nm, ls, n, m, hr, a, b, c, d, e, f⟩ => ⟨mb, av, cv, lv, cm, nm, ls, n, m, hr, a, by omega, by omega, d, e, by omega⟩⟩
theorem RS.le {B rb T : Nat} {s : PSt} {w : World} (h : RS B rb T s w) : B ≤ w.heap.size := by
  obtain ⟨_, _, _, h4⟩ := h
  rcases h4 with ⟨_, av, lv, ls, hr⟩ | ⟨mb, av, cv, lv, cm, nm, ls, n, m, hr, _⟩
  · exact Nat.le_trans hr.hb (Nat.le_of_lt hr.blk.lt)
  · exact Nat.le_trans hr.hb (Nat.le_of_lt hr.blk.lt)
theorem RE.le {B rb T : Nat} {s : PSt} {w : World} (h : RE B rb T s w) : B ≤ w.heap.size := by
  obtain ⟨_, _, _, h4⟩ := h
  rcases h4 with ⟨_, av, lv, ls, hr⟩ | ⟨mb, av, cv, lv, ls, n, m, hr, _⟩
  · exact Nat.le_trans hr.hb (Nat.le_of_lt hr.blk.lt)
  · exact Nat.le_trans hr.hb (Nat.le_of_lt hr.blk.lt)
end Go.Proofs.YthcgomainhaemaaDoor

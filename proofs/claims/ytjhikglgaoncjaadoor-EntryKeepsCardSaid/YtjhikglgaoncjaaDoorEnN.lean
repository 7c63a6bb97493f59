/- The walks of slices.Clone at entries and of entry.Copy. -/
import Derived.Test.YtjhikglgaoncjaaDoorEnM
import Derived.Deep.Strs
namespace Go.Proofs.YtjhikglgaoncjaaDoor
open Go.RowKit
theorem ent_choose {X : Nat → Prop} {w : World} {b off n cap : Nat} {l : List En} (h : Sl 10 Rent X w (.slice (some ⟨b, off, none⟩) n cap) l) (hn : 0 < n) : ∃ f : Nat → Value, ∀ j (hj : j < l.length), EntAt w b (off + j * 10) l[j] (f j) ∧ Sl 1 Rbyte X w (f j) l[j].data := by
  obtain ⟨b', off', hA, _, hc⟩ := h.ent hn
  injection hA with hA
  injection hA with h1 h2
  subst h1 h2
  refine ⟨fun j => if hj : j < l.length then Classical.choose (hc j hj) else .slice none 0 0, fun j hj => ?_⟩
  simp only [hj, dif_pos]
  exact Classical.choose_spec (hc j hj)
theorem EntAt.at {w : World} {b off : Nat} {e : En} {v : Value} (h : EntAt w b off e v) (i : Nat) (u : Value) (hu : (entC e v)[i]? = some u) : w.cell? ⟨b, off + i, none⟩ = some u := by
  obtain ⟨c0, c1, c2, c3, c4, c5, c6, c7, c8, c9⟩ := h
  match i, hu with
  | 0, hu => simp [entC] at hu; subst hu; exact c0
  | 1, hu => simp [entC] at hu; subst hu; exact c1
  | 2, hu => simp [entC] at hu; subst hu; exact c2
  | 3, hu => simp [entC] at hu; subst hu; exact c3
  | 4, hu => simp [entC] at hu; subst hu; exact c4
  | 5, hu => simp [entC] at hu; subst hu; exact c5
  | 6, hu => simp [entC] at hu; subst hu; exact c6
  | 7, hu => simp [entC] at hu; subst hu; exact c7
  | 8, hu => simp [entC] at hu; subst hu; exact c8
  | 9, hu => simp [entC] at hu; subst hu; exact c9
  | i + 10, hu => simp [entC] at hu
theorem EntAt.of {w : World} {b off : Nat} {e : En} {v : Value} (h : ∀ i u, (entC e v)[i]? = some u → w.cell? ⟨b, off + i, none⟩ = some u) : EntAt w b off e v :=
  ⟨by simpa using h 0 _ rfl, h 1 _ rfl, h 2 _ rfl, h 3 _ rfl, h 4 _ rfl, h 5 _ rfl, h 6 _ rfl, h 7 _ rfl, h 8 _ rfl, h 9 _ rfl⟩
theorem ofC_one (l : List En) (f : Nat → Value) (hf : ∀ j, j < l.length → (f j).oneCell' = true) : ∀ u ∈ ofC l f, u.oneCell' = true := by
  intro u hu
  rw [ofC, List.mem_flatten] at hu
  obtain ⟨cs, hcs, hu⟩ := hu
  obtain ⟨k, rfl⟩ := List.mem_ofFn.1 hcs
  simp only [entC, List.mem_cons, List.not_mem_nil, or_false] at hu
  rcases hu with rfl | rfl | rfl | rfl | rfl | rfl | rfl | rfl | rfl | rfl
  all_goals first | rfl | exact hf _ k.2
set_option maxRecDepth 20000 in
set_option maxHeartbeats 4000000 in
theorem eclone_any (l : List En) (v : Value) (X : Nat → Prop) (w : World) (hsl : Sl 10 Rent X w v l) (hl : l.length ≤ 1000000) :
    Calls Tryd.prog 42 #[v] w fun e w' => (∃ (v' : Value) (f : Nat → Value), e = .returned v' ∧ w'.ownsRow w.heap.size tE 10 v' l.length (ofC l f) ∧ ∀ j (h : j < l.length), Sl 1 Rbyte X w (f j) l[j].data) ∧ Below w.heap.size w w' := by
  obtain ⟨i0, hi, hz0, hz1, hz2⟩ := info_parts info_ent
  have q25 : ∀ (w : World) (a : Option Addr) (n c n' c' : Nat), (binOp .eql 25 (.slice a n c) (.slice none n' c')).run Tryd.prog w = .ok (.bool a.isNone) w := fun w a n c n' c' => Lib.run_eql_slice_nil w _ _ a n c n' c' Tryd.underlying25
  obtain ⟨A, cap, rfl, h1, h2, h3, h4, h5⟩ := id hsl
  unfold maxLen at h2
  cases A with
  | none =>
    have hl0 : l = [] := by
      have := h3 rfl
      exact List.eq_nil_of_length_eq_zero (by omega)
    subst hl0
    clear hsl h1 h2 h3 h4 h5
    go_enter Tryd.func42, Tryd.ntmps42
    go_wp2_with fail
    go_ret
    exact ⟨⟨.slice none 0 0, fun _ => .slice none 0 0, rfl, World.ownsRow_nil _ _ _ _, fun j h => by simp at h⟩, Below.refl _ _⟩
  | some a =>
    obtain ⟨f, hf⟩ : ∃ f : Nat → Value, Hid ((∀ i u, (ofC l f)[i]? = some u → w.cell? (a.add i) = some u) ∧ (∀ j (h : j < l.length), Sl 1 Rbyte X w (f j) l[j].data)) := by
      by_cases hne : l = []
      · subst hne
        exact ⟨fun _ => .slice none 0 0, Lib.hid ⟨fun i u h => by simp [ofC] at h, fun j h => by simp at h⟩⟩
      · obtain ⟨b, off, hA, _, _⟩ := h4 hne
        injection hA with hA
        subst hA
        obtain ⟨f, hf⟩ := ent_choose hsl (List.length_pos_iff.2 hne)
        refine ⟨f, Lib.hid ⟨fun i u hu => ?_, fun j h => (hf j h).2⟩⟩
        have hil : i < l.length * 10 := by rw [← ofC_len l f]; exact (List.getElem?_eq_some_iff.1 hu).1
        have e : i = i / 10 * 10 + i % 10 := by omega
        rw [e] at hu ⊢
        rw [ofC_at l f (i / 10) (by omega) (i % 10) (by omega)] at hu
        rw [Addr.add_lit, ← Nat.add_assoc]
        exact (hf (i / 10) (by omega)).1.at _ _ hu
    have hone : Hid (∀ u ∈ ofC l f, u.oneCell' = true) := Lib.hid (ofC_one l f fun j hj => by
      obtain ⟨A', c', e, _⟩ := hf.out.2 j hj
      rw [e]; rfl)
    have hlen : Hid ((ofC l f).length = l.length * 10) := Lib.hid (ofC_len l f)
    clear h3 h4 h5 hsl
    have hw2 : Below w.heap.size w (w.alloc (.cells #[] tE)) := (Below.refl _ _).alloc (Nat.le_refl _) _
    go_enter Tryd.func42, Tryd.ntmps42
    go_wp2_with (at_builtin; revert h1)
    intro h1
    refine wpList_append_own _ rfl _ _ 25 rfl w.heap.size tE i0 _ 10 128 Tryd.underlying25 hi hz0 hz1 hz2 rfl (by decide) _ _ _ rfl (World.ownsRow_made w #[] 0 (Nat.le_refl _) (Nat.zero_le _) rfl) a l.length cap (ofC l f) rfl ?qc1 ?qc2 ?qc3 ?qc4 ?qc5 ?qc6 ?_
    case qc1 => exact hlen.out
    case qc2 => exact fun j u hj => Lib.cell?_alloc_some _ (hf.out.1 j u hj)
    case qc3 => exact hone.out
    case qc4 => unfold maxLen; omega
    case qc5 => omega
    case qc6 => simp
    intro v' w1 hown hgrow hnil
    go_wp2_with fail
    go_ret
    have hb := ((Below.refl w.heap.size w).alloc (Nat.le_refl _) (.cells #[] tE)).grown hgrow (by simp) (fun k hk => Nat.le_of_eq (Option.some.inj hk))
    refine ⟨⟨v', f, rfl, by simpa using hown, fun j h => hf.out.2 j h⟩, hb⟩
def upd (f : Nat → Value) (k : Nat) (u : Value) : Nat → Value := fun j => if j = k then u else f j
theorem ofC_set (l : List En) (f : Nat → Value) (k : Nat) (hk : k < l.length) (c : Nat) (hc : c < 10) (u : Value) (e' : En) (d' : Value) (h : (entC l[k] (f k)).set c u = entC e' d') :
    (ofC l f).set (k * 10 + c) u = ofC (l.set k e') (upd f k d') := by
  apply List.ext_getElem?
  intro i
  by_cases hi : i < l.length * 10
  · have e : i = i / 10 * 10 + i % 10 := by omega
    have hl2 : (l.set k e').length = l.length := List.length_set
    rw [List.getElem?_set]
    have hj : i / 10 < l.length := by omega
    have hm : i % 10 < 10 := Nat.mod_lt _ (by omega)
    have R : (ofC (l.set k e') (upd f k d'))[i]? = (entC ((l.set k e')[i / 10]'(by rw [hl2]; exact hj)) (upd f k d' (i / 10)))[i % 10]? := by
      have := ofC_at (l.set k e') (upd f k d') (i / 10) (by rw [hl2]; exact hj) (i % 10) hm
      rwa [← e] at this
    have Lh : (ofC l f)[i]? = (entC l[i / 10] (f (i / 10)))[i % 10]? := by
      have := ofC_at l f (i / 10) hj (i % 10) hm
      rwa [← e] at this
    rw [R, Lh]
    by_cases hjk : i / 10 = k
    · subst hjk
      have e2 : (l.set (i / 10) e')[i / 10]'(by rw [hl2]; exact hj) = e' := by simp
      have e3 : upd f (i / 10) d' (i / 10) = d' := by simp [upd]
      rw [e2, e3, ← h, List.getElem?_set]
      by_cases hcm : c = i % 10
      · subst hcm
        rw [if_pos (by omega), if_pos rfl, if_pos (by rw [ofC_len]; omega), if_pos (by simp [entC]; omega)]
      · have hne : ¬ i / 10 * 10 + c = i := fun h => hcm (by omega)
        rw [if_neg hne, if_neg hcm]
    · have e2 : (l.set k e')[i / 10]'(by rw [hl2]; exact hj) = l[i / 10] := List.getElem_set_ne (fun h => hjk h.symm) _
      have e3 : upd f k d' (i / 10) = f (i / 10) := by simp [upd, hjk]
      have hne : ¬ k * 10 + c = i := fun h => hjk (by omega)
      rw [e2, e3, if_neg hne]
  · rw [List.getElem?_eq_none (by rw [List.length_set, ofC_len]; omega), List.getElem?_eq_none (by rw [ofC_len, List.length_set]; omega)]
/-- A row of entries of one's own; their data lie off it. -/
structure EO (B : Nat) (w : World) (v : Value) (l : List En) (f : Nat → Value) : Prop where
  row : w.ownsRow B tE 10 v l.length (ofC l f)
  dat : ∀ j (h : j < l.length), Sl 1 Rbyte (fun k => v.ownBlock = some k) w (f j) l[j].data
theorem EO.below {B : Nat} {w w' : World} {v : Value} {l : List En} {f : Nat → Value} (h : EO B w v l f) (k : Below w.heap.size w w') : EO B w' v l f :=
  ⟨(Kept.of_below k nowhere).own h.row (fun _ _ h => h), fun j hj => Below.sl good_byte k (h.dat j hj)⟩
theorem EO.form {B : Nat} {w : World} {v : Value} {l : List En} {f : Nat → Value} (h : EO B w v l f) (hl : 0 < l.length) : ∃ g cap, v = .slice (some ⟨g, 0, none⟩) l.length cap ∧ B ≤ g ∧ l.length ≤ cap ∧ cap ≤ maxLen ∧ ∃ cs, Blk w g tE cs := by
  rcases h.row.2 with ⟨_, h0⟩ | ⟨g, cap, cur, rfl, hb, hg, hnc, hcm, _⟩
  · omega
  · exact ⟨g, cap, rfl, hb, hnc, hcm, cur, hg⟩
theorem EO.cell {B : Nat} {w : World} {l : List En} {f : Nat → Value} {g n cap : Nat} (h : EO B w (.slice (some ⟨g, 0, none⟩) n cap) l f) (j : Nat) (hj : j < l.length) : EntAt w g (j * 10) l[j] (f j) :=
  EntAt.of fun i u hu => by
    have hi : i < 10 := (List.getElem?_eq_some_iff.1 hu).1
    have hn : n = l.length := by
      obtain ⟨_, _, e⟩ := own_form h.row
      injection e
    subst hn
    have := h.row.cellAt (j * 10 + i) (by omega)
    rw [this, ofC_at l f j hj i hi]; exact hu
theorem EO.put {B : Nat} {w : World} {l : List En} {f : Nat → Value} {g n cap : Nat} (h : EO B w (.slice (some ⟨g, 0, none⟩) n cap) l f) (hB : B ≤ w.heap.size) (k : Nat) (hk : k < l.length) (c : Nat) (hc : c < 10) (u : Value) (e' : En) (d' : Value) (he : (entC l[k] (f k)).set c u = entC e' d')
    (hd : Sl 1 Rbyte (fun b => (Value.slice (some ⟨g, 0, none⟩) n cap).ownBlock = some b) w d' e'.data) : EO B (w.setCell ⟨g, k * 10 + c, none⟩ u) (.slice (some ⟨g, 0, none⟩) n cap) (l.set k e') (upd f k d') ∧ Below B w (w.setCell ⟨g, k * 10 + c, none⟩ u) := by
  have hn : n = l.length := by
    have := own_form h.row
    obtain ⟨_, _, e⟩ := this
    injection e
  have hBg : B ≤ g := (h.row.lt g rfl).1
  have k2 : Kept (fun b => (Value.slice (some ⟨g, 0, none⟩) n cap).ownBlock = some b) w (w.setCell ⟨g, k * 10 + c, none⟩ u) := (Kept.refl _ w).setCell _ fun _ => rfl
  refine ⟨⟨?_, fun j hj => ?_⟩, k2.below hB fun b _ hb => by have e : g = b := Option.some.inj hb; exact e ▸ hBg⟩
  · rw [List.length_set, ← ofC_set l f k hk c hc u e' d' he, ← hn]
    have := h.row
    rw [← hn] at this
    exact own_set this _ _
  · have hj2 : j < l.length := by rw [List.length_set] at hj; exact hj
    by_cases hjk : j = k
    · subst hjk
      have e2 : (l.set j e')[j]'hj = e' := by simp
      rw [e2, upd, if_pos rfl]
      exact hd.keep good_byte k2
    · have e2 : (l.set k e')[j]'hj = l[j]'hj2 := List.getElem_set_ne (fun h => hjk h.symm) _
      rw [e2, upd, if_neg hjk]
      exact (h.dat j hj2).keep good_byte k2
theorem EO.sl {B : Nat} {w : World} {v : Value} {l : List En} {f : Nat → Value} (h : EO B w v l f) : Sl 10 Rent nowhere w v l := by
  have : OwnL 10 Rent tE B nowhere w v l := by
    refine ⟨List.ofFn fun j : Fin l.length => entC l[j] (f j), h.row, by simp, fun _ _ h => h, fun j hj h' => ?_⟩
    refine ⟨f j, by simp, (h.dat j hj).mono good_byte (by decide) fun k _ hm => hm.elim (fun h => h.elim) fun h => h⟩
  exact this.sl good_ent
end Go.Proofs.YtjhikglgaoncjaaDoor

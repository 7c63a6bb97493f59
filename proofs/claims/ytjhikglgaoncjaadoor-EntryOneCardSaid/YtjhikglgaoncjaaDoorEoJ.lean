/- The one order, plain: it does not hang on how the entries come; it is right, and its own. -/
import Derived.Test.YtjhikglgaoncjaaDoorEoE
namespace Go.Proofs.YtjhikglgaoncjaaDoor
open Go.RowKit
theorem nodup_of_paths {l : List En} (h : (l.map En.path).Nodup) : l.Nodup := by
  rw [List.Nodup, List.pairwise_map] at h
  exact h.imp fun hne he => hne (by rw [he])
theorem least_perm {l T : List En} (hp : T.Perm l) {p q : List UInt8} (h : Least l p q) : Least T p q := by
  obtain ⟨⟨e, he, hg, hq⟩, h2⟩ := h
  exact ⟨⟨e, hp.mem_iff.2 he, hg, hq⟩, fun x hx hgx => h2 x (hp.mem_iff.1 hx) hgx⟩
theorem fin_perm {l T : List En} (hl : Rt l) (hT : Rt T) (hp : T.Perm l) {e : En} (he : e ∈ l) : fin T e = fin l e := by
  rw [fin, fin]
  by_cases hF : isF e
  · rw [if_pos hF, if_pos hF]
    have h1 := leastP_is l (fileE e) he ⟨hF, rfl⟩
    have h2 := leastP_is T (fileE e) (hp.mem_iff.2 he) ⟨hF, rfl⟩
    have hlp : leastP T (fileE e) = leastP l (fileE e) := least_uniq h2 (least_perm hp h1)
    obtain ⟨x, hx, hxp, _, _⟩ := hl.file he hF
    rw [hlp, dataOf_is hl hx hxp, dataOf_is hT (hp.mem_iff.2 hx) hxp]
  · rw [if_neg hF, if_neg hF]
theorem canon_perm {l T : List En} (hl : Rt l) (hT : Rt T) (hp : T.Perm l) : canonL T = canonL l := by
  have hs : sortL T = sortL l := sorted_uniq (((sortL_perm T).trans hp).trans (sortL_perm l).symm) (sortL_uniq hl) (sortL_sorted T) (sortL_sorted l)
  rw [canonL, canonL, hs]
  exact List.map_congr_left fun e he => fin_perm hl hT hp ((sortL_perm l).mem_iff.1 he)
theorem alike_trans {a b x : En} (h1 : alikeE a x = true) (h2 : alikeE b x = true) : alikeE a b = true := by
  simp only [alikeE, Bool.and_eq_true, decide_eq_true_eq] at *
  obtain ⟨a1, a2, a3, a4, a5, a6⟩ := h1
  obtain ⟨b1, b2, b3, b4, b5, b6⟩ := h2
  exact ⟨a1.trans b1.symm, a2.trans b2.symm, a3.trans b3.symm, a4.trans b4.symm, a5.trans b5.symm, a6.trans b6.symm⟩
/-- The checks of an entry that its kind has no part in. -/
theorem chkE_parts {e : En} (h : chkE e = 0) : pathOk e.path = true ∧ numBad e = false ∧ ownOk e.owner = true ∧ ownOk e.group = true ∧ e.data.length ≤ 1048576 := by
  rw [chkE] at h
  split at h
  · cases h
  · rename_i h1
    split at h
    · cases h
    · split at h
      · cases h
      · rename_i h3
        split at h
        · cases h
        · rename_i h4
          split at h
          · cases h
          · split at h
            · cases h
            · split at h
              · cases h
              · split at h
                · cases h
                · split at h
                  · cases h
                  · rename_i h9
                    refine ⟨by simpa using h1, by simpa using h3, ?_, ?_, by omega⟩
                    · cases ho : ownOk e.owner with
                      | true => rfl
                      | false => exact absurd (.inl ho) h4
                    · cases ho : ownOk e.group with
                      | true => rfl
                      | false => exact absurd (.inr ho) h4
theorem chkE_file {e : En} (h : chkE e = 0) (d : List UInt8) (hd : d.length ≤ 1048576) : chkE { e with kind := 1, link := [], data := d } = 0 := by
  obtain ⟨h1, h2, h3, h4, _⟩ := chkE_parts h
  have h2' : numBad { e with kind := 1, link := [], data := d } = false := h2
  simp only [chkE]
  rw [if_neg (by simp [h1]), if_neg (by omega), if_neg (by rw [h2']; simp), if_neg (by simp [h3, h4]), if_neg (by omega), if_neg (by omega), if_neg (by simp), if_neg (by simp), if_neg (by omega)]
theorem chkE_hard {e : En} (h : chkE e = 0) (q : List UInt8) (hq : pathOk q = true) (hne : q ≠ e.path) : chkE { e with kind := 4, link := q, data := [] } = 0 := by
  obtain ⟨h1, h2, h3, h4, _⟩ := chkE_parts h
  have h2' : numBad { e with kind := 4, link := q, data := [] } = false := h2
  simp only [chkE]
  rw [if_neg (by simp [h1]), if_neg (by omega), if_neg (by rw [h2']; simp), if_neg (by simp [h3, h4]), if_neg (by omega), if_neg (by simp [hq, hne]), if_neg (by simp), if_neg (by simp), if_neg (by simp)]
theorem mem_canon {l : List En} (e' : En) : e' ∈ canonL l ↔ ∃ e ∈ l, fin l e = e' := by
  rw [canonL, List.mem_map]
  exact ⟨fun ⟨e, he, hh⟩ => ⟨e, (sortL_perm l).mem_iff.1 he, hh⟩, fun ⟨e, he, hh⟩ => ⟨e, (sortL_perm l).mem_iff.2 he, hh⟩⟩
/-- What becomes of a name of a file. -/
theorem fin_cases {l : List En} {e : En} (he : e ∈ l) (hF : isF e) : ∃ q e0, Least l (fileE e) q ∧ e0 ∈ l ∧ inG (fileE e) e0 ∧ e0.path = q ∧ leastP l (fileE e) = q ∧
    ((e.path = q ∧ fin l e = { e with kind := 1, link := [], data := dataOf l (fileE e) }) ∨ (e.path ≠ q ∧ fin l e = { e with kind := 4, link := q, data := [] })) := by
  have hL := leastP_is l (fileE e) he ⟨hF, rfl⟩
  obtain ⟨⟨e0, h0, hg, hq⟩, _⟩ := id hL
  refine ⟨leastP l (fileE e), e0, hL, h0, hg, hq, rfl, ?_⟩
  by_cases hp : e.path = leastP l (fileE e)
  · exact .inl ⟨hp, by rw [fin, if_pos hF, if_pos hp]⟩
  · exact .inr ⟨hp, by rw [fin, if_pos hF, if_neg hp]⟩
theorem fin_alike (l : List En) (e : En) (x : En) : alikeE (fin l e) x = alikeE e x ∧ alikeE x (fin l e) = alikeE x e := by
  rw [fin]
  split
  · split <;> exact ⟨rfl, rfl⟩
  · exact ⟨rfl, rfl⟩
theorem fin_dir {l : List En} {e : En} (he : e ∈ l) : (fin l e).kind = 2 ↔ e.kind = 2 := by
  by_cases hF : isF e
  · obtain ⟨q, e0, _, _, _, _, _, hc⟩ := fin_cases he hF
    have h2 : e.kind ≠ 2 := by rcases hF with h1 | h1 <;> omega
    rcases hc with ⟨_, hc⟩ | ⟨_, hc⟩
    · rw [hc]; exact ⟨fun hh => absurd (show (1 : Int) = 2 from hh) (by decide), fun hh => absurd hh h2⟩
    · rw [hc]; exact ⟨fun hh => absurd (show (4 : Int) = 2 from hh) (by decide), fun hh => absurd hh h2⟩
  · rw [fin_no hF]
section
variable {l : List En} (h : Rt l)
include h
theorem fin_chk {e : En} (he : e ∈ l) : chkE (fin l e) = 0 := by
  by_cases hF : isF e
  · obtain ⟨q, e0, _, h0, _, hq, _, hc⟩ := fin_cases he hF
    rcases hc with ⟨_, hc⟩ | ⟨hne, hc⟩
    · obtain ⟨x, hx, hxp, _, _⟩ := h.file he hF
      rw [hc, dataOf_is h hx hxp]
      exact chkE_file (h.chk e he) _ (chkE_parts (h.chk x hx)).2.2.2.2
    · rw [hc]
      exact chkE_hard (h.chk e he) q (by rw [← hq]; exact (chkE_parts (h.chk e0 h0)).1) (fun e => hne e.symm)
  · rw [fin_no hF]; exact h.chk e he
theorem rt_canon : Rt (canonL l) where
  len := by rw [canonL, List.length_map, (sortL_perm l).length_eq]; exact h.len
  chk e' he' := by
    obtain ⟨e, he, rfl⟩ := (mem_canon e').1 he'
    exact fin_chk h he
  uniq := by rw [canonL, map_paths]; exact sortL_uniq h
  hard k hk h4 := by
    have hlen : (canonL l).length = (sortL l).length := List.length_map ..
    have hat : ∀ (j : Nat) (hj : j < (sortL l).length), (canonL l)[j]'(by rw [hlen]; exact hj) = fin l (sortL l)[j] := fun j hj => List.getElem_map ..
    have hk' : k < (sortL l).length := by rw [← hlen]; exact hk
    rw [hat k hk'] at h4 ⊢
    have hml := (sortL_perm l).mem_iff.1 (List.getElem_mem hk')
    generalize hS : (sortL l)[k] = e at h4 hml ⊢
    have hF : isF e := by
      refine Decidable.byContradiction fun hF => ?_
      rw [fin_no hF] at h4
      exact hF (.inr h4)
    obtain ⟨q, e0, hL, h0, hg0, hq, hlp, hc⟩ := fin_cases hml hF
    rcases hc with ⟨_, hc⟩ | ⟨hne, hc⟩
    · rw [hc] at h4; exact absurd (show (1 : Int) = 4 from h4) (by decide)
    · obtain ⟨j, hj, hje⟩ := List.getElem_of_mem ((sortL_perm l).mem_iff.2 h0)
      have hjk : j < k := by
        rcases Nat.lt_trichotomy j k with hlt | he | hgt
        · exact hlt
        · subst he
          rw [hS] at hje
          subst hje
          exact absurd hq hne
        · have h1 : leP (sortL l)[k] (sortL l)[j] := List.pairwise_iff_getElem.1 (sortL_sorted l) k j hk' hj hgt
          rw [hS, hje] at h1
          have h2 := hL.2 e hml ⟨hF, rfl⟩
          rw [← hq] at h2
          exact absurd ((less_anti h2 h1).trans hq) hne
      refine ⟨j, hjk, ?_, ?_, ?_⟩
      · rw [hat j hj, fin_path, hje, hc]; exact hq
      · rw [hat j hj, hje, fin, if_pos hg0.1, hg0.2, hlp, if_pos hq]
      · rw [hat j hj, hje, (fin_alike l e _).1, (fin_alike l e0 _).2]
        obtain ⟨x, hx, hxp, _, hxa⟩ := h.file hml hF
        obtain ⟨x', hx', hxp', _, hxa'⟩ := h.file h0 hg0.1
        have : x' = x := path_inj h.uniq hx' hx (by rw [hxp', hxp, hg0.2])
        subst this
        exact alike_trans hxa hxa'
  nest x' hx' y' hy' hm := by
    obtain ⟨x, hx, rfl⟩ := (mem_canon x').1 hx'
    obtain ⟨y, hy, rfl⟩ := (mem_canon y').1 hy'
    rw [fin_path, fin_path] at hm
    exact (fin_dir hx).2 (h.nest x hx y hy hm)
theorem fin_fin {e : En} (he : e ∈ l) : fin (canonL l) (fin l e) = fin l e := by
  have hc := rt_canon h
  have hme := (mem_canon (fin l e)).2 ⟨e, he, rfl⟩
  by_cases hF : isF e
  · obtain ⟨q, e0, hL, h0, hg0, hq, hlp, hcs⟩ := fin_cases he hF
    -- the file of the group is now the least one
    have hfile : ∀ {y : En}, y ∈ l → isF y → isF (fin l y) ∧ fileE (fin l y) = leastP l (fileE y) := fun {y} hy hFy => by
      obtain ⟨q', _, _, _, _, _, hlp', hcy⟩ := fin_cases hy hFy
      rcases hcy with ⟨hp, hcy⟩ | ⟨hp, hcy⟩
      · rw [hcy, hlp']
        exact ⟨.inl rfl, by rw [fileE, if_neg (by show ¬ (1 : Int) = 4; decide)]; exact hp⟩
      · rw [hcy, hlp']
        exact ⟨.inr rfl, by rw [fileE, if_pos rfl]⟩
    have hmF := hfile he hF
    have hL' : Least (canonL l) q q := by
      refine ⟨⟨fin l e0, (mem_canon _).2 ⟨e0, h0, rfl⟩, ?_, by rw [fin_path]; exact hq⟩, fun y' hy' hgy => ?_⟩
      · have := hfile h0 hg0.1
        exact ⟨this.1, by rw [this.2, hg0.2, hlp]⟩
      · obtain ⟨y, hy, rfl⟩ := (mem_canon y').1 hy'
        rw [fin_path]
        have hFy : isF y := by
          refine Decidable.byContradiction fun hFy => ?_
          have := hgy.1
          rw [fin_no hFy] at this
          exact hFy this
        have h3 := (hfile hy hFy).2
        rw [hgy.2] at h3
        -- y's least is q: y stands in e's group or in another of the same least; either way it is not less
        have hLy := leastP_is l (fileE y) hy ⟨hFy, rfl⟩
        rw [← h3] at hLy
        exact hLy.2 y hy ⟨hFy, rfl⟩
    have hlp2 : leastP (canonL l) q = q := least_uniq (leastP_is (canonL l) q hme ⟨hmF.1, by rw [hmF.2, hlp]⟩) hL'
    rw [fin, if_pos hmF.1, hmF.2, hlp, hlp2, fin_path]
    rcases hcs with ⟨hp, hcs⟩ | ⟨hp, hcs⟩
    · rw [if_pos hp, dataOf_is hc hme (by rw [fin_path]; exact hp), hcs]
    · rw [if_neg hp, hcs]
  · have hF' : ¬ isF (fin l e) := by rw [fin_no hF]; exact hF
    rw [fin_no hF']
theorem canon_canon : canonL (canonL l) = canonL l := by
  have hs : sortL (canonL l) = canonL l := sorted_uniq (sortL_perm _) (rt_canon h).uniq (sortL_sorted _) (canonL_sorted l)
  rw [canonL, hs]
  conv => rhs; rw [← List.map_id (canonL l)]
  apply List.map_congr_left
  intro e' he'
  obtain ⟨e, he, rfl⟩ := (mem_canon e').1 he'
  exact fin_fin h he
end
/-- The place that the law's i-th step takes. -/
def ordK (o : List Int) (i : Nat) : Int := match o[i]? with
  | some k => k
  | none => (i : Int) - o.length
def takeT (l T : List En) (k : Int) : List En :=
  if k < 0 ∨ (l.length : Int) ≤ k then T else match l[k.toNat]? with
  | none => T
  | some e => if 0 ≤ fndE e.path T 0 ∨ (e.kind = 4 ∧ fndE e.link T 0 < 0) then T else T ++ [e]
/-- The law's other order of the entries. -/
def turnK (l : List En) (o : List Int) : Nat → List En
  | 0 => []
  | i + 1 => takeT l (turnK l o i) (ordK o i)
theorem fnd_neg (T : List En) (p : List UInt8) : fndE p T 0 < 0 ↔ ∀ x ∈ T, x.path ≠ p := by
  rcases fndE_get p T 0 with ⟨h1, h2⟩ | ⟨j, hj, h1, h2⟩
  · rw [h1]
    refine ⟨fun _ x hx hp => ?_, fun _ => by omega⟩
    rw [findE, List.find?_eq_none] at h2
    exact h2 x hx (by simpa using hp)
  · rw [h1]
    refine ⟨fun h => by omega, fun h => ?_⟩
    obtain ⟨h3, h4⟩ := find_some h2
    exact absurd h4 (h _ h3)
structure Tn (l T : List En) : Prop where
  mem : ∀ x ∈ T, x ∈ l
  uniq : (T.map En.path).Nodup
  hard : ∀ (k : Nat) (hk : k < T.length), T[k].kind = 4 → ∃ (j : Nat) (hj : j < k), T[j].path = T[k].link
theorem take_tn {l T : List En} (h : Tn l T) (k : Int) : Tn l (takeT l T k) ∧ (∀ x ∈ T, x ∈ takeT l T k) ∧ T.length ≤ (takeT l T k).length ∧ (takeT l T k).length ≤ T.length + 1 := by
  rw [takeT]
  split
  · exact ⟨h, fun _ h => h, Nat.le_refl _, by omega⟩
  · split
    · exact ⟨h, fun _ h => h, Nat.le_refl _, by omega⟩
    · rename_i e he
      split
      · exact ⟨h, fun _ h => h, Nat.le_refl _, by omega⟩
      · rename_i hc
        have h1 : ∀ x ∈ T, x.path ≠ e.path := (fnd_neg T e.path).1 (by
          have := not_or.1 hc
          omega)
        have h2 : e.kind = 4 → ∃ x ∈ T, x.path = e.link := fun h4 => by
          refine Decidable.byContradiction fun hn => ?_
          exact (not_or.1 hc).2 ⟨h4, (fnd_neg T e.link).2 fun x hx hp => hn ⟨x, hx, hp⟩⟩
        refine ⟨⟨fun x hx => ?_, ?_, fun j hj h4 => ?_⟩, fun x hx => by simp [hx], by simp, by simp⟩
        · rcases List.mem_append.1 hx with hx | hx
          · exact h.mem x hx
          · simp at hx; subst hx; exact List.mem_of_getElem? he
        · rw [List.map_append, List.nodup_append]
          refine ⟨h.uniq, by simp, fun a ha b hb hab => ?_⟩
          obtain ⟨x, hx, rfl⟩ := List.mem_map.1 ha
          simp at hb
          subst hb
          exact h1 x hx hab
        · by_cases hlt : j < T.length
          · rw [List.getElem_append_left hlt] at h4
            obtain ⟨m, hm, hmp⟩ := h.hard j hlt h4
            exact ⟨m, hm, by rw [List.getElem_append_left (by omega), List.getElem_append_left hlt]; exact hmp⟩
          · have hjl : j = T.length := by rw [List.length_append, List.length_singleton] at hj; omega
            subst hjl
            rw [List.getElem_append_right (by omega)] at h4 ⊢
            simp only [Nat.sub_self, List.getElem_cons_zero] at h4 ⊢
            obtain ⟨x, hx, hxp⟩ := h2 h4
            obtain ⟨m, hm, rfl⟩ := List.getElem_of_mem hx
            exact ⟨m, hm, by rw [List.getElem_append_left hm]; exact hxp⟩
theorem turn_tn (l : List En) (o : List Int) : ∀ i, Tn l (turnK l o i) ∧ (turnK l o i).length ≤ i
  | 0 => ⟨⟨fun x h => by simp [turnK] at h, by simp [turnK], fun k hk => by simp [turnK] at hk⟩, by simp [turnK]⟩
  | i + 1 => by
    obtain ⟨h1, h2⟩ := turn_tn l o i
    obtain ⟨h3, _, _, h5⟩ := take_tn h1 (ordK o i)
    exact ⟨h3, by rw [turnK]; omega⟩
theorem turn_all {l : List En} (h : Rt l) (o : List Int) : ∀ m, m ≤ l.length → ∀ j (hj : j < l.length), j < m → l[j] ∈ turnK l o (o.length + m)
  | 0, _, j, hj, hm => by omega
  | m + 1, hl, j, hj, hm => by
    have ih := turn_all h o m (by omega)
    have htn := (turn_tn l o (o.length + m)).1
    have hstep : turnK l o (o.length + (m + 1)) = takeT l (turnK l o (o.length + m)) (m : Int) := by
      rw [← Nat.add_assoc, turnK, ordK, List.getElem?_eq_none (by omega)]
      show takeT l _ (((o.length + m : Nat) : Int) - o.length) = _
      rw [show ((o.length + m : Nat) : Int) - o.length = m by omega]
    rw [hstep]
    by_cases hjm : j < m
    · exact (take_tn htn _).2.1 _ (ih j hj hjm)
    · have hjm : j = m := by omega
      subst hjm
      rw [takeT, if_neg (by omega), Int.toNat_natCast, List.getElem?_eq_getElem hj]
      simp only
      split
      · rename_i hc
        rcases hc with hc | ⟨h4, hc⟩
        · refine Classical.byContradiction fun hn => ?_
          have : fndE l[j].path (turnK l o (o.length + j)) 0 < 0 := (fnd_neg _ _).2 fun x hx hp => hn (by
            have := path_inj h.uniq (htn.mem x hx) (List.getElem_mem hj) hp
            rw [← this]; exact hx)
          omega
        · obtain ⟨i, hi, hp, _, _⟩ := h.hard j hj h4
          exact absurd hp ((fnd_neg _ _).1 hc _ (ih i (by omega) hi))
      · simp
theorem turn_perm {l : List En} (h : Rt l) (o : List Int) : (turnK l o (o.length + l.length)).Perm l := by
  have htn := (turn_tn l o (o.length + l.length)).1
  refine (List.perm_ext_iff_of_nodup (nodup_of_paths htn.uniq) (nodup_of_paths h.uniq)).2 fun x => ⟨fun hx => htn.mem x hx, fun hx => ?_⟩
  obtain ⟨j, hj, rfl⟩ := List.getElem_of_mem hx
  exact turn_all h o l.length (Nat.le_refl _) j hj hj
theorem turn_rt {l : List En} (h : Rt l) (o : List Int) : Rt (turnK l o (o.length + l.length)) := by
  have hp := turn_perm h o
  have htn := (turn_tn l o (o.length + l.length)).1
  generalize turnK l o (o.length + l.length) = T at hp htn ⊢
  refine ⟨by rw [hp.length_eq]; exact h.len, fun e he => h.chk e (htn.mem e he), htn.uniq, fun k hk h4 => ?_, fun x hx y hy => h.nest x (htn.mem x hx) y (htn.mem y hy)⟩
  obtain ⟨j, hj, hjp⟩ := htn.hard k hk h4
  have hkm := htn.mem _ (List.getElem_mem hk)
  obtain ⟨x, hx, hxp, hx1, hxa⟩ := h.file hkm (.inr h4)
  rw [file_of_kind4 h4] at hxp
  have : T[j] = x := path_inj h.uniq (htn.mem _ (List.getElem_mem _)) hx (by rw [hjp, hxp])
  exact ⟨j, hj, hjp, by rw [this]; exact hx1, by rw [this]; exact hxa⟩
end Go.Proofs.YtjhikglgaoncjaaDoor

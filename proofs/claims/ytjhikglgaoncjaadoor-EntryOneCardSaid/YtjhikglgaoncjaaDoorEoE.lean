/- The document's steps to the one order, plain. -/
import Derived.Test.YtjhikglgaoncjaaDoorEoD
namespace Go.Proofs.YtjhikglgaoncjaaDoor
open Go.RowKit
def relinkE (f : Nat) (old new : List UInt8) (k : Nat) (y : En) : En := if k ≠ f ∧ y.kind = 4 ∧ y.link = old then { y with link := new } else y
/-- The first k entries linked anew. -/
def relinkK (o : List En) (f : Nat) (old new : List UInt8) (k : Nat) : List En := (o.take k).mapIdx (relinkE f old new) ++ o.drop k
def promo (o : List En) (i f : Nat) (e x : En) : List En := (o.set i { e with kind := 1, link := [], data := x.data }).set f { x with kind := 4, link := e.path, data := [] }
def stepC (o : List En) (i : Nat) : List En := match o[i]? with
  | none => o
  | some e => if e.kind = 4 then
      (if fndE e.link o 0 < i then o else match o[(fndE e.link o 0).toNat]? with
        | none => o
        | some x => if x.kind = 1 then relinkK (promo o i (fndE e.link o 0).toNat e x) (fndE e.link o 0).toNat e.link e.path o.length else o)
    else o
def stepsC (l : List En) : Nat → List En
  | 0 => sortL l
  | i + 1 => stepC (stepsC l i) i
theorem relinkK_len (o : List En) (f : Nat) (old new : List UInt8) (k : Nat) : (relinkK o f old new k).length = o.length := by
  rw [relinkK, List.length_append, List.length_mapIdx, List.length_take, List.length_drop]; omega
theorem relinkK_zero (o : List En) (f : Nat) (old new : List UInt8) : relinkK o f old new 0 = o := by simp [relinkK]
theorem relinkK_at (o : List En) (f : Nat) (old new : List UInt8) (k : Nat) (h : k < o.length) : (relinkK o f old new k)[k]'(by rw [relinkK_len]; exact h) = o[k] := by
  have hm : ((o.take k).mapIdx (relinkE f old new)).length = k := by rw [List.length_mapIdx, List.length_take]; omega
  simp only [relinkK]
  rw [List.getElem_append_right (by omega)]
  simp [hm]
theorem relinkK_step (o : List En) (f : Nat) (old new : List UInt8) (k : Nat) (h : k < o.length) : relinkK o f old new (k + 1) = (relinkK o f old new k).set k (relinkE f old new k o[k]) := by
  have hm : ((o.take k).mapIdx (relinkE f old new)).length = k := by rw [List.length_mapIdx, List.length_take]; omega
  rw [relinkK, relinkK, List.take_succ_eq_append_getElem h, List.mapIdx_append, List.set_append_right _ _ (by omega), hm, Nat.sub_self, List.drop_eq_getElem_cons h]
  simp [Nat.min_eq_left (Nat.le_of_lt h)]
  rw [List.drop_eq_getElem_cons h]
  rfl
theorem relinkK_all (o : List En) (f : Nat) (old new : List UInt8) : relinkK o f old new o.length = o.mapIdx (relinkE f old new) := by
  rw [relinkK, List.take_length, List.drop_length, List.append_nil]
theorem stepC_len (o : List En) (i : Nat) : (stepC o i).length = o.length := by
  rw [stepC]
  split
  · rfl
  · split
    · split
      · rfl
      · split
        · rfl
        · split
          · rw [relinkK_len, promo, List.length_set, List.length_set]
          · rfl
    · rfl
theorem stepsC_len (l : List En) (i : Nat) : (stepsC l i).length = l.length := by
  induction i with
  | zero => rw [stepsC, (sortL_perm l).length_eq]
  | succ i ih => rw [stepsC, stepC_len, ih]
/-- An entry when the least paths of A have been looked at. -/
def mix (l : List En) (A : List (List UInt8)) (e : En) : En := if isF e ∧ leastP l (fileE e) ∈ A then fin l e else e
theorem mix_path (l : List En) (A : List (List UInt8)) (e : En) : (mix l A e).path = e.path := by
  rw [mix]; split
  · exact fin_path l e
  · rfl
theorem fin_no {l : List En} {e : En} (h : ¬ isF e) : fin l e = e := by rw [fin, if_neg h]
theorem fndE_at {o : List En} (hn : (o.map En.path).Nodup) (m : Nat) (hm : m < o.length) (p : List UInt8) (hp : o[m].path = p) : fndE p o 0 = (m : Int) := by
  subst hp
  rcases fndE_get o[m].path o 0 with ⟨_, h2⟩ | ⟨j, hj, h1, h2⟩
  · rw [find_of hn (List.getElem_mem hm)] at h2; cases h2
  · rw [find_of hn (List.getElem_mem hm)] at h2
    have h2 := Option.some.inj h2
    have : m = j := nodup_paths hn hm hj (by rw [h2])
    rw [h1, this]; simp
theorem relink_eq (e : En) (h4 : e.kind = 4) (hd : e.data = []) (new : List UInt8) : ({ e with link := new } : En) = { e with kind := 4, link := new, data := [] } := by
  cases e; simp_all
theorem keep1 (e : En) (h1 : e.kind = 1) (hl : e.link = []) : ({ e with kind := 1, link := [], data := e.data } : En) = e := by
  cases e; simp_all
theorem keep4 (e : En) (h4 : e.kind = 4) (hd : e.data = []) : ({ e with kind := 4, link := e.link, data := [] } : En) = e := by
  cases e; simp_all
section
variable {l : List En} (h : Rt l)
include h
theorem step_mix (i : Nat) (hi : i < (sortL l).length) : stepC ((sortL l).map (mix l (((sortL l).take i).map En.path))) i = (sortL l).map (mix l (((sortL l).take (i + 1)).map En.path)) := by
  obtain ⟨S, HS⟩ : ∃ S, sortL l = S := ⟨_, rfl⟩
  have hperm := sortL_perm l
  have hsort := sortL_sorted l
  have huniq := sortL_uniq h
  rw [HS] at hi hperm hsort huniq ⊢
  have hmem : ∀ e, e ∈ S ↔ e ∈ l := fun e => hperm.mem_iff
  obtain ⟨A, HA⟩ : ∃ A, (S.take i).map En.path = A := ⟨_, rfl⟩
  have hA1 : (S.take (i + 1)).map En.path = A ++ [S[i].path] := by rw [List.take_succ_eq_append_getElem hi, List.map_append, HA]; rfl
  have hAm : ∀ q, q ∈ A ↔ ∃ (m : Nat) (hm : m < i), S[m].path = q := fun q => by
    rw [← HA, List.mem_map]
    constructor
    · rintro ⟨x, hx, rfl⟩
      obtain ⟨m, hm, rfl⟩ := List.mem_take_iff_getElem.1 hx
      exact ⟨m, by omega, rfl⟩
    · rintro ⟨m, hm, rfl⟩
      exact ⟨S[m], List.mem_take_iff_getElem.2 ⟨m, by omega, rfl⟩, rfl⟩
  rw [hA1, HA]
  have hlen : (S.map (mix l A)).length = S.length := List.length_map ..
  have hat : ∀ (j : Nat) (hj : j < S.length), (S.map (mix l A))[j]'(by rw [hlen]; exact hj) = mix l A S[j] := fun j hj => List.getElem_map ..
  have hou : ((S.map (mix l A)).map En.path).Nodup := by
    rw [List.map_map, show (En.path ∘ mix l A) = En.path from funext fun e => mix_path l A e]; exact huniq
  have hopt : (S.map (mix l A))[i]? = some (mix l A S[i]) := by rw [List.getElem?_eq_getElem (by rw [hlen]; exact hi), hat i hi]
  have hL : ∀ {e : En}, e ∈ S → isF e → Least l (fileE e) (leastP l (fileE e)) := fun he hf => leastP_is l _ ((hmem _).1 he) ⟨hf, rfl⟩
  have hself := List.getElem_mem hi
  -- the least path of a name's file is e0's: it is a name of that file
  have hgrp : ∀ {e : En}, e ∈ S → isF e → leastP l (fileE e) = S[i].path → isF S[i] ∧ fileE S[i] = fileE e := fun he hf heq => by
    obtain ⟨⟨x, hx, hg, hxp⟩, _⟩ := hL he hf
    have : x = S[i] := path_inj h.uniq hx ((hmem _).1 hself) (hxp.trans heq)
    subst this; exact hg
  have same : (∀ e ∈ S, mix l (A ++ [S[i].path]) e = mix l A e) → S.map (mix l A) = S.map (mix l (A ++ [S[i].path])) := fun hh => List.map_congr_left fun e he => (hh e he).symm
  -- unchanged when the new path is nobody's least
  have same_no : (¬ isF S[i] ∨ (isF S[i] ∧ leastP l (fileE S[i]) ≠ S[i].path)) → S.map (mix l A) = S.map (mix l (A ++ [S[i].path])) := fun hh => same fun e he => by
    rw [mix, mix]
    by_cases hf : isF e
    · have hne : leastP l (fileE e) ≠ S[i].path := fun heq => by
        obtain ⟨g1, g2⟩ := hgrp he hf heq
        rcases hh with hh | ⟨_, hh⟩
        · exact hh g1
        · rw [g2] at hh; exact hh heq
      have : (leastP l (fileE e) ∈ A ++ [S[i].path]) ↔ leastP l (fileE e) ∈ A := by simp [hne]
      simp only [this]
    · rw [if_neg (fun hc => hf hc.1), if_neg (fun hc => hf hc.1)]
  rw [stepC, hopt]
  simp only
  by_cases hF : isF S[i]
  rotate_left
  · have hm : mix l A S[i] = S[i] := by rw [mix, if_neg (fun hc => hF hc.1)]
    rw [hm, if_neg (fun h4 => hF (.inr h4))]
    exact same_no (.inl hF)
  obtain ⟨q, hq⟩ : ∃ q, leastP l (fileE S[i]) = q := ⟨_, rfl⟩
  have hLi := hL hself hF
  rw [hq] at hLi
  by_cases hqA : q ∈ A
  · obtain ⟨m, hm, hmq⟩ := (hAm q).1 hqA
    have hne : S[i].path ≠ q := fun e => by
      have := nodup_paths huniq (by omega) hi (hmq.trans e.symm)
      omega
    have hmx : mix l A S[i] = { S[i] with kind := 4, link := q, data := [] } := by
      rw [mix, if_pos ⟨hF, by rw [hq]; exact hqA⟩, fin, if_pos hF, hq, if_neg hne]
    have hfn : fndE q (S.map (mix l A)) 0 = (m : Int) := fndE_at hou m (by rw [hlen]; omega) q (by rw [hat m (by omega), mix_path]; exact hmq)
    rw [hmx, if_pos rfl]
    simp only
    rw [hfn, if_pos (by omega)]
    exact same_no (.inr ⟨hF, by rw [hq]; exact fun e => hne e.symm⟩)
  · -- its least path is its own
    have hqi : q = S[i].path := by
      obtain ⟨⟨x, hx, hg, hxp⟩, hmin⟩ := hLi
      obtain ⟨m, hm, rfl⟩ := List.getElem_of_mem ((hmem x).2 hx)
      rcases Nat.lt_trichotomy m i with hmi | hmi | hmi
      · exact absurd ((hAm q).2 ⟨m, hmi, hxp⟩) hqA
      · subst hmi; exact hxp.symm
      · have h1 : leP S[i] S[m] := List.pairwise_iff_getElem.1 hsort i m hi hm hmi
        have h2 := hmin S[i] ((hmem _).1 hself) ⟨hF, rfl⟩
        rw [← hxp] at h2
        rw [← hxp]
        exact less_anti h1 h2
    subst hqi
    have hm0 : mix l A S[i] = S[i] := by rw [mix, if_neg (fun hc => hqA (by rw [← hq]; exact hc.2))]
    rw [hm0]
    have hc0 := h.chk _ ((hmem _).1 hself)
    -- what becomes of the others
    have hoth : ∀ e ∈ S, ¬ (isF e ∧ fileE e = fileE S[i]) → mix l (A ++ [S[i].path]) e = mix l A e := fun e he hno => by
      rw [mix, mix]
      by_cases hf : isF e
      · have hne : leastP l (fileE e) ≠ S[i].path := fun heq => hno ⟨hf, (hgrp he hf heq).2.symm⟩
        have : (leastP l (fileE e) ∈ A ++ [S[i].path]) ↔ leastP l (fileE e) ∈ A := by simp [hne]
        simp only [this]
      · rw [if_neg (fun hc => hf hc.1), if_neg (fun hc => hf hc.1)]
    have hin : ∀ e ∈ S, isF e → fileE e = fileE S[i] → mix l (A ++ [S[i].path]) e = fin l e ∧ mix l A e = e := fun e he hf hfe => by
      rw [mix, mix, if_pos ⟨hf, by rw [hfe, hq]; simp⟩, if_neg (fun hc => hqA (by rw [hfe, hq] at hc; exact hc.2))]
      exact ⟨rfl, rfl⟩
    obtain ⟨x, hxl, hxp, hx1, _⟩ := h.file ((hmem _).1 hself) hF
    have hxS := (hmem x).2 hxl
    have hxF : isF x := .inl hx1
    have hxf : fileE x = fileE S[i] := by rw [file_of_kind1 hx1, hxp]
    have hk14 : S[i].kind = 1 ∨ S[i].kind = 4 := hF
    by_cases h4 : S[i].kind = 4
    · rw [if_pos h4]
      have hlk : S[i].link = fileE S[i] := (file_of_kind4 h4).symm
      obtain ⟨f, hf, rfl⟩ := List.getElem_of_mem hxS
      have hfn : fndE S[i].link (S.map (mix l A)) 0 = (f : Int) := fndE_at hou f (by rw [hlen]; exact hf) _ (by rw [hat f hf, mix_path, hlk]; exact hxp)
      have hfi : f ≠ i := fun e => by subst e; omega
      have hfge : i < f := by
        rcases Nat.lt_trichotomy f i with hlt | he | hgt
        · have h1 : leP S[f] S[i] := List.pairwise_iff_getElem.1 hsort f i hf hi hlt
          have h2 := hLi.2 S[f] hxl ⟨hxF, hxf⟩
          exact absurd (nodup_paths huniq hf hi (less_anti h2 h1)) hfi
        · exact absurd he hfi
        · exact hgt
      rw [hfn, if_neg (by omega)]
      simp only [Int.toNat_natCast]
      have hfopt : (S.map (mix l A))[f]? = some S[f] := by rw [List.getElem?_eq_getElem (by rw [hlen]; exact hf), hat f hf, (hin _ hxS hxF hxf).2]
      rw [hfopt]
      simp only
      have hpl : (promo (S.map (mix l A)) i f S[i] S[f]).length = S.length := by rw [promo, List.length_set, List.length_set, hlen]
      rw [if_pos hx1, show (S.map (mix l A)).length = (promo (S.map (mix l A)) i f S[i] S[f]).length by rw [hpl, hlen], relinkK_all]
      apply List.ext_getElem
      · rw [List.length_mapIdx, hpl, List.length_map]
      intro k hk1 hk2
      have hk : k < S.length := by rw [List.length_map] at hk2; exact hk2
      rw [List.getElem_mapIdx, List.getElem_map]
      by_cases hkf : k = f
      · subst hkf
        have e1 : (promo (S.map (mix l A)) i k S[i] S[k])[k]'(by rw [hpl]; exact hk) = { S[k] with kind := 4, link := S[i].path, data := [] } := by simp [promo]
        rw [e1, relinkE, if_neg (fun hc => hc.1 rfl), (hin _ hxS hxF hxf).1, fin, if_pos hxF, hxf, hq]
        have hne : S[k].path ≠ S[i].path := fun e => hfi (nodup_paths huniq hf hi e)
        rw [if_neg hne]
      · by_cases hki : k = i
        · subst hki
          have e1 : (promo (S.map (mix l A)) k f S[k] S[f])[k]'(by rw [hpl]; exact hk) = { S[k] with kind := 1, link := [], data := S[f].data } := by
            simp only [promo]
            rw [List.getElem_set_ne (fun e => hkf e.symm)]
            simp
          rw [e1, relinkE, if_neg (fun hc => absurd (show (1 : Int) = 4 from hc.2.1) (by decide)), (hin _ hself hF rfl).1, fin, if_pos hF, hq, if_pos rfl, dataOf_is h hxl hxp]
        · have e1 : (promo (S.map (mix l A)) i f S[i] S[f])[k]'(by rw [hpl]; exact hk) = mix l A S[k] := by
            simp only [promo]
            rw [List.getElem_set_ne (fun e => hkf e.symm), List.getElem_set_ne (fun e => hki e.symm), hat k hk]
          rw [e1]
          have hkS := List.getElem_mem hk
          by_cases hg : isF S[k] ∧ fileE S[k] = fileE S[i]
          · obtain ⟨m1, m2⟩ := hin _ hkS hg.1 hg.2
            have hk4 : S[k].kind = 4 := by
              rcases hg.1 with h1 | h4
              · have : S[k].path = S[f].path := by rw [← file_of_kind1 h1, hg.2, hxp]
                exact absurd (nodup_paths huniq hk hf this) hkf
              · exact h4
            have hkl : S[k].link = S[i].link := by rw [← file_of_kind4 hk4, hg.2, hlk]
            have hkd := chkE_data (h.chk _ ((hmem _).1 hkS)) (by omega)
            rw [m1, m2, relinkE, if_pos ⟨hkf, hk4, hkl⟩, fin, if_pos hg.1, hg.2, hq, if_neg (fun e => hki (nodup_paths huniq hk hi e))]
            exact relink_eq _ hk4 hkd _
          · rw [hoth _ hkS hg, relinkE, if_neg]
            rintro ⟨_, hc4, hcl⟩
            rw [mix] at hc4 hcl
            by_cases hc : isF S[k] ∧ leastP l (fileE S[k]) ∈ A
            · rw [if_pos hc, fin, if_pos hc.1] at hc4 hcl
              by_cases hp : S[k].path = leastP l (fileE S[k])
              · rw [if_pos hp] at hc4; exact absurd (show (1 : Int) = 4 from hc4) (by decide)
              · rw [if_neg hp] at hcl
                simp only at hcl
                obtain ⟨⟨y, hy, hyg, hyp⟩, _⟩ := hL hkS hc.1
                have : y = S[f] := path_inj h.uniq hy hxl (by rw [hyp, hcl, hlk, hxp])
                subst this
                exact hg ⟨hc.1, hyg.2.symm.trans hxf⟩
            · rw [if_neg hc] at hc4 hcl
              exact hg ⟨.inr hc4, by rw [file_of_kind4 hc4, hcl, hlk]⟩
    · have h1 : S[i].kind = 1 := hk14.resolve_right h4
      rw [if_neg h4]
      refine same fun e he => ?_
      by_cases hg : isF e ∧ fileE e = fileE S[i]
      · obtain ⟨m1, m2⟩ := hin e he hg.1 hg.2
        rw [m1, m2, fin, if_pos hg.1, hg.2, hq]
        have hfi := file_of_kind1 h1
        by_cases hp : e.path = S[i].path
        · have : e = S[i] := path_inj huniq he hself hp
          subst this
          rw [if_pos rfl, dataOf_is h ((hmem _).1 he) hfi.symm]
          have hl := chkE_link hc0 h1
          exact keep1 _ h1 hl
        · rw [if_neg hp]
          have he4 : e.kind = 4 := by
            rcases hg.1 with h1 | h4
            · exact absurd (by rw [← file_of_kind1 h1, hg.2, hfi]) hp
            · exact h4
          have hel : e.link = S[i].path := by rw [← file_of_kind4 he4, hg.2, hfi]
          have hed := chkE_data (h.chk _ ((hmem _).1 he)) (by omega)
          rw [← hel]
          exact keep4 _ he4 hed
      · exact hoth e he hg
/-- The document's way is the one. -/
theorem steps_mix (i : Nat) (hi : i ≤ (sortL l).length) : stepsC l i = (sortL l).map (mix l (((sortL l).take i).map En.path)) := by
  induction i with
  | zero =>
    rw [stepsC]
    have : ∀ e, mix l [] e = e := fun e => by rw [mix, if_neg (fun hc => by cases hc.2)]
    rw [List.take_zero, List.map_nil, show mix l [] = id from funext this, List.map_id]
  | succ i ih => rw [stepsC, ih (by omega), step_mix h i (by omega)]
theorem steps_is : stepsC l l.length = canonL l := by
  have hl := (sortL_perm l).length_eq
  rw [steps_mix h l.length (by omega), ← hl, List.take_length, canonL]
  apply List.map_congr_left
  intro e he
  rw [mix]
  by_cases hf : isF e
  · obtain ⟨⟨x, hx, _, hxp⟩, _⟩ := leastP_is l _ ((sortL_perm l).mem_iff.1 he) ⟨hf, rfl⟩
    rw [if_pos ⟨hf, List.mem_map.2 ⟨x, (sortL_perm l).mem_iff.2 hx, hxp⟩⟩]
  · rw [if_neg (fun hc => hf hc.1), fin_no hf]
end
end Go.Proofs.YtjhikglgaoncjaaDoor

/- The one order of entries, plain: the program's and the document's are one. -/
import Derived.Test.YtjhikglgaoncjaaDoorEnR
import Derived.Test.YtjhikglgaoncjaaDoorEnD
import Derived.Test.YtjhikglgaoncjaaDoorEoA
namespace Go.Proofs.YtjhikglgaoncjaaDoor
open Go.RowKit
theorem less_irrefl (a : List UInt8) : Op.bytesLess a a = false := by rw [bytesLess_eq]; simp
theorem less_trans {a b c : List UInt8} (h1 : Op.bytesLess a b = true) (h2 : Op.bytesLess b c = true) : Op.bytesLess a c = true := by
  rw [bytesLess_eq] at *
  simp only [decide_eq_true_eq] at *
  exact List.lt_trans h1 h2
theorem nless_trans {a b c : List UInt8} (h1 : Op.bytesLess b a = false) (h2 : Op.bytesLess c b = false) : Op.bytesLess c a = false := by
  rw [bytesLess_eq] at *
  simp only [decide_eq_false_iff_not, List.not_lt] at *
  exact List.le_trans h1 h2
theorem less_anti {a b : List UInt8} (h1 : Op.bytesLess a b = false) (h2 : Op.bytesLess b a = false) : a = b := by
  rw [bytesLess_eq] at *
  simp only [decide_eq_false_iff_not, List.not_lt] at *
  exact List.le_antisymm h2 h1
theorem less_asymm {a b : List UInt8} (h : Op.bytesLess a b = true) : Op.bytesLess b a = false := by
  cases h2 : Op.bytesLess b a with
  | false => rfl
  | true => have := less_trans h h2; rw [less_irrefl] at this; cases this
def leP (a b : En) : Prop := Op.bytesLess b.path a.path = false
theorem sorted_uniq {l1 l2 : List En} (hp : l1.Perm l2) (hu : (l2.map En.path).Nodup) (h1 : l1.Pairwise leP) (h2 : l2.Pairwise leP) : l1 = l2 :=
  hp.eq_of_pairwise (fun a b ha hb hab hba => path_inj hu (hp.mem_iff.1 ha) hb (less_anti hba hab)) h1 h2
/-- The place of a new entry. -/
def posE (x : En) : List En → Nat
  | [] => 0
  | y :: t => if Op.bytesLess y.path x.path = true then posE x t + 1 else 0
theorem posE_le (x : En) : ∀ l : List En, posE x l ≤ l.length
  | [] => Nat.le_refl _
  | y :: t => by rw [posE]; split <;> simp; exact posE_le x t
def insE (x : En) (l : List En) : List En := l.take (posE x l) ++ [x] ++ l.drop (posE x l)
theorem ins_perm (x : En) (l : List En) : (insE x l).Perm (x :: l) := by
  rw [insE, List.append_assoc, List.singleton_append]
  refine List.perm_middle.trans ?_
  rw [List.take_append_drop]
theorem ins_cons (x y : En) (t : List En) : insE x (y :: t) = if Op.bytesLess y.path x.path = true then y :: insE x t else x :: y :: t := by
  rw [insE, insE, posE]
  split <;> simp
theorem ins_sorted (x : En) : ∀ l : List En, l.Pairwise leP → (insE x l).Pairwise leP
  | [], _ => by simp [insE, posE]
  | y :: t, h => by
    rw [ins_cons]
    obtain ⟨h1, h2⟩ := List.pairwise_cons.1 h
    by_cases hb : Op.bytesLess y.path x.path = true
    · rw [if_pos hb]
      refine List.pairwise_cons.2 ⟨fun z hz => ?_, ins_sorted x t h2⟩
      rcases List.mem_cons.1 ((ins_perm x t).mem_iff.1 hz) with rfl | hz
      · exact less_asymm hb
      · exact h1 z hz
    · rw [if_neg hb]
      have hxy : leP x y := by simpa [leP] using hb
      refine List.pairwise_cons.2 ⟨fun z hz => ?_, h⟩
      rcases List.mem_cons.1 hz with rfl | hz
      · exact hxy
      · exact nless_trans hxy (h1 z hz)
/-- The first i entries, sorted by their paths. -/
def sortK (l : List En) : Nat → List En
  | 0 => []
  | i + 1 => match l[i]? with
    | none => sortK l i
    | some x => insE x (sortK l i)
theorem sortK_step (l : List En) (i : Nat) (h : i < l.length) : sortK l (i + 1) = insE l[i] (sortK l i) := by
  rw [sortK, List.getElem?_eq_getElem h]
theorem sortK_is (l : List En) : ∀ i, i ≤ l.length → (sortK l i).Perm (l.take i) ∧ (sortK l i).Pairwise leP
  | 0, _ => ⟨by simp [sortK], by simp [sortK]⟩
  | i + 1, h => by
    obtain ⟨h1, h2⟩ := sortK_is l i (by omega)
    rw [sortK_step l i h]
    refine ⟨(ins_perm _ _).trans ?_, ins_sorted _ _ h2⟩
    rw [List.take_succ_eq_append_getElem h]
    exact (List.Perm.cons _ h1).trans (List.perm_append_singleton _ _).symm
theorem sortK_len (l : List En) (i : Nat) (h : i ≤ l.length) : (sortK l i).length = i := by
  rw [(sortK_is l i h).1.length_eq, List.length_take]; omega
def sortL (l : List En) : List En := sortK l l.length
theorem sortL_perm (l : List En) : (sortL l).Perm l := by
  have := (sortK_is l l.length (Nat.le_refl _)).1
  rwa [List.take_length] at this
theorem sortL_sorted (l : List En) : (sortL l).Pairwise leP := (sortK_is l l.length (Nat.le_refl _)).2
/-- Is it a name of that file? -/
def inG (p : List UInt8) (e : En) : Prop := isF e ∧ fileE e = p
instance (p : List UInt8) (e : En) : Decidable (inG p e) := inferInstanceAs (Decidable (_ ∧ _))
/-- Is that the least path of the names of a file? -/
def Least (l : List En) (p q : List UInt8) : Prop := (∃ e ∈ l, inG p e ∧ e.path = q) ∧ ∀ e ∈ l, inG p e → Op.bytesLess e.path q = false
theorem least_uniq {l : List En} {p q q' : List UInt8} (h : Least l p q) (h' : Least l p q') : q = q' := by
  obtain ⟨⟨e, he, hg, rfl⟩, h2⟩ := h
  obtain ⟨⟨e', he', hg', rfl⟩, h2'⟩ := h'
  exact less_anti (h2' e he hg) (h2 e' he' hg')
def minP : List UInt8 → List (List UInt8) → List UInt8
  | q, [] => q
  | q, y :: t => minP (if Op.bytesLess y q = true then y else q) t
theorem minP_is : ∀ (t : List (List UInt8)) (q : List UInt8), (minP q t = q ∨ minP q t ∈ t) ∧ Op.bytesLess q (minP q t) = false ∧ ∀ y ∈ t, Op.bytesLess y (minP q t) = false
  | [], q => ⟨.inl rfl, less_irrefl q, fun y h => by cases h⟩
  | y :: t, q => by
    rw [minP]
    by_cases hb : Op.bytesLess y q = true
    · rw [if_pos hb]
      obtain ⟨h1, h2, h3⟩ := minP_is t y
      refine ⟨.inr (h1.elim (fun e => by rw [e]; simp) fun h => List.mem_cons_of_mem _ h), nless_trans h2 (less_asymm hb), fun z hz => ?_⟩
      rcases List.mem_cons.1 hz with rfl | hz
      · exact h2
      · exact h3 z hz
    · rw [if_neg hb]
      obtain ⟨h1, h2, h3⟩ := minP_is t q
      refine ⟨h1.imp id fun h => List.mem_cons_of_mem _ h, h2, fun z hz => ?_⟩
      rcases List.mem_cons.1 hz with rfl | hz
      · exact nless_trans h2 (by simpa using hb)
      · exact h3 z hz
def leastP (l : List En) (p : List UInt8) : List UInt8 := match (l.filter fun e => decide (inG p e)).map En.path with
  | [] => []
  | q :: t => minP q t
theorem leastP_is (l : List En) (p : List UInt8) {e : En} (he : e ∈ l) (hg : inG p e) : Least l p (leastP l p) := by
  have hm : ∀ x, x ∈ l.filter (fun e => decide (inG p e)) ↔ x ∈ l ∧ inG p x := fun x => by rw [List.mem_filter, decide_eq_true_eq]
  have hme := (hm e).2 ⟨he, hg⟩
  rw [leastP]
  generalize l.filter (fun e => decide (inG p e)) = F at hm hme
  cases F with
  | nil => cases hme
  | cons x t =>
    rw [List.map_cons]
    obtain ⟨h1, h2, h3⟩ := minP_is (t.map En.path) x.path
    constructor
    · rcases h1 with h1 | h1
      · obtain ⟨hx1, hx2⟩ := (hm x).1 (by simp)
        exact ⟨x, hx1, hx2, h1.symm⟩
      · obtain ⟨y, hy, hye⟩ := List.mem_map.1 h1
        obtain ⟨hx1, hx2⟩ := (hm y).1 (by simp [hy])
        exact ⟨y, hx1, hx2, hye⟩
    · intro y hy hgy
      rcases List.mem_cons.1 ((hm y).2 ⟨hy, hgy⟩) with rfl | hyt
      · exact h2
      · exact h3 _ (List.mem_map.2 ⟨y, hyt, rfl⟩)
def dataOf (l : List En) (p : List UInt8) : List UInt8 := ((findE l p).map En.data).getD []
/-- An entry as it will be. -/
def fin (l : List En) (e : En) : En :=
  if isF e then (if e.path = leastP l (fileE e) then { e with kind := 1, link := [], data := dataOf l (fileE e) } else { e with kind := 4, link := leastP l (fileE e), data := [] }) else e
theorem fin_path (l : List En) (e : En) : (fin l e).path = e.path := by
  rw [fin]; split
  · split <;> rfl
  · rfl
/-- Each name of a file has its file on the list. -/
theorem Rt.file {l : List En} (h : Rt l) {e : En} (he : e ∈ l) (hf : isF e) : ∃ x ∈ l, x.path = fileE e ∧ x.kind = 1 ∧ alikeE e x = true := by
  have hal : ∀ x : En, alikeE x x = true := fun x => by simp [alikeE]
  rcases hf with h1 | h4
  · exact ⟨e, he, by rw [fileE, if_neg (by omega)], h1, hal e⟩
  · obtain ⟨k, hk, rfl⟩ := List.getElem_of_mem he
    obtain ⟨j, hj, h1, h2, h3⟩ := h.hard k hk h4
    exact ⟨l[j], List.getElem_mem _, by rw [fileE, if_pos h4]; exact h1, h2, h3⟩
theorem file_of_kind1 {e : En} (h : e.kind = 1) : fileE e = e.path := by rw [fileE, if_neg (by omega)]
theorem file_of_kind4 {e : En} (h : e.kind = 4) : fileE e = e.link := by rw [fileE, if_pos h]
theorem dataOf_is {l : List En} (h : Rt l) {x : En} (hx : x ∈ l) {p : List UInt8} (hp : x.path = p) : dataOf l p = x.data := by
  subst hp
  rw [dataOf, find_of h.uniq hx]; rfl
/-- What a right entry's check gives: no link but of links, no data but of files. -/
theorem chkE_link {e : En} (h : chkE e = 0) (h1 : e.kind = 1) : e.link = [] := by
  refine Decidable.byContradiction fun hn => ?_
  rw [chkE] at h
  split at h
  · cases h
  · split at h
    · cases h
    · split at h
      · cases h
      · split at h
        · cases h
        · split at h
          · cases h
          · split at h
            · cases h
            · rw [if_pos ⟨by omega, by omega, hn⟩] at h; cases h
theorem chkE_data {e : En} (h : chkE e = 0) (h1 : e.kind ≠ 1) : e.data = [] := by
  refine Decidable.byContradiction fun hn => ?_
  rw [chkE] at h
  split at h
  · cases h
  · split at h
    · cases h
    · split at h
      · cases h
      · split at h
        · cases h
        · split at h
          · cases h
          · split at h
            · cases h
            · split at h
              · cases h
              · rw [if_pos ⟨h1, hn⟩] at h; cases h
theorem leastM_is (l : List En) : ∀ (i : Nat), i ≤ l.length → ∀ p, (leastM l i p = none ∧ ∀ j (h : j < l.length), j < i → ¬ inG p l[j]) ∨
    ∃ (k : Nat) (h : k < l.length), leastM l i p = some (k : Int) ∧ k < i ∧ inG p l[k] ∧ ∀ j (h : j < l.length), j < i → inG p l[j] → Op.bytesLess l[j].path l[k].path = false
  | 0, _, p => .inl ⟨rfl, fun j _ hj => by omega⟩
  | i + 1, hi, p => by
    have ih := leastM_is l i (by omega)
    rw [leastM_step l i (by omega)]
    obtain ⟨e, He⟩ : ∃ e, e = l[i] := ⟨_, rfl⟩
    rw [← He]
    have hji : ∀ j, j < i + 1 → j < i ∨ j = i := fun j hj => by omega
    by_cases hc : isF e ∧ newLeast l (leastM l i) e = true
    · rw [if_pos hc]
      simp only [putM]
      by_cases hp : p = fileE e
      · subst hp
        rw [if_pos rfl]
        refine .inr ⟨i, by omega, rfl, by omega, by rw [← He]; exact ⟨hc.1, rfl⟩, fun j hj hj2 hg => ?_⟩
        rcases hji j hj2 with hj3 | hj3
        · have hn := hc.2
          rw [newLeast] at hn
          rcases ih (fileE e) with ⟨h1, h2⟩ | ⟨k, hk, h1, h2, h3, h4⟩
          · exact absurd hg (h2 j hj hj3)
          · rw [h1] at hn
            have hn : Op.bytesLess e.path (pathAt l (k : Int)) = true := hn
            have hpa : pathAt l (k : Int) = l[k].path := by simp [pathAt, hk]
            rw [hpa] at hn
            rw [← He]
            exact nless_trans (less_asymm hn) (h4 j hj hj3 hg)
        · subst hj3; exact less_irrefl _
      · rw [if_neg hp]
        rcases ih p with ⟨h1, h2⟩ | ⟨k, hk, h1, h2, h3, h4⟩
        · refine .inl ⟨h1, fun j hj hj2 hg => ?_⟩
          rcases hji j hj2 with hj3 | hj3
          · exact h2 j hj hj3 hg
          · subst hj3; rw [← He] at hg; exact hp hg.2.symm
        · refine .inr ⟨k, hk, h1, by omega, h3, fun j hj hj2 hg => ?_⟩
          rcases hji j hj2 with hj3 | hj3
          · exact h4 j hj hj3 hg
          · subst hj3; rw [← He] at hg; exact absurd hg.2.symm hp
    · rw [if_neg hc]
      rcases ih p with ⟨h1, h2⟩ | ⟨k, hk, h1, h2, h3, h4⟩
      · refine .inl ⟨h1, fun j hj hj2 hg => ?_⟩
        rcases hji j hj2 with hj3 | hj3
        · exact h2 j hj hj3 hg
        · subst hj3
          rw [← He] at hg
          refine hc ⟨hg.1, ?_⟩
          rw [newLeast, hg.2, h1]
      · refine .inr ⟨k, hk, h1, by omega, h3, fun j hj hj2 hg => ?_⟩
        rcases hji j hj2 with hj3 | hj3
        · exact h4 j hj hj3 hg
        · subst hj3
          rw [← He] at hg ⊢
          cases hb : Op.bytesLess e.path l[k].path with
          | false => rfl
          | true =>
            refine absurd ⟨hg.1, ?_⟩ hc
            rw [newLeast, hg.2, h1]
            show Op.bytesLess e.path (pathAt l (k : Int)) = true
            rw [show pathAt l (k : Int) = l[k].path by simp [pathAt, hk]]; exact hb
theorem dataM_is (l : List En) : ∀ (i : Nat), i ≤ l.length → ∀ p, (dataM l i p = none ∧ ∀ j (h : j < l.length), j < i → ¬ (l[j].kind = 1 ∧ l[j].path = p)) ∨
    ∃ (k : Nat) (h : k < l.length), dataM l i p = some (k : Int) ∧ k < i ∧ l[k].kind = 1 ∧ l[k].path = p
  | 0, _, p => .inl ⟨rfl, fun j _ hj => by omega⟩
  | i + 1, hi, p => by
    have ih := dataM_is l i (by omega) p
    rw [dataM_step l i (by omega)]
    have hji : ∀ j, j < i + 1 → j < i ∨ j = i := fun j hj => by omega
    have keep : (∀ (h : ¬ (l[i].kind = 1 ∧ l[i].path = p)), (dataM l i p = none ∧ ∀ j (h : j < l.length), j < i + 1 → ¬ (l[j].kind = 1 ∧ l[j].path = p)) ∨ ∃ (k : Nat) (h : k < l.length), dataM l i p = some (k : Int) ∧ k < i + 1 ∧ l[k].kind = 1 ∧ l[k].path = p) := fun hno => by
      rcases ih with ⟨h1, h2⟩ | ⟨k, hk, h1, h2, h3⟩
      · refine .inl ⟨h1, fun j hj hj2 hg => ?_⟩
        rcases hji j hj2 with hj3 | hj3
        · exact h2 j hj hj3 hg
        · subst hj3; exact hno hg
      · exact .inr ⟨k, hk, h1, by omega, h3⟩
    by_cases hc : l[i].kind = 1
    · rw [if_pos hc]
      simp only [putM]
      by_cases hp : p = l[i].path
      · rw [if_pos hp]
        exact .inr ⟨i, by omega, rfl, by omega, hc, hp.symm⟩
      · rw [if_neg hp]
        exact keep fun h => hp h.2.symm
    · rw [if_neg hc]
      exact keep fun h => hc h.1
theorem entAt_of (l : List En) (k : Nat) (h : k < l.length) : entAt l k = l[k] := by simp [entAt, h]
/-- The program's way is the one. -/
theorem outE_fin {l : List En} (h : Rt l) (i : Nat) (hi : i < l.length) : outE l i l[i] = fin l l[i] := by
  rw [outE, fin]
  by_cases hF : isF l[i]
  · rw [if_pos hF, if_pos hF]
    have hme := List.getElem_mem hi
    obtain ⟨p, hp⟩ : ∃ p, fileE l[i] = p := ⟨_, rfl⟩
    rw [hp]
    have hL := leastP_is l p hme ⟨hF, hp⟩
    rcases leastM_is l l.length (Nat.le_refl _) p with ⟨_, h2⟩ | ⟨k, hk, h1, _, h3, h4⟩
    · exact absurd ⟨hF, hp⟩ (h2 i hi hi)
    · have hLk : Least l p l[k].path := ⟨⟨l[k], List.getElem_mem hk, h3, rfl⟩, fun e he hg => by
        obtain ⟨j, hj, rfl⟩ := List.getElem_of_mem he
        exact h4 j hj hj hg⟩
      have hlp := least_uniq hL hLk
      have ha : atN (leastM l l.length) p = k := by rw [atN, h1]; rfl
      rw [ha, hlp, entAt_of l k hk]
      have hiff : (i = k) ↔ (l[i].path = l[k].path) := ⟨fun e => by subst e; rfl, fun e => nodup_paths h.uniq hi hk e⟩
      obtain ⟨x, hx, hxp, hx1, _⟩ := h.file hme hF
      rw [hp] at hxp
      have hd : (entAt l (atN (dataM l l.length) p)).data = dataOf l p := by
        rcases dataM_is l l.length (Nat.le_refl _) p with ⟨_, d2⟩ | ⟨m, hm, d1, _, d3, d4⟩
        · obtain ⟨j, hj, rfl⟩ := List.getElem_of_mem hx
          exact absurd ⟨hx1, hxp⟩ (d2 j hj hj)
        · have hb : atN (dataM l l.length) p = m := by rw [atN, d1]; rfl
          rw [hb, entAt_of l m hm, dataOf_is h (List.getElem_mem hm) d4]
      rw [hd]
      by_cases hik : i = k
      · rw [if_pos hik, if_pos (hiff.1 hik)]
      · rw [if_neg hik, if_neg (fun e => hik (hiff.2 e))]
  · rw [if_neg hF, if_neg hF]
theorem outK_fin {l : List En} (h : Rt l) : outK l l.length = l.map (fin l) := by
  rw [outK, List.take_length, List.drop_length, List.append_nil]
  apply List.ext_getElem
  · simp
  · intro i h1 h2
    have hi : i < l.length := by simpa using h1
    simp only [List.getElem_mapIdx, List.getElem_map]
    exact outE_fin h i hi
/-- The list in the one order. -/
def canonL (l : List En) : List En := (sortL l).map (fin l)
theorem map_paths (l L : List En) : (L.map (fin l)).map En.path = L.map En.path := by
  rw [List.map_map]
  apply List.map_congr_left
  intro e _
  exact fin_path l e
theorem sortL_uniq {l : List En} (h : Rt l) : ((sortL l).map En.path).Nodup := (List.Perm.nodup_iff ((sortL_perm l).map En.path)).2 h.uniq
theorem canonL_sorted (l : List En) : (canonL l).Pairwise leP := by
  rw [canonL, List.pairwise_map]
  refine (sortL_sorted l).imp fun {a b} hab => ?_
  show Op.bytesLess (fin l b).path (fin l a).path = false
  rw [fin_path, fin_path]; exact hab
/-- What the program hands out is that list. -/
theorem canon_is {l l' : List En} (h : Rt l) (hp : l'.Perm (outK l l.length)) (hs : l'.Pairwise (fun a b => Op.bytesLess b.path a.path = false)) : l' = canonL l := by
  rw [outK_fin h] at hp
  refine sorted_uniq (hp.trans ((sortL_perm l).map (fin l)).symm) ?_ hs (canonL_sorted l)
  rw [canonL, map_paths]; exact sortL_uniq h
end Go.Proofs.YtjhikglgaoncjaaDoor

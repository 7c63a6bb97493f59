/- Rows of entries sorted by their paths: the walk of Canon's second closure, slices.SortFunc at a row of entries of one's own. -/
import Derived.Test.YtjhikglgaoncjaaDoorEnP
import Derived.Test.YtjhikglgaoncjaaDoorEnZ
import Derived.Test.YtjhikglgaoncjaaDoorShelfS
import Derived.Shelf.SlSortCmp.NoneTotal
import Derived.Sort.Walk0
namespace Go.Proofs.YtjhikglgaoncjaaDoor
open Go.RowKit Go.Sort Go.Lib Go.Shelf
/-- A slice, by its three parts. -/
abbrev Tri := Option Addr × Nat × Nat
def triV (t : Tri) : Value := .slice t.1 t.2.1 t.2.2
def triOf : Value → Tri
  | .slice a n c => (a, n, c)
  | _ => (none, 0, 0)
def encP (x : En × Tri) : List Value := entC x.1 (triV x.2)
theorem encP_len (x : En × Tri) : (encP x).length = 10 := rfl
theorem encP_one (x : En × Tri) : ∀ v ∈ encP x, v.oneCell' = true := by
  intro v hv
  simp only [encP, entC, List.mem_cons, List.not_mem_nil, or_false] at hv
  rcases hv with rfl | rfl | rfl | rfl | rfl | rfl | rfl | rfl | rfl | rfl <;> rfl
def cfP (x y : En × Tri) : Int := cmpS x.1.path y.1.path
theorem ltP (x y : En × Tri) : ltOf cfP x y = Op.bytesLess x.1.path y.1.path := by
  unfold ltOf cfP cmpS
  cases h : Op.bytesLess x.1.path y.1.path with
  | true => simp
  | false =>
    by_cases h2 : x.1.path = y.1.path
    · simp [h2]
    · simp [h2]
theorem swoP : SWO (ltOf cfP) where
  irrefl x := by rw [ltP, bytesLess_eq]; simp
  trans x y z h1 h2 := by
    rw [ltP, bytesLess_eq] at *
    simp only [decide_eq_true_eq] at *
    exact List.lt_trans h1 h2
  ntrans x y z h1 h2 := by
    rw [ltP, bytesLess_eq] at *
    simp only [decide_eq_false_iff_not, List.not_lt] at *
    exact List.le_trans h2 h1
set_option maxRecDepth 20000 in
set_option maxHeartbeats 4000000 in
theorem canon2_any (x y : En × Tri) (W : World) : Calls Tryd.prog 35 #[.agg (encP x).toArray, .agg (encP y).toArray] W fun e w' => e = .returned (.int .i64 (cfP x y)) ∧ ∃ q os', w' = grow (W.drewN q) os' := by
  have hcon := fun W' => cmps_any x.1.path y.1.path W'
  rw [cfP]
  generalize cmpS x.1.path y.1.path = r at hcon ⊢
  simp only [encP, entC]
  go_enter Tryd.func35, Tryd.ntmps35
  go_wp2_with fail
  refine (hcon _).mono ?_
  rintro e w1 ⟨rfl, rfl⟩
  go_wp2_with fail
  go_ret
  exact ⟨rfl, 0, _, by rw [alloc_eq_grow, alloc_eq_grow, grow_grow]; rfl⟩
theorem cmpLaysP (blk off size : Nat) (w : World) : CmpLays Tryd.prog 35 #[] encP 10 cfP blk off size w :=
  fun _ _ _ _ x y => canon2_any x y _
/-- The pairs of a row. -/
def pairsL (l : List En) (f : Nat → Value) : List (En × Tri) := List.ofFn fun j : Fin l.length => (l[j], triOf (f j))
theorem pairsL_len (l : List En) (f : Nat → Value) : (pairsL l f).length = l.length := by simp [pairsL]
theorem pairsL_fst (l : List En) (f : Nat → Value) : (pairsL l f).map Prod.fst = l := by
  apply List.ext_getElem
  · simp [pairsL]
  · intro i h1 h2; simp [pairsL]
theorem pairsL_at (l : List En) (f : Nat → Value) (j : Nat) (h : j < l.length) : (pairsL l f)[j]'(by rw [pairsL_len]; exact h) = (l[j], triOf (f j)) := by simp [pairsL]
theorem tri_of {v : Value} {A : Option Addr} {n c : Nat} (h : v = .slice A n c) : triV (triOf v) = v := by subst h; rfl
def fstL (L : List (En × Tri)) : List En := L.map Prod.fst
def sndF (L : List (En × Tri)) (j : Nat) : Value := triV (L.getD j default).2
theorem flat_at (L : List (En × Tri)) (t : Nat) (h : t < L.length * 10) : (flatK encP 10 L.toArray)[t]! = (encP (L[t / 10]'(by omega)))[t % 10]'(by rw [encP_len]; omega) := by
  rw [get_flatK _ _ _ _ (by simpa using h)]
  have h1 : t / 10 < L.toArray.size := by simp; omega
  rw [getElem!_pos L.toArray (t / 10) h1, getElem!_pos _ _ (by rw [encP_len]; omega)]
  simp
theorem ofC_pairs (L : List (En × Tri)) (t : Nat) (h : t < L.length * 10) : (ofC (fstL L) (sndF L))[t]? = some (flatK encP 10 L.toArray)[t]! := by
  have hl : (fstL L).length = L.length := List.length_map ..
  have e : t = t / 10 * 10 + t % 10 := by omega
  have h10 : t / 10 < L.length := by omega
  have := ofC_at (fstL L) (sndF L) (t / 10) (by rw [hl]; exact h10) (t % 10) (by omega)
  rw [← e] at this
  rw [this, flat_at L t h]
  have e1 : (fstL L)[t / 10]'(by rw [hl]; exact h10) = (L[t / 10]).1 := by simp [fstL]
  have e2 : sndF L (t / 10) = triV (L[t / 10]).2 := by simp [sndF, h10]
  rw [e1, e2]
  exact List.getElem?_eq_getElem (by show t % 10 < 10; omega)
theorem EO.tri {B : Nat} {w : World} {v : Value} {l : List En} {f : Nat → Value} (h : EO B w v l f) (j : Nat) (hj : j < l.length) : triV (triOf (f j)) = f j := by
  obtain ⟨A, c, e, _⟩ := h.dat j hj
  exact tri_of e
theorem ofC_ext (l : List En) (f g : Nat → Value) (h : ∀ j, j < l.length → f j = g j) : ofC l f = ofC l g := by
  rw [ofC, ofC]
  congr 1
  apply List.ext_getElem
  · simp
  · intro i h1 h2
    have hi : i < l.length := by simpa using h1
    simp only [List.getElem_ofFn]
    rw [h i hi]
theorem sndF_pairs {B : Nat} {w : World} {v : Value} {l : List En} {f : Nat → Value} (h : EO B w v l f) (j : Nat) (hj : j < l.length) : sndF (pairsL l f) j = f j := by
  have hj' : j < (pairsL l f).length := by rw [pairsL_len]; exact hj
  rw [sndF, List.getD_eq_getElem?_getD, List.getElem?_eq_getElem hj', Option.getD_some, pairsL_at l f j hj]
  exact h.tri j hj
theorem EO.holds {B : Nat} {w : World} {l : List En} {f : Nat → Value} {g n cap : Nat} (h : EO B w (.slice (some ⟨g, 0, none⟩) n cap) l f) : HoldsK encP 10 w g 0 (pairsL l f).toArray := by
  intro t ht
  have ht : t < l.length * 10 := by simpa [pairsL_len] using ht
  have hn : n = l.length := by
    obtain ⟨_, _, e⟩ := own_form h.row
    injection e
  subst hn
  have h1 := h.row.cellAt t (by omega)
  have h2 := ofC_pairs (pairsL l f) t (by rw [pairsL_len]; exact ht)
  have h3 : ofC (fstL (pairsL l f)) (sndF (pairsL l f)) = ofC l f := by
    rw [fstL, pairsL_fst]
    exact ofC_ext l _ _ fun j hj => sndF_pairs h j hj
  rw [h3] at h2
  refine ⟨by rw [Nat.zero_add]; exact h1.trans h2, ?_⟩
  rcases h.row.2 with ⟨h0, _⟩ | ⟨g', cap', cur, hv, _, hg, _⟩
  · cases h0
  · injection hv with e1 e2 e3
    injection e1 with e1
    injection e1 with e1
    subst e1
    have hb : Blk w g tE cur := hg
    exact hb.frozen _
theorem kept_sort (w : World) (g n : Nat) (d : Array (En × Tri)) (os : Array Obj) : Kept (fun b => b = g) w (sortWorldK encP 10 w g 0 n d os) := by
  refine ⟨rfl, rfl, rfl, by simp [sortWorldK, putRowK, Sort.ahead], fun k hk hne => ?_⟩
  rw [sortWorldK, heap_grow_old _ _ (by simpa [putRowK, Sort.ahead] using hk)]
  have : g ≠ k := fun e => hne e.symm
  simp [putRowK, putRow, mapBlock, Sort.ahead, Array.getElem?_modify, this]
theorem EO.sorted {B : Nat} {w : World} {l : List En} {f : Nat → Value} {g n cap m : Nat} {os : Array Obj} (h : EO B w (.slice (some ⟨g, 0, none⟩) n cap) l f) (D : List (En × Tri)) (hp : D.Perm (pairsL l f)) :
    EO B (sortWorldK encP 10 w g 0 m D.toArray os) (.slice (some ⟨g, 0, none⟩) n cap) (fstL D) (sndF D) := by
  have hn : n = l.length := by
    obtain ⟨_, _, e⟩ := own_form h.row
    injection e
  subst hn
  have hDl : D.length = l.length := by rw [hp.length_eq, pairsL_len]
  have hl : (fstL D).length = l.length := by rw [fstL, List.length_map, hDl]
  refine ⟨⟨by rw [ofC_len], ?_⟩, fun j hj => ?_⟩
  · rcases h.row.2 with ⟨h0, _⟩ | ⟨g', cap', cur, hv, hb, hg, h1, h2, h3, h4⟩
    · cases h0
    · injection hv with e1 e2 e3
      injection e1 with e1
      injection e1 with e1
      subst e1 e3
      refine .inr ⟨g, cap, putCells id 0 (flatK encP 10 D.toArray) cur, by rw [hl], hb, ?_, by rw [hl]; exact h1, h2, by simp [putCells, h3], ?_⟩
      · have hgs : g < w.heap.size := (Array.getElem?_eq_some_iff.1 hg).1
        rw [sortWorldK, heap_grow_old _ _ (by simpa [putRowK, Sort.ahead] using hgs)]
        simp [putRowK, putRow, mapBlock, Sort.ahead, Array.getElem?_modify, hg, onCells]
      · rw [hl]
        apply List.ext_getElem?
        intro t
        by_cases ht : t < l.length * 10
        · rw [List.getElem?_take_of_lt ht, Array.getElem?_toList, ofC_pairs D t (by rw [hDl]; exact ht)]
          have ht2 : t < cur.size := by rw [h3]; omega
          simp [putCells, hDl, ht, ht2]
        · rw [List.getElem?_take_eq_none (by omega), List.getElem?_eq_none (by rw [ofC_len, hl]; omega)]
  · have hjD : j < D.length := by rw [hDl, ← hl]; exact hj
    have hmem : D[j] ∈ pairsL l f := hp.mem_iff.1 (List.getElem_mem hjD)
    obtain ⟨i, hi, e⟩ := List.getElem_of_mem hmem
    have hil : i < l.length := by rw [pairsL_len] at hi; exact hi
    rw [pairsL_at l f i hil] at e
    have e1 : (fstL D)[j] = l[i] := by simp [fstL, ← e]
    have e2 : sndF D j = f i := by
      rw [sndF, List.getD_eq_getElem?_getD, List.getElem?_eq_getElem hjD, Option.getD_some, ← e]
      exact h.tri i hil
    rw [e1, e2]
    refine (h.dat i hil).keep good_byte ((kept_sort w g m D.toArray os).mono fun k _ hk => ?_)
    subst hk; rfl
theorem array_pairs (L : List (En × Tri)) (i : Nat) (h : i < L.length) : L.toArray[i]! = L[i] := by
  rw [getElem!_pos L.toArray i (by simpa using h)]; simp
set_option maxHeartbeats 4000000 in
theorem sort_any (l : List En) (f : Nat → Value) (B : Nat) (w : World) (A : Option Addr) (n cap : Nat) (h : EO B w (.slice A n cap) l f) (hB : B ≤ w.heap.size) (hl : l.length ≤ 1000000) :
    Calls Tryd.prog 34 #[.slice A n cap, .func (.func 35) #[] #[]] w fun e w' => (e = .returned (.tuple #[]) ∧ ∃ l' f', EO B w' (.slice A n cap) l' f' ∧ l'.Perm l ∧ l'.Pairwise (fun a b => Op.bytesLess b.path a.path = false) ∧ ∀ j, j < l'.length → ∃ i, i < l.length ∧ f' j = f i) ∧ Below B w w' := by
  have hn : n = l.length := by
    obtain ⟨_, _, e⟩ := own_form h.row
    injection e
  by_cases hne : l.length = 0
  · have hl0 : l = [] := List.eq_nil_of_length_eq_zero hne
    subst hl0
    subst hn
    refine (AnyF.slices_SortFunc_none Tryd.sortEnt A cap _ w).mono ?_
    rintro e w' ⟨rfl, rfl⟩
    exact ⟨⟨rfl, [], f, h, List.Perm.refl _, List.Pairwise.nil, fun j hj => by simp at hj⟩, Below.refl _ _⟩
  · obtain ⟨g, cap', hv, hBg, h1, h2, cs, hb⟩ := h.form (by omega)
    injection hv with e1 e2 e3
    subst e1 e3
    have eg : ∀ args w, (callFunc 35 args).run Tryd.prog w = .ok (.enter 35 args) w := enters_of Tryd.func35 (by kernel_rfl) rfl
    have hsz : (pairsL l f).toArray.size = n := by rw [hn]; simp [pairsL_len]
    have hcon := AnyQ.slices_SortFunc Tryd.sortEnt 10 Tryd.isAgg24 Tryd.sizeOf24 encP encP_len encP_one cfP swoP 35 #[] g 0 cap (pairsL l f).toArray w eg (cmpLaysP g 0 _ w) h.holds hb.lt (by rw [hsz]; omega)
    rw [hsz] at hcon
    refine Calls.mono hcon ?_
    rintro e w' ⟨rfl, d', m, os, hp, hs, rfl⟩
    obtain ⟨hp1, _, hp3⟩ := hp
    have hd : d'.size = n := by rw [hp1, hsz]
    rw [show d'.extract 0 n = d' by rw [← hd]; simp, show (pairsL l f).toArray.extract 0 n = (pairsL l f).toArray by rw [← hsz]; simp] at hp3
    have hp3 : d'.toList.Perm (pairsL l f) := hp3
    have h5 := h.sorted (m := m) (os := os) d'.toList hp3
    refine ⟨⟨rfl, fstL d'.toList, sndF d'.toList, h5, ?_, ?_, fun j hj => ?_⟩, (kept_sort w g m d' os).below hB fun k _ hk => by subst hk; exact hBg⟩
    · have := hp3.map Prod.fst
      rw [pairsL_fst] at this
      exact this
    · rw [fstL, List.pairwise_map, List.pairwise_iff_getElem]
      intro i j hi hj hij
      have := hs i j (Nat.zero_le _) hij (by rw [Array.length_toList, hd] at hj; exact hj)
      rw [ltP] at this
      rwa [← array_pairs d'.toList i hi, ← array_pairs d'.toList j hj]
    · have hjD : j < d'.toList.length := by rw [fstL, List.length_map] at hj; exact hj
      have hmem : d'.toList[j] ∈ pairsL l f := hp3.mem_iff.1 (List.getElem_mem hjD)
      obtain ⟨i, hi, e⟩ := List.getElem_of_mem hmem
      have hil : i < l.length := by rw [pairsL_len] at hi; exact hi
      rw [pairsL_at l f i hil] at e
      refine ⟨i, hil, ?_⟩
      rw [sndF, List.getD_eq_getElem?_getD, List.getElem?_eq_getElem hjD, Option.getD_some, ← e]
      exact h.tri i hil
end Go.Proofs.YtjhikglgaoncjaaDoor

/- What cpio's Read comes to, and the document's, in plain words: they are the same. -/
import Derived.Test.YtolknddegfcmpaaDoorCpK
import Derived.Test.YtolknddegfcmpaaDoorCpW
import Derived.Test.YtolknddegfcmpaaDoorEnA
namespace Go.Proofs.YtolknddegfcmpaaDoor
/-- What the members of a group have in common. -/
def keyG (ns : List Nat) : List Nat := [ns.getD 0 0, ns.getD 7 0, ns.getD 8 0, ns.getD 9 0, ns.getD 10 0]
/-- What a file with more links than one comes to; i: where the first one of its group stands. -/
def grpC (fnd : Option Nat) (L : List En) (ns : List Nat) (nm d : List UInt8) : Int × List En :=
  match fnd with
  | none => (0, L ++ [entM nm 1 (ns.getD 1 0 % 4096) (ns.getD 3 0) (ns.getD 4 0) (ns.getD 5 0) [] d])
  | some i => match L[i]? with
    | none => (3, L)
    | some x =>
      if ((ns.getD 1 0 % 4096 : Nat) : Int) ≠ x.mode ∨ (ns.getD 3 0 : Int) ≠ x.uid ∨ (ns.getD 4 0 : Int) ≠ x.gid ∨ (ns.getD 5 0 : Int) ≠ x.mtime then (3, L)
      else if d ≠ [] ∧ x.data ≠ [] then (3, L)
      else (0, (if d = [] then L else L.set i { x with data := d }) ++ [entM nm 4 (ns.getD 1 0 % 4096) (ns.getD 3 0) (ns.getD 4 0) (ns.getD 5 0) x.path []])
def grouped (ns : List Nat) : Prop := ns.getD 1 0 / 4096 = 8 ∧ 1 < ns.getD 2 0
instance (ns : List Nat) : Decidable (grouped ns) := by unfold grouped; exact inferInstance
/-- The program's step. -/
def stepG (s : List (List Nat × Nat)) (L : List En) (ns : List Nat) (nm d : List UInt8) : Int × List En × List (List Nat × Nat) :=
  if grouped ns then ((grpC (findP (keyG ns) s) L ns nm d).1, (grpC (findP (keyG ns) s) L ns nm d).2, if findP (keyG ns) s = none then s ++ [(keyG ns, L.length)] else s)
  else ((stepM L ns nm d).1, (stepM L ns nm d).2, s)
/-- The document's look for the first member of a group. -/
def frs (k : List Nat) : List (List Nat × En) → Nat → Option Nat
  | [], _ => none
  | p :: r, i => if p.2.kind = 1 ∧ 1 < p.1.getD 2 0 ∧ keyG p.1 = k then some i else frs k r (i + 1)
def stepD (heads : List (List Nat)) (L : List En) (ns : List Nat) (nm d : List UInt8) : Int × List En :=
  if grouped ns then grpC (frs (keyG ns) (heads.zip L) 0) L ns nm d else stepM L ns nm d
/-- The document's reading. -/
def runD (b : List UInt8) : Nat → List (List Nat) → List En → Nat → List En × Int × Int
  | 0, _, _, _ => ([], 0, 0)
  | n + 1, heads, L, p => match memS b p with
    | .err e => ([], (p : Int), e)
    | .fin => (L, 0, 0)
    | .mem ns nm d nx =>
      if (stepD heads L ns nm d).1 ≠ 0 then ([], (p : Int), (stepD heads L ns nm d).1)
      else if (chkL (stepD heads L ns nm d).2).2 ≠ 0 then ([], (p : Int), (chkL (stepD heads L ns nm d).2).2)
      else runD b n (heads ++ [ns]) (stepD heads L ns nm d).2 nx
/-- An entry but for its data. -/
def nod (e : En) : En := { e with data := [] }
/-- Data where they may be. -/
def DB (l : List En) : Prop := ∀ e ∈ l, (e.kind = 1 → e.data.length ≤ 1048576) ∧ (e.kind ≠ 1 → e.data = [])
theorem chkE_nod {e : En} (h1 : e.kind = 1 → e.data.length ≤ 1048576) (h2 : e.kind ≠ 1 → e.data = []) : chkE (nod e) = chkE e := by
  by_cases hk : e.kind = 1
  · have := h1 hk
    unfold chkE nod numBad
    simp only [hk]
    simp [show ¬ 1048576 < e.data.length by omega]
  · have := h2 hk
    obtain ⟨a1, a2, a3, a4, a5, a6, a7, a8, a9, a10⟩ := e
    simp only at this
    subst this
    rfl
theorem has_nod (a : List En) (p : List UInt8) : hasE (a.map nod) p = hasE a p := by
  simp only [hasE, List.any_map]; rfl
theorem find_nod (a : List En) (p : List UInt8) : findE (a.map nod) p = (findE a p).map nod := by
  simp only [findE, List.find?_map]; rfl
theorem link_nod (a : List En) (e : En) : linkE (a.map nod) (nod e) = linkE a e := by
  unfold linkE
  rw [find_nod, show (nod e).link = e.link from rfl]
  cases findE a e.link with
  | none => rfl
  | some x => rfl
theorem nest_nod (a : List En) (e : En) : nestE (a.map nod) (nod e) = nestE a e := by
  simp only [nestE, List.any_map]; rfl
theorem bad_nod (a : List En) {e : En} (h1 : e.kind = 1 → e.data.length ≤ 1048576) (h2 : e.kind ≠ 1 → e.data = []) : badE (a.map nod) (nod e) = badE a e := by
  unfold badE
  rw [chkE_nod h1 h2, link_nod, nest_nod, show (nod e).path = e.path from rfl, has_nod]
  rfl
theorem go_nod : ∀ (l a : List En), DB l → goE (a.map nod) (l.map nod) = goE a l
  | [], _, _ => rfl
  | e :: t, a, h => by
    have he := h e (.head _)
    rw [List.map_cons, goE, goE, bad_nod a he.1 he.2, List.length_map]
    have := go_nod t (a ++ [e]) (fun x hx => h x (.tail _ hx))
    rw [List.map_append] at this
    rw [← this]; rfl
theorem go_bad : ∀ (l a m : List En), (goE a l).2 ≠ 0 → goE a (l ++ m) = goE a l
  | [], _, _, h => absurd rfl h
  | e :: t, a, m, h => by
    rw [List.cons_append, goE, goE]
    rw [goE] at h
    by_cases hb : badE a e = 0
    · rw [if_pos hb] at h ⊢; rw [if_pos hb]; exact go_bad t _ m h
    · rw [if_neg hb, if_neg hb]
theorem go_good : ∀ (l a m : List En), (goE a l).2 = 0 → goE a (l ++ m) = goE (a ++ l) m
  | [], a, m, _ => by simp
  | e :: t, a, m, h => by
    rw [List.cons_append, goE]
    rw [goE] at h
    by_cases hb : badE a e = 0
    · rw [if_pos hb] at h ⊢
      rw [go_good t _ m h]; simp
    · rw [if_neg hb] at h; exact absurd h hb
theorem chk_go {l : List En} (h : l.length ≤ 4096) : chkL l = goE [] l := by rw [chkL, if_neg (by omega)]
/-- What a step leaves: an entry more, data where they may be. -/
def Grows (L L' : List En) : Prop := ∃ e, L'.map nod = L.map nod ++ [e] ∧ DB L'
theorem db_snoc {L : List En} {e : En} (h : DB L) (h1 : e.kind = 1 → e.data.length ≤ 1048576) (h2 : e.kind ≠ 1 → e.data = []) : DB (L ++ [e]) := fun x hx => by
  rw [List.mem_append, List.mem_singleton] at hx
  rcases hx with hx | rfl
  · exact h x hx
  · exact ⟨h1, h2⟩
theorem grows_snoc {L : List En} {e : En} (h : DB L) (h1 : e.kind = 1 → e.data.length ≤ 1048576) (h2 : e.kind ≠ 1 → e.data = []) : Grows L (L ++ [e]) := ⟨nod e, by simp, db_snoc h h1 h2⟩
theorem stepM_grows {L : List En} (h : DB L) (ns : List Nat) (nm d : List UInt8) (hd : d.length ≤ 1048576) (h0 : (stepM L ns nm d).1 = 0) : Grows L (stepM L ns nm d).2 := by
  unfold stepM at h0 ⊢
  by_cases h8 : ns.getD 1 0 / 4096 = 8
  · rw [if_pos h8]; exact grows_snoc h (fun _ => hd) (fun h => absurd rfl h)
  rw [if_neg h8] at h0 ⊢
  by_cases h4 : ns.getD 1 0 / 4096 = 4
  · rw [if_pos h4] at h0 ⊢
    by_cases hdd : d = []
    · rw [if_pos hdd]; exact grows_snoc h (fun h => absurd h (by simp [entM])) (fun _ => rfl)
    · rw [if_neg hdd] at h0; exact absurd (show (3 : Int) = 0 from h0) (by decide)
  rw [if_neg h4] at h0 ⊢
  by_cases h10 : ns.getD 1 0 / 4096 = 10
  · rw [if_pos h10]; exact grows_snoc h (fun h => absurd h (by simp [entM])) (fun _ => rfl)
  · rw [if_neg h10] at h0; exact absurd (show (9 : Int) = 0 from h0) (by decide)
/-- The first of a group is a file. -/
def Fst (fnd : Option Nat) (L : List En) : Prop := ∀ i, fnd = some i → ∃ h : i < L.length, L[i].kind = 1
theorem set_nod {L : List En} {i : Nat} (h : i < L.length) (d : List UInt8) : (L.set i { L[i] with data := d }).map nod = L.map nod := by
  rw [List.map_set]
  have : nod { L[i] with data := d } = (L.map nod)[i]'(by simpa using h) := by rw [List.getElem_map]; rfl
  rw [this, List.set_getElem_self]
theorem grpC_grows {fnd : Option Nat} {L : List En} (hF : Fst fnd L) (h : DB L) (ns : List Nat) (nm d : List UInt8) (hd : d.length ≤ 1048576) (h0 : (grpC fnd L ns nm d).1 = 0) : Grows L (grpC fnd L ns nm d).2 := by
  unfold grpC at h0 ⊢
  cases fnd with
  | none => exact grows_snoc h (fun _ => hd) (fun h => absurd rfl h)
  | some i =>
    obtain ⟨hi, hk⟩ := hF i rfl
    simp only [List.getElem?_eq_getElem hi] at h0 ⊢
    split
    · rw [if_pos ‹_›] at h0; exact absurd (show (3 : Int) = 0 from h0) (by decide)
    rw [if_neg ‹_›] at h0
    split
    · rw [if_pos ‹_›] at h0; exact absurd (show (3 : Int) = 0 from h0) (by decide)
    refine ⟨nod (entM nm 4 (ns.getD 1 0 % 4096) (ns.getD 3 0) (ns.getD 4 0) (ns.getD 5 0) L[i].path []), ?_, ?_⟩
    · rw [List.map_append]
      congr 1
      split
      · rfl
      · exact set_nod hi d
    · refine db_snoc ?_ (fun h => absurd h (by simp [entM])) (fun _ => rfl)
      split
      · exact h
      · intro x hx
        rcases List.mem_or_eq_of_mem_set hx with hx | rfl
        · exact h x hx
        · exact ⟨fun _ => hd, fun hn => absurd hk hn⟩
theorem grows_db {L L' : List En} (h : Grows L L') : DB L' := by
  obtain ⟨_, _, h2⟩ := h
  exact h2
theorem grows_len {L L' : List En} (h : Grows L L') : L'.length = L.length + 1 := by
  obtain ⟨e, h1, _⟩ := h
  have := congrArg List.length h1
  simpa using this
theorem go_grows {L L' : List En} (h : Grows L L') (hL : DB L) (hb : (goE [] L).2 ≠ 0) : goE [] L' = goE [] L := by
  obtain ⟨e, h1, h2⟩ := h
  have e1 := go_nod L' [] h2
  have e2 := go_nod L [] hL
  rw [List.map_nil] at e1 e2
  rw [← e1, h1, go_bad _ _ _ (by rw [e2]; exact hb), e2]
theorem go_first {L L' : List En} (h : Grows L L') (hL : DB L) (hg : (goE [] L).2 = 0) (hb : (goE [] L').2 ≠ 0) : (goE [] L').1 = (L.length : Int) := by
  obtain ⟨e, h1, h2⟩ := h
  have e1 := go_nod L' [] h2
  have e2 := go_nod L [] hL
  rw [List.map_nil] at e1 e2
  rw [← e1, h1, go_good _ _ _ (by rw [e2]; exact hg)] at hb ⊢
  simp only [List.nil_append, goE] at hb ⊢
  by_cases hbb : badE (L.map nod) e = 0
  · rw [if_pos hbb] at hb; exact absurd rfl hb
  · rw [if_neg hbb]; simp
/-- Every first of a group is a file. -/
def FA (s : List (List Nat × Nat)) (L : List En) : Prop := ∀ k, Fst (findP k s) L
theorem kind_grows {L L' : List En} (h : Grows L L') {i : Nat} (hi : i < L.length) : ∃ h' : i < L'.length, L'[i].kind = L[i].kind := by
  have hl := grows_len h
  obtain ⟨e, h1, _⟩ := h
  have h' : i < L'.length := by omega
  refine ⟨h', ?_⟩
  have e1 : (L'.map nod)[i]? = some (nod L'[i]) := by rw [List.getElem?_map, List.getElem?_eq_getElem h']; rfl
  have e2 : (L.map nod ++ [e])[i]? = some (nod L[i]) := by rw [List.getElem?_append_left (by simpa using hi), List.getElem?_map, List.getElem?_eq_getElem hi]; rfl
  rw [h1, e2] at e1
  injection e1 with e1
  have := congrArg En.kind e1
  exact this.symm
theorem stepG_grows {s : List (List Nat × Nat)} {L : List En} (hF : FA s L) (h : DB L) (ns : List Nat) (nm d : List UInt8) (hd : d.length ≤ 1048576) (h0 : (stepG s L ns nm d).1 = 0) : Grows L (stepG s L ns nm d).2.1 := by
  unfold stepG at h0 ⊢
  split
  · rw [if_pos ‹_›] at h0; exact grpC_grows (hF _) h ns nm d hd h0
  · rw [if_neg ‹_›] at h0; exact stepM_grows h ns nm d hd h0
theorem stepG_fa {s : List (List Nat × Nat)} {L : List En} (hF : FA s L) (h : DB L) (ns : List Nat) (nm d : List UInt8) (hd : d.length ≤ 1048576) (h0 : (stepG s L ns nm d).1 = 0) : FA (stepG s L ns nm d).2.2 (stepG s L ns nm d).2.1 := by
  have hG := stepG_grows hF h ns nm d hd h0
  have old : ∀ k i, findP k s = some i → ∃ h : i < (stepG s L ns nm d).2.1.length, (stepG s L ns nm d).2.1[i].kind = 1 := fun k i hk => by
    obtain ⟨hi, h1⟩ := hF k i hk
    obtain ⟨h', h2⟩ := kind_grows hG hi
    exact ⟨h', by rw [h2, h1]⟩
  intro k i hk
  by_cases hg : grouped ns
  · have e2 : (stepG s L ns nm d).2.2 = if findP (keyG ns) s = none then s ++ [(keyG ns, L.length)] else s := by rw [stepG, if_pos hg]
    rw [e2] at hk
    by_cases hn : findP (keyG ns) s = none
    · rw [if_pos hn, findP_new] at hk
      cases hf : findP k s with
      | some j => rw [hf] at hk; exact old k i (by rw [hf]; exact hk)
      | none =>
        rw [hf] at hk
        by_cases hkk : k = keyG ns
        · rw [if_pos hkk] at hk
          injection hk with hk
          subst hk
          have e1 : (stepG s L ns nm d).2.1 = L ++ [entM nm 1 (ns.getD 1 0 % 4096) (ns.getD 3 0) (ns.getD 4 0) (ns.getD 5 0) [] d] := by rw [stepG, if_pos hg, hn]; rfl
          have hl := grows_len hG
          refine ⟨by omega, ?_⟩
          have : (stepG s L ns nm d).2.1[L.length]? = some (entM nm 1 (ns.getD 1 0 % 4096) (ns.getD 3 0) (ns.getD 4 0) (ns.getD 5 0) [] d) := by rw [e1]; simp
          rw [List.getElem?_eq_getElem (by omega)] at this
          injection this with this
          rw [this]; rfl
        · rw [if_neg hkk] at hk; cases hk
    · rw [if_neg hn] at hk; exact old k i hk
  · have e2 : (stepG s L ns nm d).2.2 = s := by rw [stepG, if_neg hg]
    rw [e2] at hk
    exact old k i hk
/-- The document's look finds what the map knows. -/
def Sim (s : List (List Nat × Nat)) (heads : List (List Nat)) (L : List En) : Prop := heads.length = L.length ∧ ∀ k, findP k s = frs k (heads.zip L) 0
theorem frs_snoc (k : List Nat) : ∀ (z : List (List Nat × En)) (i : Nat) (p : List Nat × En), frs k (z ++ [p]) i = (frs k z i).or (if p.2.kind = 1 ∧ 1 < p.1.getD 2 0 ∧ keyG p.1 = k then some (i + z.length) else none)
  | [], i, p => by simp [frs]
  | q :: z, i, p => by
    rw [List.cons_append, frs, frs, frs_snoc k z (i + 1) p]
    by_cases h : q.2.kind = 1 ∧ 1 < q.1.getD 2 0 ∧ keyG q.1 = k
    · rw [if_pos h, if_pos h]; rfl
    · rw [if_neg h, if_neg h, List.length_cons, show i + 1 + z.length = i + (z.length + 1) by omega]
theorem frs_kind (k : List Nat) : ∀ (heads : List (List Nat)) (L M : List En) (i : Nat), L.map En.kind = M.map En.kind → frs k (heads.zip L) i = frs k (heads.zip M) i
  | [], _, _, _, _ => by simp [frs]
  | h :: hs, [], M, i, e => by
    have : M = [] := by simpa using e.symm
    subst this; rfl
  | h :: hs, x :: L, [], i, e => by simp at e
  | h :: hs, x :: L, y :: M, i, e => by
    rw [List.map_cons, List.map_cons, List.cons.injEq] at e
    rw [List.zip_cons_cons, List.zip_cons_cons, frs, frs, frs_kind k hs L M (i + 1) e.2]
    simp only [e.1]
theorem stepG_snoc {s : List (List Nat × Nat)} {L : List En} (hF : FA s L) (ns : List Nat) (nm d : List UInt8) (h0 : (stepG s L ns nm d).1 = 0) :
    ∃ M e, (stepG s L ns nm d).2.1 = M ++ [e] ∧ M.map En.kind = L.map En.kind ∧ (e.kind = 1 ∧ 1 < ns.getD 2 0 ↔ grouped ns ∧ findP (keyG ns) s = none) := by
  unfold stepG at h0 ⊢
  by_cases hg : grouped ns
  · rw [if_pos hg] at h0 ⊢
    simp only at h0 ⊢
    cases hf : findP (keyG ns) s with
    | none => exact ⟨L, _, rfl, rfl, fun _ => ⟨hg, rfl⟩, fun _ => ⟨rfl, hg.2⟩⟩
    | some i =>
      obtain ⟨hi, hk⟩ := hF _ i hf
      rw [hf] at h0
      unfold grpC at h0 ⊢
      simp only [List.getElem?_eq_getElem hi] at h0 ⊢
      split
      · rw [if_pos ‹_›] at h0; exact absurd (show (3 : Int) = 0 from h0) (by decide)
      rw [if_neg ‹_›] at h0
      split
      · rw [if_pos ‹_›] at h0; exact absurd (show (3 : Int) = 0 from h0) (by decide)
      refine ⟨_, _, rfl, ?_, fun h => absurd h.1 (by simp [entM]), fun h => by cases h.2⟩
      split
      · rfl
      · rw [List.map_set]
        have : (L.map En.kind)[i]'(by simpa using hi) = L[i].kind := List.getElem_map ..
        rw [← this, List.set_getElem_self]
  · rw [if_neg hg] at h0 ⊢
    simp only at h0 ⊢
    have key : ∀ e : En, (e.kind = 1 → ns.getD 1 0 / 4096 = 8) → ∃ M e', L ++ [e] = M ++ [e'] ∧ M.map En.kind = L.map En.kind ∧ (e'.kind = 1 ∧ 1 < ns.getD 2 0 ↔ grouped ns ∧ findP (keyG ns) s = none) := fun e he =>
      ⟨L, e, rfl, rfl, fun h => absurd ⟨he h.1, h.2⟩ hg, fun h => absurd h.1 hg⟩
    unfold stepM at h0 ⊢
    by_cases h8 : ns.getD 1 0 / 4096 = 8
    · rw [if_pos h8]; exact key _ fun _ => h8
    rw [if_neg h8] at h0 ⊢
    by_cases h4 : ns.getD 1 0 / 4096 = 4
    · rw [if_pos h4] at h0 ⊢
      by_cases hdd : d = []
      · rw [if_pos hdd]; exact key _ fun h => absurd h (by simp [entM])
      · rw [if_neg hdd] at h0; exact absurd (show (3 : Int) = 0 from h0) (by decide)
    rw [if_neg h4] at h0 ⊢
    by_cases h10 : ns.getD 1 0 / 4096 = 10
    · rw [if_pos h10]; exact key _ fun h => absurd h (by simp [entM])
    · rw [if_neg h10] at h0; exact absurd (show (9 : Int) = 0 from h0) (by decide)
theorem sim_step {s : List (List Nat × Nat)} {heads : List (List Nat)} {L : List En} (h : Sim s heads L) (hF : FA s L) (ns : List Nat) (nm d : List UInt8) (h0 : (stepG s L ns nm d).1 = 0) : Sim (stepG s L ns nm d).2.2 (heads ++ [ns]) (stepG s L ns nm d).2.1 := by
  obtain ⟨M, e, hM, hK, hI⟩ := stepG_snoc hF ns nm d h0
  have hl : M.length = L.length := by simpa using congrArg List.length hK
  refine ⟨by rw [hM]; simp [h.1, hl], fun k => ?_⟩
  rw [hM, List.zip_append (by rw [h.1, hl])]
  rw [show [ns].zip [e] = [(ns, e)] from rfl, frs_snoc, frs_kind k heads M L 0 hK, ← h.2 k]
  have hz : (heads.zip M).length = L.length := by simp [h.1, hl]
  rw [hz, Nat.zero_add]
  have e2 : (stepG s L ns nm d).2.2 = if grouped ns then (if findP (keyG ns) s = none then s ++ [(keyG ns, L.length)] else s) else s := by
    unfold stepG; split <;> rfl
  rw [e2]
  by_cases hg : grouped ns
  · rw [if_pos hg]
    by_cases hn : findP (keyG ns) s = none
    · rw [if_pos hn, findP_new]
      have hh := hI.2 ⟨hg, hn⟩
      by_cases hk : k = keyG ns
      · rw [if_pos hk, if_pos ⟨hh.1, hh.2, hk.symm⟩]
      · rw [if_neg hk, if_neg (fun h => hk h.2.2.symm)]
    · rw [if_neg hn]
      rw [if_neg (fun h => hn (hI.1 ⟨h.1, h.2.1⟩).2)]; simp
  · rw [if_neg hg, if_neg (fun h => hg (hI.1 ⟨h.1, h.2.1⟩).1)]; simp
theorem step_same {s : List (List Nat × Nat)} {heads : List (List Nat)} {L : List En} (h : Sim s heads L) (ns : List Nat) (nm d : List UInt8) : stepD heads L ns nm d = ((stepG s L ns nm d).1, (stepG s L ns nm d).2.1) := by
  unfold stepD stepG
  by_cases hg : grouped ns
  · rw [if_pos hg, if_pos hg, h.2]
  · rw [if_neg hg, if_neg hg]
/-- What is wrong stays. -/
theorem bad_stays (b : List UInt8) : ∀ (n : Nat) (s : List (List Nat × Nat)) (L : List En) (PL : List Nat) (p : Nat), FA s L → DB L → (goE [] L).2 ≠ 0 → 112 * L.length ≤ p → p ≤ b.length → PL.length = L.length →
    goE [] (runR stepG b n s L PL p).1 = goE [] L ∧ 112 * (runR stepG b n s L PL p).1.length ≤ b.length ∧ ∀ i, i < PL.length → (runR stepG b n s L PL p).2.1[i]? = PL[i]? := by
  intro n
  induction n with
  | zero => intro s L PL p _ _ _ h1 h2 _; exact ⟨rfl, by simp only [runR]; omega, fun _ _ => rfl⟩
  | succ n ih =>
    intro s L PL p hF hD hb h1 h2 hPL
    have hnx : ∀ ns nm d nx, memS b p = .mem ns nm d nx → p + 112 ≤ nx ∧ nx ≤ b.length ∧ d.length ≤ 1048576 := fun ns nm d nx h => ⟨(mem_next h).1, (mem_next h).2, (mem_facts h).2.2.2.1⟩
    rw [runR]
    cases hm : memS b p with
    | err e => exact ⟨rfl, by simp only; omega, fun _ _ => rfl⟩
    | fin => exact ⟨rfl, by simp only; omega, fun _ _ => rfl⟩
    | mem ns nm d nx =>
      obtain ⟨g1, g2, g3⟩ := hnx ns nm d nx hm
      simp only
      by_cases h0 : (stepG s L ns nm d).1 = 0
      · rw [if_pos h0]
        have hG := stepG_grows hF hD ns nm d g3 h0
        have hl := grows_len hG
        have hg := go_grows hG hD hb
        obtain ⟨r1, r2, r3⟩ := ih (stepG s L ns nm d).2.2 (stepG s L ns nm d).2.1 (PL ++ [p]) nx (stepG_fa hF hD ns nm d g3 h0) (grows_db hG) (by rw [hg]; exact hb) (by omega) g2 (by simp [hPL, hl])
        refine ⟨by rw [r1, hg], r2, fun i hi => ?_⟩
        rw [r3 i (by simp; omega), List.getElem?_append_left hi]
      · rw [if_neg h0]
        exact ⟨rfl, by simp only; omega, fun _ _ => rfl⟩
theorem run_same (b : List UInt8) (hb : b.length ≤ 400000) : ∀ (n : Nat) (s : List (List Nat × Nat)) (heads : List (List Nat)) (L : List En) (PL : List Nat) (p : Nat), Sim s heads L → FA s L → DB L → (goE [] L).2 = 0 → 112 * L.length ≤ p → p ≤ b.length → PL.length = L.length → b.length - p < n →
    runD b n heads L p = readA (runR stepG b n s L PL p) := by
  intro n
  induction n with
  | zero => intro s heads L PL p _ _ _ _ _ _ _ h; omega
  | succ n ih =>
    intro s heads L PL p hS hF hD hg h1 h2 hPL hn
    have hnx : ∀ ns nm d nx, memS b p = .mem ns nm d nx → p + 112 ≤ nx ∧ nx ≤ b.length ∧ d.length ≤ 1048576 := fun ns nm d nx h => ⟨(mem_next h).1, (mem_next h).2, (mem_facts h).2.2.2.1⟩
    have her : ∀ e, memS b p = .err e → e ≠ 0 := fun e h => mem_err h
    have hL : (chkL L).2 = 0 := by rw [chk_go (by omega)]; exact hg
    rw [runD, runR]
    cases hm : memS b p with
    | err e =>
      simp only
      rw [readA, if_neg (fun h => h hL), if_pos (her e hm)]
    | fin =>
      simp only
      rw [readA, if_neg (fun h => h hL), if_neg (fun h => h rfl)]
    | mem ns nm d nx =>
      obtain ⟨g1, g2, g3⟩ := hnx ns nm d nx hm
      simp only [step_same hS]
      by_cases h0 : (stepG s L ns nm d).1 = 0
      · rw [if_pos h0, if_neg (fun h => h h0)]
        have hG := stepG_grows hF hD ns nm d g3 h0
        have hl := grows_len hG
        have hFA := stepG_fa hF hD ns nm d g3 h0
        have hS' := sim_step hS hF ns nm d h0
        rw [chk_go (l := (stepG s L ns nm d).2.1) (by omega)]
        by_cases hbad : (goE [] (stepG s L ns nm d).2.1).2 = 0
        · rw [if_neg (fun h => h hbad)]
          exact ih _ _ _ (PL ++ [p]) nx hS' hFA (grows_db hG) hbad (by omega) g2 (by simp [hPL, hl]) (by omega)
        · rw [if_pos hbad]
          obtain ⟨r1, r2, r3⟩ := bad_stays b n (stepG s L ns nm d).2.2 (stepG s L ns nm d).2.1 (PL ++ [p]) nx hFA (grows_db hG) hbad (by omega) g2 (by simp [hPL, hl])
          have hfi := go_first hG hD hg hbad
          generalize runR stepG b n (stepG s L ns nm d).2.2 (stepG s L ns nm d).2.1 (PL ++ [p]) nx = R at r1 r2 r3
          rw [readA, chk_go (by omega), r1, if_pos hbad, hfi, Int.toNat_natCast]
          have := r3 L.length (by simp [hPL])
          rw [List.getElem?_append_right (by omega), hPL, Nat.sub_self] at this
          rw [List.getD_eq_getElem?_getD, this]
          rfl
      · rw [if_neg h0, if_pos h0]
        rw [readA, if_neg (fun h => h hL), if_pos h0]
theorem read_same (b : List UInt8) (hb : b.length ≤ 400000) : runD b (b.length + 1) [] [] 0 = readA (runR stepG b (b.length + 1) [] [] [] 0) :=
  run_same b hb (b.length + 1) [] [] [] [] 0 ⟨rfl, fun _ => rfl⟩ (fun k i h => by cases h) (fun e h => by cases h) rfl (Nat.zero_le _) (Nat.zero_le _) rfl (by omega)
end Go.Proofs.YtolknddegfcmpaaDoor

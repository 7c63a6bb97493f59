/- What cpio.Write wrote is read as it was: the plain law. -/
import Derived.Test.YtolknddegfcmpaaDoorCqA
import Derived.Test.YtolknddegfcmpaaDoorCpG
namespace Go.Proofs.YtolknddegfcmpaaDoor
theorem subB_mid (X Y Z : List UInt8) (k z : Nat) (hk : k = X.length) (hz : z = Y.length) : subB (X ++ Y ++ Z) k z = Y := by
  subst hk; subst hz
  rw [subB, List.append_assoc, List.drop_left, List.take_left]
theorem grp_at : ∀ (ns : List Nat) (i : Nat) (h : i < ns.length) (R : List UInt8), grpT ((ns.map fun n => hxd n 8).flatten ++ R) i = hxd ns[i] 8
  | n :: ns, 0, _, R => by
    rw [grpT, List.map_cons, List.flatten_cons, Nat.mul_zero, List.drop_zero, List.append_assoc]
    simp only [List.getElem_cons_zero]
    exact List.take_left' (hxd_length n 8)
  | n :: ns, i + 1, h, R => by
    have ih := grp_at ns i (by simpa using h) R
    rw [grpT] at ih ⊢
    rw [List.map_cons, List.flatten_cons, List.append_assoc, show 8 * (i + 1) = (hxd n 8).length + 8 * i by rw [hxd_length]; omega, ← List.drop_drop, List.drop_left, ih]
    simp
def hexsN (ns : List Nat) : List UInt8 := (ns.map fun n => hxd n 8).flatten
theorem hexsN_len (ns : List Nat) : (hexsN ns).length = 8 * ns.length := by
  induction ns with
  | nil => rfl
  | cons n ns ih =>
    rw [hexsN, List.map_cons, List.flatten_cons, List.length_append, hxd_length, List.length_cons]
    rw [hexsN] at ih
    omega
theorem head_ok (ns : List Nat) (h : ns.length = 13) (hn : ∀ x ∈ ns, x ≤ 4294967295) : headOk (magicL ++ hexsN ns) = true ∧ headN (magicL ++ hexsN ns) = ns := by
  have hd : (magicL ++ hexsN ns).drop 6 = hexsN ns := List.drop_left' rfl
  have ht : (magicL ++ hexsN ns).take 6 = magicL := List.take_left' rfl
  have hg : ∀ i (hi : i < ns.length), grpT (hexsN ns) i = hxd ns[i] 8 := fun i hi => by
    have := grp_at ns i hi []
    rwa [List.append_nil] at this
  constructor
  · rw [headOk, hd, ht, decide_eq_true rfl, Bool.true_and, okT, List.all_eq_true]
    intro i hi
    rw [List.mem_range] at hi
    have hx := hn _ (List.getElem_mem (show i < ns.length by omega))
    rw [decide_eq_true_iff, hg i (by omega)]
    exact (un8_back _ (by omega)).1
  · rw [headN, hd, numT]
    refine List.ext_getElem (by simp [h]) fun i h1 h2 => ?_
    have hx := hn _ (List.getElem_mem h2)
    rw [List.getElem_map, List.getElem_range, hg i h2, (un8_back _ (by omega)).2, Int.toNat_natCast]
theorem idx_none : ∀ (l : List UInt8), (∀ c ∈ l, c ≠ 0) → Lib.indexByte l 0 = -1
  | [], _ => rfl
  | c :: t, h => by
    have hc : (c == 0) = false := by simpa using h c (.head _)
    rw [Lib.indexByte, hc, idx_none t fun x hx => h x (.tail _ hx)]; rfl
theorem nm_ok (name : List UInt8) (h : ∀ c ∈ name, c ≠ 0) : nmOk (name ++ [0]) = true := by
  have e1 : (name ++ [0]).take ((name ++ [0]).length - 1) = name := by simp
  rw [nmOk, e1, idx_none name h]
  have : Lib.hasSuffix (name ++ [0]) [0] = true := by simp [Lib.hasSuffix, List.isSuffixOf, List.isPrefixOf]
  rw [this]; rfl
theorem memB_len (ns : List Nat) (h : ns.length = 13) (name data : List UInt8) : (memB ns name data).length = 111 + name.length + filN (111 + name.length) + data.length + filN data.length := by
  have h4 : (ns.map fun n => hxd n 8).flatten.length = 104 := by have := hexsN_len ns; rw [hexsN, h] at this; exact this
  have h5 : magicL.length = 6 := rfl
  simp only [memB, List.length_append, List.length_replicate, List.length_singleton, h4, h5]
  omega
theorem mem_at (A R : List UInt8) (f md lk ui gi ti : Nat) (h0 : f ≤ 4294967295) (h1 : md ≤ 4294967295) (h2 : lk ≤ 4294967295) (h3 : ui ≤ 4294967295) (h4 : gi ≤ 4294967295) (h5 : ti ≤ 4294967295) (name data : List UInt8) (hz : ∀ c ∈ name, c ≠ 0) (hn : name.length ≤ 200) (hd : data.length ≤ 1048576) :
    memS (A ++ memB (numL f md lk ui gi ti data.length (name.length + 1)) name data ++ R) A.length = if name = trailL then .fin else .mem (numL f md lk ui gi ti data.length (name.length + 1)) name data (A.length + (memB (numL f md lk ui gi ti data.length (name.length + 1)) name data).length) := by
  have hl : (numL f md lk ui gi ti data.length (name.length + 1)).length = 13 := rfl
  have hle : ∀ x ∈ numL f md lk ui gi ti data.length (name.length + 1), x ≤ 4294967295 := by simp [numL]; omega
  have g6 : (numL f md lk ui gi ti data.length (name.length + 1)).getD 6 0 = data.length := rfl
  have g11 : (numL f md lk ui gi ti data.length (name.length + 1)).getD 11 0 = name.length + 1 := rfl
  generalize numL f md lk ui gi ti data.length (name.length + 1) = ns at hl hle g6 g11 ⊢
  have hml := memB_len ns hl name data
  obtain ⟨e1, e2⟩ := head_ok ns hl hle
  have hH : (magicL ++ hexsN ns).length = 110 := by rw [List.length_append, hexsN_len, hl]; rfl
  have hB : A ++ memB ns name data ++ R = A ++ (magicL ++ hexsN ns) ++ (name ++ [0] ++ List.replicate (filN (111 + name.length)) 0 ++ data ++ List.replicate (filN data.length) 0 ++ R) := by simp [memB, hexsN, List.append_assoc]
  have hB2 : A ++ memB ns name data ++ R = (A ++ (magicL ++ hexsN ns)) ++ (name ++ [0]) ++ (List.replicate (filN (111 + name.length)) 0 ++ data ++ List.replicate (filN data.length) 0 ++ R) := by simp [memB, hexsN, List.append_assoc]
  have hB3 : A ++ memB ns name data ++ R = (A ++ (magicL ++ hexsN ns) ++ (name ++ [0]) ++ List.replicate (filN (111 + name.length)) 0) ++ data ++ (List.replicate (filN data.length) 0 ++ R) := by simp [memB, hexsN, List.append_assoc]
  have hbl : (A ++ memB ns name data ++ R).length = A.length + (memB ns name data).length + R.length := by rw [List.length_append, List.length_append]
  have s1 : subB (A ++ memB ns name data ++ R) A.length 110 = magicL ++ hexsN ns := by rw [hB]; exact subB_mid _ _ _ _ _ rfl hH.symm
  have s2 : subB (A ++ memB ns name data ++ R) (A.length + 110) (name.length + 1) = name ++ [0] := by rw [hB2]; exact subB_mid _ _ _ _ _ (by simp only [List.length_append] at hH ⊢; omega) (by simp)
  have s3 : subB (A ++ memB ns name data ++ R) (A.length + 110 + (name.length + 1 + filN (110 + (name.length + 1)))) data.length = data := by
    rw [hB3]
    refine subB_mid _ _ _ _ _ ?_ rfl
    have : filN (110 + (name.length + 1)) = filN (111 + name.length) := by congr 1; omega
    simp only [List.length_append, List.length_replicate, List.length_singleton] at hH ⊢
    omega
  have hfe : filN (110 + (name.length + 1)) = filN (111 + name.length) := by congr 1; omega
  generalize A ++ memB ns name data ++ R = b at hbl s1 s2 s3 ⊢
  rw [memS, if_neg (by omega), s1, e1, if_neg (by simp), e2, g6, g11, memB1, if_neg (by omega), if_neg (by omega), s2, nm_ok name hz, if_neg (by simp)]
  have e3 : (name ++ [0]).take (name.length + 1 - 1) = name := by simp
  rw [e3]
  by_cases ht : name = trailL
  · rw [if_pos ht, if_pos ht]
  · rw [if_neg ht, if_neg ht, memB2, if_neg (by omega), if_neg (by omega), s3]
    congr 1
    omega
theorem lst_lt (l : List En) (p : List UInt8) : ∀ k, 0 < k → lstU l p 0 k < k
  | 0, h => absurd h (Nat.lt_irrefl _)
  | k + 1, _ => by
    rw [lstU]
    split
    · omega
    · cases k with
      | zero => simp [lstU]
      | succ k => have := lst_lt l p (k + 1) (by omega); omega
theorem lst_ge (l : List En) (p : List UInt8) {i : Nat} (hi : i < l.length) (hp : nmE l[i] = p) : ∀ n, i < n → i ≤ lstU l p 0 n
  | 0, h => by omega
  | k + 1, h => by
    rw [lstU]
    split
    · omega
    · by_cases hk : k = i
      · subst hk
        rename_i hne
        rw [List.getElem?_eq_getElem hi, Option.map_some, hp] at hne
        exact absurd rfl hne
      · exact lst_ge l p hi hp k (by omega)
/-- Where the last name stands, a name stands. -/
theorem lst_is (l : List En) (p : List UInt8) {i : Nat} (hi : i < l.length) (hp : nmE l[i] = p) : ∀ n, n ≤ l.length → i < n → ∃ h : lstU l p 0 n < l.length, nmE (l[lstU l p 0 n]'h) = p := by
  intro n
  induction n with
  | zero => intro _ h; omega
  | succ k ih =>
    intro hn h
    rw [lstU_step l p 0 k (by omega)]
    by_cases hk : nmE l[k] = p
    · simp only [if_pos hk]; exact ⟨by omega, hk⟩
    · simp only [if_neg hk]
      refine ih (by omega) ?_
      by_cases e : k = i
      · subst e; exact absurd hp hk
      · omega
/-- A file's bytes come with its last name. -/
def gE (l : List En) (i : Nat) (e : En) : En := if e.kind = 1 ∧ i ≤ lstU l e.path 0 l.length then { e with data := [] } else e
def parE (l : List En) (i : Nat) : List En := (l.take i).map (gE l i)
theorem gE_kind (l : List En) (i : Nat) (e : En) : (gE l i e).kind = e.kind ∧ (gE l i e).path = e.path ∧ (gE l i e).mode = e.mode ∧ (gE l i e).uid = e.uid ∧ (gE l i e).gid = e.gid ∧ (gE l i e).mtime = e.mtime := by
  unfold gE; split <;> exact ⟨rfl, rfl, rfl, rfl, rfl, rfl⟩
theorem parE_len (l : List En) (i : Nat) (h : i ≤ l.length) : (parE l i).length = i := by rw [parE, List.length_map, List.length_take]; omega
theorem parE_at (l : List En) (i j : Nat) (hj : j < i) (hi : i ≤ l.length) : (parE l i)[j]? = some (gE l i (l[j]'(by omega))) := by
  rw [parE, List.getElem?_map, List.getElem?_take_of_lt hj, List.getElem?_eq_getElem (by omega)]; rfl
theorem parE_all (l : List En) : parE l l.length = l := by
  rw [parE, List.take_length]
  refine (List.map_congr_left fun e he => ?_).trans (List.map_id l)
  have hl : 0 < l.length := List.length_pos_of_mem he
  rw [gE, if_neg fun h => by have := lst_lt l e.path l.length hl; omega]; rfl
/-- The numbers and the bytes of a member. -/
def rowE (l : List En) (i : Nat) (e f : En) : Nat × Nat × List UInt8 :=
  if e.kind = 2 then (16384 + e.mode.toNat, 2, [])
  else if e.kind = 3 then (40960 + e.mode.toNat, 1, e.link)
  else (32768 + e.mode.toNat, lksU l (nmE e) l.length, if lstU l (nmE e) 0 l.length = i then f.data else [])
def nsE (l : List En) (i j : Nat) (e f : En) : List Nat := numL (numU l (j + 1)) (rowE l i e f).1 (rowE l i e f).2.1 e.uid.toNat e.gid.toNat e.mtime.toNat (rowE l i e f).2.2.length (e.path.length + 1)
theorem memE_row (l : List En) (i j : Nat) (e f : En) : memE l i e j f = memB (nsE l i j e f) e.path (rowE l i e f).2.2 := by
  unfold memE nsE rowE
  by_cases h2 : e.kind = 2
  · simp only [if_pos h2]; rfl
  · simp only [if_neg h2]
    by_cases h3 : e.kind = 3
    · simp only [if_pos h3]
    · simp only [if_neg h3]
      by_cases hl : lstU l (nmE e) 0 l.length = i
      · simp only [if_pos hl]
      · simp only [if_neg hl]; rfl
/-- What the map knows ahead of an entry. -/
structure Inv (l : List En) (i : Nat) (s : List (List Nat × Nat)) : Prop where
  old : ∀ j (h : j < l.length), j < i → l[j].kind = 1 → 1 < lksU l l[j].path l.length → findP [numU l (j + 1), 0, 0, 0, 0] s = some j
  low : ∀ k x, findP k s = some x → k.getD 0 0 ≤ numU l i
/-- Right entries that can be told in an archive. -/
structure CpR (l : List En) : Prop where
  rt : Rt l
  own : ∀ e ∈ l, e.owner = [] ∧ e.group = [] ∧ e.mtime ≤ 4294967295 ∧ e.path ≠ trailL
theorem cpr_of {l : List En} (h : cpErr l = 0) : CpR l := by
  have h0 := (cp_right h).1
  refine ⟨h0, fun e he => ?_⟩
  have hm := (cp_right h).2 e he
  unfold cpErr at h
  by_cases h1 : (chkL l).2 = 0
  · rw [if_neg (by simpa using h1)] at h
    by_cases h2 : l.any named = true
    · rw [if_pos h2] at h; exact absurd h (by decide)
    rw [if_neg h2] at h
    by_cases h3 : l.any late = true
    · rw [if_pos h3] at h; exact absurd h (by decide)
    rw [if_neg h3] at h
    by_cases h4 : l.any isTrail = true
    · rw [if_pos h4] at h; exact absurd h (by decide)
    have n1 : named e = false := by
      cases hq : named e with
      | false => rfl
      | true => exact absurd (List.any_eq_true.2 ⟨e, he, hq⟩) h2
    have n2 : isTrail e = false := by
      cases hq : isTrail e with
      | false => rfl
      | true => exact absurd (List.any_eq_true.2 ⟨e, he, hq⟩) h4
    simp [named] at n1
    simp [isTrail] at n2
    exact ⟨n1.1, n1.2, hm, n2⟩
  · rw [if_pos (by simpa using h1)] at h
    exact absurd h h1
theorem path_facts {e : En} (h : chkE e = 0) : (∀ c ∈ e.path, c ≠ 0) ∧ e.path.length ≤ 200 := by
  have hp : pathOk e.path = true := by
    unfold chkE at h
    cases hq : pathOk e.path with
    | true => rfl
    | false => rw [hq, if_pos rfl] at h; exact absurd h (by decide)
  simp only [pathOk, Bool.and_eq_true, Bool.not_eq_true', decide_eq_false_iff_not] at hp
  refine ⟨fun c hc e0 => ?_, by omega⟩
  subst e0
  have := hp.2.2.1
  rw [List.contains_eq_mem, decide_eq_false_iff_not] at this
  exact this hc
theorem data_le {e : En} (h : chkE e = 0) : e.data.length ≤ 1048576 ∧ e.link.length ≤ 1048576 := by
  obtain ⟨k1, k2, _, _, _, _, _, _, _, _, hlk⟩ := chkE_facts h
  unfold chkE at h
  split at h
  · exact absurd h (by decide)
  split at h
  · exact absurd h (by decide)
  split at h
  · exact absurd h (by decide)
  split at h
  · exact absurd h (by decide)
  split at h
  · exact absurd h (by decide)
  rename_i h5
  split at h
  · exact absurd h (by decide)
  rename_i h6
  split at h
  · exact absurd h (by decide)
  split at h
  · exact absurd h (by decide)
  split at h
  · exact absurd h (by decide)
  refine ⟨by omega, ?_⟩
  by_cases h3 : e.kind = 3
  · have : tgtOk e.link = true := by
      cases hq : tgtOk e.link with
      | true => rfl
      | false => exact absurd ⟨h3, hq⟩ h5
    simp only [tgtOk, Bool.and_eq_true, decide_eq_true_iff] at this
    omega
  · by_cases h4 : e.kind = 4
    · have : pathOk e.link = true := by
        cases hq : pathOk e.link with
        | true => rfl
        | false => exact absurd ⟨h4, .inl hq⟩ h6
      simp only [pathOk, Bool.and_eq_true, Bool.not_eq_true', decide_eq_false_iff_not] at this
      omega
    · rw [hlk h3 h4]; simp
/-- One member read. -/
theorem step_back {l : List En} (hC : CpR l) {i : Nat} (hi : i < l.length) {j : Nat} (hj : j < l.length) (hji : j ≤ i) (hjp : l[j].path = nmE l[i]) (hj4 : l[j].kind ≠ 4) (hjj : l[i].kind ≠ 4 → j = i) (hj1 : l[i].kind = 4 → l[j].kind = 1)
    {s : List (List Nat × Nat)} (hI : Inv l i s) : ∃ s', stepG s (parE l i) (nsE l i j l[i] l[j]) l[i].path (rowE l i l[i] l[j]).2.2 = (0, parE l (i + 1), s') ∧ Inv l (i + 1) s' := by
  have hchk := hC.rt.chk _ (List.getElem_mem hi)
  obtain ⟨ho1, ho2, ho3, ho4⟩ := hC.own _ (List.getElem_mem hi)
  obtain ⟨k1, k2, m1, m2, u1, u2, g1, g2, t1, hd1, hlk⟩ := chkE_facts hchk
  have hpl := parE_len l i (Nat.le_of_lt hi)
  have q0 : (nsE l i j l[i] l[j]).getD 0 0 = numU l (j + 1) := rfl
  have q1 : (nsE l i j l[i] l[j]).getD 1 0 = (rowE l i l[i] l[j]).1 := rfl
  have q2 : (nsE l i j l[i] l[j]).getD 2 0 = (rowE l i l[i] l[j]).2.1 := rfl
  have q3 : (nsE l i j l[i] l[j]).getD 3 0 = l[i].uid.toNat := rfl
  have q4 : (nsE l i j l[i] l[j]).getD 4 0 = l[i].gid.toNat := rfl
  have q5 : (nsE l i j l[i] l[j]).getD 5 0 = l[i].mtime.toNat := rfl
  have qk : keyG (nsE l i j l[i] l[j]) = [numU l (j + 1), 0, 0, 0, 0] := rfl
  have hnum := numU_step l i hi
  have low' : ∀ k x, findP k s = some x → k.getD 0 0 ≤ numU l (i + 1) := fun k x h => by have := hI.low k x h; rw [hnum]; split <;> omega
  -- the list grows by one entry where no bytes of a file ahead come
  have grow : (∀ k (hk : k < i), gE l (i + 1) (l[k]'(by omega)) = gE l i (l[k]'(by omega))) → parE l (i + 1) = parE l i ++ [gE l (i + 1) l[i]] := fun h => by
    rw [parE, List.take_succ_eq_append_getElem hi, List.map_append, parE]
    congr 1
    refine List.ext_getElem (by simp) fun k h1 h2 => ?_
    simp only [List.length_map, List.length_take] at h1
    simp only [List.getElem_map, List.getElem_take]
    exact h k (by omega)
  have keep : l[i].kind ≠ 4 → ∀ k (hk : k < i), gE l (i + 1) (l[k]'(by omega)) = gE l i (l[k]'(by omega)) := fun h4 k hk => by
    have hkl : k < l.length := by omega
    by_cases hk1 : (l[k]'hkl).kind = 1
    · have hnm : nmE (l[k]'hkl) = (l[k]'hkl).path := by rw [nmE, if_neg (by omega)]
      have hne : lstU l (l[k]'hkl).path 0 l.length ≠ i := fun e => by
        obtain ⟨w1, w2⟩ := lst_is l (l[k]'hkl).path hkl hnm l.length (Nat.le_refl _) hkl
        simp only [e] at w2
        rw [nmE, if_neg h4] at w2
        have := nodup_paths hC.rt.uniq hi hkl w2
        omega
      unfold gE
      by_cases hle : i ≤ lstU l (l[k]'hkl).path 0 l.length
      · rw [if_pos ⟨hk1, by omega⟩, if_pos ⟨hk1, hle⟩]
      · rw [if_neg (fun h => hle (by omega)), if_neg (fun h => hle h.2)]
    · unfold gE
      rw [if_neg (fun h => hk1 h.1), if_neg (fun h => hk1 h.1)]
  have same : ∀ (e e' : En), e.path = e'.path → e.kind = e'.kind → e.mode = e'.mode → e.uid = e'.uid → e.gid = e'.gid → e.owner = e'.owner → e.group = e'.group → e.mtime = e'.mtime → e.link = e'.link → e.data = e'.data → e = e' := fun e e' a b c d f g h x y z => by
    obtain ⟨e1, e2, e3, e4, e5, e6, e7, e8, e9, e10⟩ := e
    obtain ⟨f1, f2, f3, f4, f5, f6, f7, f8, f9, f10⟩ := e'
    simp only at a b c d f g h x y z
    subst a b c d f g h x y z; rfl
  by_cases h2 : l[i].kind = 2
  · have er : rowE l i l[i] l[j] = (16384 + l[i].mode.toNat, 2, []) := by rw [rowE, if_pos h2]
    have hng : ¬ grouped (nsE l i j l[i] l[j]) := fun h => by have := h.1; rw [q1, er] at this; omega
    refine ⟨s, ?_, ⟨fun j' hj' hlt hk hl => ?_, low'⟩⟩
    · rw [stepG, if_neg hng, stepM, q1, q3, q4, q5, er, if_neg (by omega), if_pos (by omega), if_pos rfl, grow (keep (by omega))]
      refine congrArg (fun x => ((0 : Int), parE l i ++ [x], s)) ?_
      rw [gE, if_neg (fun h => by omega)]
      exact same _ _ rfl h2.symm (by simp only [entM]; omega) (by simp only [entM]; omega) (by simp only [entM]; omega) ho1.symm ho2.symm (by simp only [entM]; omega) (hlk (by omega) (by omega)).symm (hd1 (by omega)).symm
    · by_cases e : j' = i
      · subst e; omega
      · exact hI.old j' hj' (by omega) hk hl
  by_cases h3 : l[i].kind = 3
  · have er : rowE l i l[i] l[j] = (40960 + l[i].mode.toNat, 1, l[i].link) := by rw [rowE, if_neg h2, if_pos h3]
    have hng : ¬ grouped (nsE l i j l[i] l[j]) := fun h => by have := h.1; rw [q1, er] at this; omega
    refine ⟨s, ?_, ⟨fun j' hj' hlt hk hl => ?_, low'⟩⟩
    · rw [stepG, if_neg hng, stepM, q1, q3, q4, q5, er, if_neg (by omega), if_neg (by omega), if_pos (by omega), grow (keep (by omega))]
      refine congrArg (fun x => ((0 : Int), parE l i ++ [x], s)) ?_
      rw [gE, if_neg (fun h => by omega)]
      exact same _ _ rfl h3.symm (by simp only [entM]; omega) (by simp only [entM]; omega) (by simp only [entM]; omega) ho1.symm ho2.symm (by simp only [entM]; omega) rfl (hd1 (by omega)).symm
    · by_cases e : j' = i
      · subst e; omega
      · exact hI.old j' hj' (by omega) hk hl
  have er : rowE l i l[i] l[j] = (32768 + l[i].mode.toNat, lksU l (nmE l[i]) l.length, if lstU l (nmE l[i]) 0 l.length = i then l[j].data else []) := by rw [rowE, if_neg h2, if_neg h3]
  have hq1 : (rowE l i l[i] l[j]).1 / 4096 = 8 := by rw [er]; simp only; omega
  have hq1m : (rowE l i l[i] l[j]).1 % 4096 = l[i].mode.toNat := by rw [er]; simp only; omega
  have hq2 : (rowE l i l[i] l[j]).2.1 = lksU l (nmE l[i]) l.length := by rw [er]
  by_cases h4 : l[i].kind = 4
  · -- a hard link: two names at least
    have hjk1 := hj1 h4
    have hlt : j < i := by
      by_cases e : j = i
      · subst e; omega
      · omega
    have hlks : 1 < lksU l (nmE l[i]) l.length := by
      have hnj : nmE l[j] = nmE l[i] := by rw [nmE, if_neg hj4, hjp]
      have c1 : ∀ n, n ≤ l.length → (if j < n then 1 else 0) + (if i < n then 1 else 0) ≤ lksU l (nmE l[i]) n := by
        intro n
        induction n with
        | zero => intro _; simp
        | succ n ih =>
          intro hn
          have := ih (by omega)
          rw [lksU_step l _ n (by omega)]
          by_cases e1 : n = j
          · subst e1
            rw [if_pos hnj]
            rw [if_neg (by omega), if_neg (by omega)] at this
            rw [if_pos (by omega), if_neg (by omega)]
            omega
          · by_cases e2 : n = i
            · subst e2
              rw [if_pos rfl]
              rw [if_pos (by omega), if_neg (by omega)] at this
              rw [if_pos (by omega), if_pos (by omega)]
              omega
            · have a1 : (if j < n + 1 then 1 else 0) = if j < n then 1 else 0 := by split <;> split <;> omega
              have a2 : (if i < n + 1 then 1 else 0) = if i < n then 1 else 0 := by split <;> split <;> omega
              rw [a1, a2]; omega
      have := c1 l.length (Nat.le_refl _)
      rw [if_pos hj, if_pos hi] at this
      omega
    have hg : grouped (nsE l i j l[i] l[j]) := ⟨by rw [q1]; exact hq1, by rw [q2, hq2]; exact hlks⟩
    have hf : findP [numU l (j + 1), 0, 0, 0, 0] s = some j := hI.old j hj hlt hjk1 (by rw [hjp]; exact hlks)
    obtain ⟨j', hj', hp', hk', hal⟩ := hC.rt.hard i hi h4
    have hjl : l[i].link = l[j].path := by rw [hjp, nmE, if_pos h4]
    have ej : j' = j := nodup_paths hC.rt.uniq (by omega) hj (by rw [hp', hjl])
    subst ej
    simp only [alikeE, Bool.and_eq_true, decide_eq_true_iff] at hal
    obtain ⟨a1, a2, a3, _, _, a4⟩ := hal
    obtain ⟨_, _, m1', m2', u1', u2', g1', g2', t1', _, _⟩ := chkE_facts (hC.rt.chk _ (List.getElem_mem hj))
    have hgk := gE_kind l i l[j']
    have hpp : l[j'].path = nmE l[i] := hjp
    have hlst := lst_ge l (nmE l[i]) hi rfl l.length hi
    refine ⟨s, ?_, ⟨fun k' hk' hkt hk hl => ?_, low'⟩⟩
    · rw [stepG, if_pos hg, qk, hf, grpC]
      simp only [parE_at l i j' hlt (by omega), if_neg (show ¬ (some j' = none) by simp)]
      rw [q1, q3, q4, q5, hq1m]
      rw [if_neg (by rw [hgk.2.2.1, hgk.2.2.2.1, hgk.2.2.2.2.1, hgk.2.2.2.2.2]; omega)]
      have hg0 : (gE l i l[j']).data = [] := by
        unfold gE
        rw [if_pos ⟨hjk1, by rw [hpp]; exact hlst⟩]
      rw [if_neg (fun h => h.2 hg0)]
      have fin : ∀ M : List En, M = (l.take i).map (gE l (i + 1)) → M ++ [entM l[i].path 4 l[i].mode.toNat l[i].uid.toNat l[i].gid.toNat l[i].mtime.toNat (gE l i l[j']).path []] = parE l (i + 1) := fun M hM => by
        rw [parE, List.take_succ_eq_append_getElem hi, List.map_append, hM]
        congr 1
        have e0 : gE l (i + 1) l[i] = l[i] := by rw [gE, if_neg (fun h => by omega)]
        rw [List.map_singleton, e0, hgk.2.1]
        refine congrArg (fun x => [x]) ?_
        exact same _ _ rfl h4.symm (by simp only [entM]; omega) (by simp only [entM]; omega) (by simp only [entM]; omega) ho1.symm ho2.symm (by simp only [entM]; omega) hjl.symm (hd1 (by omega)).symm
      have oth : ∀ k (hk : k < i), k ≠ j' ∨ lstU l (nmE l[i]) 0 l.length ≠ i → gE l (i + 1) (l[k]'(by omega)) = gE l i (l[k]'(by omega)) := fun k hk hor => by
        have hkl : k < l.length := by omega
        by_cases hk1 : (l[k]'hkl).kind = 1
        · have hnm : nmE (l[k]'hkl) = (l[k]'hkl).path := by rw [nmE, if_neg (by omega)]
          have hne : lstU l (l[k]'hkl).path 0 l.length ≠ i := fun e => by
            obtain ⟨w1, w2⟩ := lst_is l (l[k]'hkl).path hkl hnm l.length (Nat.le_refl _) hkl
            simp only [e] at w2
            have ek : k = j' := nodup_paths hC.rt.uniq hkl hj (by rw [← w2, hpp])
            subst ek
            rcases hor with h | h
            · exact h rfl
            · rw [hpp] at e; exact h e
          unfold gE
          by_cases hle : i ≤ lstU l (l[k]'hkl).path 0 l.length
          · rw [if_pos ⟨hk1, by omega⟩, if_pos ⟨hk1, hle⟩]
          · rw [if_neg (fun h => hle (by omega)), if_neg (fun h => hle h.2)]
        · unfold gE
          rw [if_neg (fun h => hk1 h.1), if_neg (fun h => hk1 h.1)]
      have hown : lstU l (nmE l[i]) 0 l.length = i → gE l (i + 1) l[j'] = l[j'] := fun e => by
        rw [gE, if_neg (fun h => by have := h.2; rw [hpp] at this; omega)]
      refine congrArg (fun x => ((0 : Int), x, s)) (fin _ ?_)
      rw [er]
      simp only
      by_cases hl : lstU l (nmE l[i]) 0 l.length = i
      · rw [if_pos hl]
        have hdd : (gE l i l[j']) = { l[j'] with data := [] } := by unfold gE; rw [if_pos ⟨hjk1, by rw [hpp]; exact hlst⟩]
        have hset : { gE l i l[j'] with data := l[j'].data } = l[j'] := by rw [hdd]
        refine List.ext_getElem (by split <;> simp [parE]) fun k h1 h2 => ?_
        have hki : k < i := by simp only [List.length_map, List.length_take] at h2; omega
        have hkl : k < l.length := by omega
        have e2 : ((l.take i).map (gE l (i + 1)))[k] = gE l (i + 1) (l[k]'hkl) := by simp
        rw [e2]
        by_cases hkj : k = j'
        · subst hkj
          rw [hown hl]
          by_cases hn : l[k].data = []
          · simp only [if_pos hn]
            have : (parE l i)[k]? = some (gE l i l[k]) := parE_at l i k hki (by omega)
            rw [List.getElem?_eq_getElem (by omega)] at this
            injection this with this
            rw [this, hdd]
            exact same _ _ rfl rfl rfl rfl rfl rfl rfl rfl rfl hn.symm
          · simp only [if_neg hn]
            rw [List.getElem_set_self]
            exact hset
        · have hpe : (parE l i)[k]? = some (gE l i (l[k]'hkl)) := parE_at l i k hki (by omega)
          rw [List.getElem?_eq_getElem (by omega)] at hpe
          injection hpe with hpe
          rw [oth k hki (.inl hkj)]
          by_cases hn : l[j'].data = []
          · simp only [if_pos hn]; exact hpe
          · simp only [if_neg hn]
            rw [List.getElem_set_ne (fun e => hkj e.symm)]; exact hpe
      · rw [if_neg hl, if_pos rfl, parE]
        refine List.ext_getElem (by simp) fun k h1 h2 => ?_
        simp only [List.length_map, List.length_take] at h1
        simp only [List.getElem_map, List.getElem_take]
        exact (oth k (by omega) (.inr hl)).symm
    · by_cases e : k' = i
      · subst e; omega
      · exact hI.old k' hk' (by omega) hk hl
  · -- a file
    have h1 : l[i].kind = 1 := by omega
    have eji := hjj h4
    subst eji
    have hnm : nmE l[j] = l[j].path := by rw [nmE, if_neg h4]
    have hnum1 : numU l (j + 1) = numU l j + 1 := by rw [hnum, if_neg h4]
    have hno : findP [numU l (j + 1), 0, 0, 0, 0] s = none := by
      cases hf : findP [numU l (j + 1), 0, 0, 0, 0] s with
      | none => rfl
      | some x =>
        have := hI.low _ x hf
        simp only [List.getD_cons_zero] at this
        omega
    have hge := lst_ge l (nmE l[j]) hi rfl l.length hi
    have hdat : (rowE l j l[j] l[j]).2.2 = (gE l (j + 1) l[j]).data := by
      rw [er]
      simp only
      unfold gE
      rw [hnm] at hge ⊢
      by_cases hl : lstU l l[j].path 0 l.length = j
      · rw [if_pos hl, if_neg (fun h => by omega)]
      · rw [if_neg hl, if_pos ⟨h1, by omega⟩]
    have hge1 : entM l[j].path 1 ((rowE l j l[j] l[j]).1 % 4096) l[j].uid.toNat l[j].gid.toNat l[j].mtime.toNat [] (rowE l j l[j] l[j]).2.2 = gE l (j + 1) l[j] := by
      have hk := gE_kind l (j + 1) l[j]
      have ho : (gE l (j + 1) l[j]).owner = l[j].owner ∧ (gE l (j + 1) l[j]).group = l[j].group ∧ (gE l (j + 1) l[j]).link = l[j].link := by unfold gE; split <;> exact ⟨rfl, rfl, rfl⟩
      rw [hdat, hq1m]
      exact same _ _ hk.2.1.symm (by rw [hk.1, h1]; rfl) (by rw [hk.2.2.1]; simp only [entM]; omega) (by rw [hk.2.2.2.1]; simp only [entM]; omega) (by rw [hk.2.2.2.2.1]; simp only [entM]; omega) (by rw [ho.1, ho1]; rfl) (by rw [ho.2.1, ho2]; rfl) (by rw [hk.2.2.2.2.2]; simp only [entM]; omega) (by rw [ho.2.2, hlk (by omega) (by omega)]; rfl) rfl
    by_cases hlks : 1 < lksU l (nmE l[j]) l.length
    · have hg : grouped (nsE l j j l[j] l[j]) := ⟨by rw [q1]; exact hq1, by rw [q2, hq2]; exact hlks⟩
      refine ⟨s ++ [([numU l (j + 1), 0, 0, 0, 0], j)], ?_, ⟨fun j' hj' hlt hk hl => ?_, fun k x hk => ?_⟩⟩
      · rw [stepG, if_pos hg, qk, hno, grpC, if_pos rfl, q1, q3, q4, q5, hge1, hpl, grow (keep h4)]
      · rw [findP_new]
        by_cases e : j' = j
        · subst e; rw [hno]; simp
        · rw [hI.old j' hj' (by omega) hk hl]; rfl
      · rw [findP_new] at hk
        cases hf : findP k s with
        | some y => exact low' k y hf
        | none =>
          rw [hf] at hk
          by_cases e : k = [numU l (j + 1), 0, 0, 0, 0]
          · subst e; simp
          · rw [if_neg e] at hk; cases hk
    · have hng : ¬ grouped (nsE l j j l[j] l[j]) := fun h => hlks (by have := h.2; rw [q2, hq2] at this; exact this)
      refine ⟨s, ?_, ⟨fun j' hj' hlt hk hl => ?_, low'⟩⟩
      · rw [stepG, if_neg hng, stepM, q1, if_pos hq1, q3, q4, q5, hge1, grow (keep h4)]
      · by_cases e : j' = j
        · subst e; rw [hnm] at hlks; exact absurd hl hlks
        · exact hI.old j' hj' (by omega) hk hl
theorem arcU_grow (l : List En) (i : Nat) : ∀ k, ∃ R, arcU l (i + k) = arcU l i ++ R
  | 0 => ⟨[], by simp⟩
  | k + 1 => by
    obtain ⟨R, h⟩ := arcU_grow l i k
    exact ⟨_, by rw [show i + (k + 1) = (i + k) + 1 by omega, arcU, h, List.append_assoc]⟩
theorem run_back {l : List En} (hC : CpR l) (behind : List UInt8) : ∀ (k i : Nat), i + k = l.length → ∀ (n : Nat), k < n → ∀ (s : List (List Nat × Nat)) (PL : List Nat), Inv l i s →
    ∃ PL', runR stepG (arcB l ++ behind) n s (parE l i) PL (arcU l i).length = (l, PL', 0, 0) := by
  intro k
  induction k with
  | zero =>
    intro i hi n hn s PL _
    have : i = l.length := by omega
    subst this
    obtain ⟨n, rfl⟩ : ∃ m, n = m + 1 := ⟨n - 1, by omega⟩
    have hm := mem_at (arcU l l.length) behind 0 0 1 0 0 0 (by omega) (by omega) (by omega) (by omega) (by omega) (by omega) trailL [] (by decide) (by decide) (by decide)
    rw [if_pos rfl] at hm
    have hm2 : memS (arcB l ++ behind) (arcU l l.length).length = .fin := hm
    refine ⟨PL, ?_⟩
    rw [runR, hm2, parE_all]
  | succ k ih =>
    intro i hik n hn s PL hI
    obtain ⟨n, rfl⟩ : ∃ m, n = m + 1 := ⟨n - 1, by omega⟩
    have hi : i < l.length := by omega
    obtain ⟨j, hj, hji, hp, h4, h5, h6, _, hw⟩ := file_of hC.rt hi
    obtain ⟨s', hs, hI'⟩ := step_back hC hi hj hji hp h4 h5 h6 hI
    have hst := arcU_step hi hj hw
    rw [memE_row] at hst
    obtain ⟨R, hR⟩ := arcU_grow l (i + 1) k
    rw [show i + 1 + k = l.length by omega, hst] at hR
    have hb : arcB l ++ behind = arcU l i ++ memB (nsE l i j l[i] l[j]) l[i].path (rowE l i l[i] l[j]).2.2 ++ (R ++ trailM ++ behind) := by
      rw [arcB, hR]; simp [List.append_assoc]
    have hchk := hC.rt.chk _ (List.getElem_mem hi)
    have hchkj := hC.rt.chk _ (List.getElem_mem hj)
    obtain ⟨k1, k2, m1, m2, u1, u2, g1, g2, t1, hd1, hlk⟩ := chkE_facts hchk
    obtain ⟨ho1, ho2, ho3, ho4⟩ := hC.own _ (List.getElem_mem hi)
    have hl := hC.rt.len
    have hr1 : (rowE l i l[i] l[j]).1 ≤ 4294967295 := by unfold rowE; split <;> (try split) <;> simp only <;> omega
    have hr2 : (rowE l i l[i] l[j]).2.1 ≤ 4294967295 := by
      have := lksU_le l (nmE l[i]) l.length
      unfold rowE; split <;> (try split) <;> simp only <;> omega
    have hr3 : (rowE l i l[i] l[j]).2.2.length ≤ 1048576 := by
      unfold rowE
      split
      · simp
      · split
        · exact (data_le hchk).2
        · simp only
          split
          · exact (data_le hchkj).1
          · simp
    have hnu := numU_le l (j + 1)
    have hm := mem_at (arcU l i) (R ++ trailM ++ behind) (numU l (j + 1)) (rowE l i l[i] l[j]).1 (rowE l i l[i] l[j]).2.1 l[i].uid.toNat l[i].gid.toNat l[i].mtime.toNat (by omega) hr1 hr2 (by omega) (by omega) (by omega) l[i].path (rowE l i l[i] l[j]).2.2 (path_facts hchk).1 (path_facts hchk).2 hr3
    rw [if_neg ho4] at hm
    have hm2 : memS (arcB l ++ behind) (arcU l i).length = .mem (nsE l i j l[i] l[j]) l[i].path (rowE l i l[i] l[j]).2.2 ((arcU l i).length + (memB (nsE l i j l[i] l[j]) l[i].path (rowE l i l[i] l[j]).2.2).length) := by rw [hb]; exact hm
    rw [runR, hm2]
    simp only [hs, if_true]
    rw [← List.length_append, ← hst]
    exact ih (i + 1) (by omega) n (by omega) s' _ hI'
theorem arcU_len {l : List En} (h : Rt l) : ∀ i, i ≤ l.length → i ≤ (arcU l i).length
  | 0, _ => Nat.zero_le _
  | i + 1, hi => by
    obtain ⟨j, hj, hji, hp, h4, h5, h6, _, hw⟩ := file_of h (show i < l.length by omega)
    have := arcU_len h i (by omega)
    rw [arcU_step (by omega) hj hw, memE_row, List.length_append, memB_len _ rfl]
    omega
theorem back_read {l : List En} (h : cpErr l = 0) (behind : List UInt8) : readA (runR stepG (arcB l ++ behind) ((arcB l ++ behind).length + 1) [] [] [] 0) = (l, 0, 0) := by
  have hC := cpr_of h
  have hl := arcU_len hC.rt l.length (Nat.le_refl _)
  obtain ⟨PL, hr⟩ := run_back hC behind l.length 0 (by omega) ((arcB l ++ behind).length + 1) (by rw [arcB]; simp only [List.length_append]; omega) [] [] ⟨fun _ _ h => absurd h (by omega), fun _ _ h => by cases h⟩
  have e0 : parE l 0 = [] := by simp [parE]
  have e1 : (arcU l 0).length = 0 := rfl
  rw [e0, e1] at hr
  rw [hr, readA, rt_chk hC.rt, if_neg (by simp), if_neg (by simp)]
end Go.Proofs.YtolknddegfcmpaaDoor

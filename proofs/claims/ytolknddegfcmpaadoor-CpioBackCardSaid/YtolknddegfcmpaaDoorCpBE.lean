/- An archive of entries, in plain words. What cpio.Write's map knows of files, in plain words, and how it goes on. The walk of the closure in cpio.Write that finds an entry's file. What cpio.Write's map knows, in memory. -/
import Derived.Test.YtolknddegfcmpaaDoorEnA
import Derived.Test.YtolknddegfcmpaaDoorEnBD
import Derived.Test.YtolknddegfcmpaaDoorCpAF
import Derived.Test.YtolknddegfcmpaaDoorCpP
namespace Go.Proofs.YtolknddegfcmpaaDoor
/-- The path of the file that an entry is a name of. -/
def nmE (e : En) : List UInt8 := if e.kind = 4 then e.link else e.path
def noHard (e : En) : Bool := !decide (e.kind = 4)
/-- How many files there are up to a place. -/
def numU (l : List En) (j : Nat) : Nat := (l.take j).countP noHard
/-- How many names a file has among the first k entries. -/
def lksU (l : List En) (p : List UInt8) (k : Nat) : Nat := (l.take k).countP fun x => decide (nmE x = p)
/-- Where the last name of a file stands among the first k entries. -/
def lstU (l : List En) (p : List UInt8) (d : Nat) : Nat → Nat
  | 0 => d
  | k + 1 => if (l[k]?).map nmE = some p then k else lstU l p d k
theorem numU_step (l : List En) (j : Nat) (h : j < l.length) : numU l (j + 1) = numU l j + if l[j].kind = 4 then 0 else 1 := by
  rw [numU, numU, List.take_succ_eq_append_getElem h, List.countP_append]
  by_cases hk : l[j].kind = 4 <;> simp [noHard, hk]
theorem numU_le (l : List En) (j : Nat) : numU l j ≤ l.length := Nat.le_trans List.countP_le_length (by rw [List.length_take]; omega)
theorem lksU_step (l : List En) (p : List UInt8) (k : Nat) (h : k < l.length) : lksU l p (k + 1) = lksU l p k + if nmE l[k] = p then 1 else 0 := by
  rw [lksU, lksU, List.take_succ_eq_append_getElem h, List.countP_append]
  by_cases hk : nmE l[k] = p <;> simp [hk]
theorem lksU_le (l : List En) (p : List UInt8) (k : Nat) : lksU l p k ≤ l.length := Nat.le_trans List.countP_le_length (by rw [List.length_take]; omega)
theorem lstU_step (l : List En) (p : List UInt8) (d k : Nat) (h : k < l.length) : lstU l p d (k + 1) = if nmE l[k] = p then k else lstU l p d k := by
  rw [lstU, List.getElem?_eq_getElem h]; simp
theorem lstU_le (l : List En) (p : List UInt8) (d : Nat) : ∀ k, lstU l p d k ≤ max d k
  | 0 => by simp [lstU]
  | k + 1 => by
    have := lstU_le l p d k
    rw [lstU]
    split <;> omega
theorem lstU_any (l : List En) (p : List UInt8) (d d' i : Nat) (hi : i < l.length) (hp : nmE l[i] = p) : ∀ n, i < n → lstU l p d n = lstU l p d' n
  | 0, h => by omega
  | k + 1, h => by
    rw [lstU, lstU]
    by_cases hk : k = i
    · subst hk
      rw [List.getElem?_eq_getElem hi, Option.map_some, hp, if_pos rfl, if_pos rfl]
    · rw [lstU_any l p d d' i hi hp k (by omega)]
/-- The member of the i-th entry e, whose file stands at j. -/
def memE (l : List En) (i : Nat) (e : En) (j : Nat) (f : En) : List UInt8 :=
  if e.kind = 2 then memB (numL (numU l (j + 1)) (16384 + e.mode.toNat) 2 e.uid.toNat e.gid.toNat e.mtime.toNat 0 (e.path.length + 1)) e.path []
  else if e.kind = 3 then memB (numL (numU l (j + 1)) (40960 + e.mode.toNat) 1 e.uid.toNat e.gid.toNat e.mtime.toNat e.link.length (e.path.length + 1)) e.path e.link
  else if lstU l (nmE e) 0 l.length = i then memB (numL (numU l (j + 1)) (32768 + e.mode.toNat) (lksU l (nmE e) l.length) e.uid.toNat e.gid.toNat e.mtime.toNat f.data.length (e.path.length + 1)) e.path f.data
  else memB (numL (numU l (j + 1)) (32768 + e.mode.toNat) (lksU l (nmE e) l.length) e.uid.toNat e.gid.toNat e.mtime.toNat 0 (e.path.length + 1)) e.path []
/-- Where the file of a path stands. -/
def whereE (l : List En) (p : List UInt8) : Nat := l.findIdx fun x => decide (x.path = p)
/-- The members of the first entries. -/
def arcU (l : List En) : Nat → List UInt8
  | 0 => []
  | i + 1 => arcU l i ++ match l[i]?, l[whereE l ((l[i]?.map nmE).getD [])]? with
    | some e, some f => memE l i e (whereE l (nmE e)) f
    | _, _ => []
def trailM : List UInt8 := memB (numL 0 0 1 0 0 0 0 11) trailL []
theorem fnd_of {l : List En} (h : (l.map En.path).Nodup) {j : Nat} (hj : j < l.length) : fndE l[j].path l 0 = (j : Int) := by
  have hs := find_of h (List.getElem_mem hj)
  rcases fndE_get l[j].path l 0 with ⟨_, h2⟩ | ⟨k, hk, h1, h2⟩
  · rw [h2] at hs; cases hs
  · rw [h2] at hs
    injection hs with hs
    have := nodup_paths h hk hj (by rw [hs])
    subst this
    rw [h1]; simp
theorem where_of {l : List En} (h : (l.map En.path).Nodup) {j : Nat} (hj : j < l.length) : whereE l l[j].path = j := by
  have h1 : whereE l l[j].path < l.length := List.findIdx_lt_length_of_exists ⟨l[j], List.getElem_mem hj, by simp⟩
  have h2 := List.findIdx_getElem (w := h1)
  have h3 : l[whereE l l[j].path].path = l[j].path := by
    have h4 := h2
    rw [decide_eq_true_iff] at h4
    exact h4
  exact nodup_paths h h1 hj h3
/-- The file of an entry of a right list. -/
theorem file_of {l : List En} (h : Rt l) {i : Nat} (hi : i < l.length) :
    ∃ (j : Nat) (hj : j < l.length), j ≤ i ∧ l[j].path = nmE l[i] ∧ l[j].kind ≠ 4 ∧ (l[i].kind ≠ 4 → j = i) ∧ (l[i].kind = 4 → l[j].kind = 1) ∧ fndE (nmE l[i]) l 0 = (j : Int) ∧ whereE l (nmE l[i]) = j := by
  by_cases hk : l[i].kind = 4
  · obtain ⟨j, hj, h1, h2, _⟩ := h.hard i hi hk
    have hjl : j < l.length := by omega
    have e : nmE l[i] = l[j].path := by rw [nmE, if_pos hk, h1]
    exact ⟨j, hjl, by omega, by rw [e], by omega, fun c => absurd hk c, fun _ => h2, by rw [e]; exact fnd_of h.uniq hjl, by rw [e]; exact where_of h.uniq hjl⟩
  · have e : nmE l[i] = l[i].path := by rw [nmE, if_neg hk]
    exact ⟨i, hi, Nat.le_refl _, by rw [e], hk, fun _ => rfl, fun c => absurd c hk, by rw [e]; exact fnd_of h.uniq hi, by rw [e]; exact where_of h.uniq hi⟩
theorem arcU_step {l : List En} {i j : Nat} (hi : i < l.length) (hj : j < l.length) (hw : whereE l (nmE l[i]) = j) : arcU l (i + 1) = arcU l i ++ memE l i l[i] j l[j] := by
  rw [arcU, List.getElem?_eq_getElem hi, Option.map_some, Option.getD_some, hw, List.getElem?_eq_getElem hj]
  simp only [hw]
theorem count_one (q : En → Bool) (l : List En) (i : Nat) (hi : i < l.length) (h : ∀ k (hk : k < l.length), q l[k] = true ↔ k = i) : l.countP q = 1 := by
  have key : ∀ n, n ≤ l.length → (l.take n).countP q = if i < n then 1 else 0 := by
    intro n
    induction n with
    | zero => intro _; simp
    | succ n ih =>
      intro hn
      rw [List.take_succ_eq_append_getElem (by omega), List.countP_append, ih (by omega)]
      have hq := h n (by omega)
      by_cases hni : n = i
      · subst hni
        have e1 : [l[n]].countP q = 1 := by simp [hq.2 rfl]
        rw [e1, if_neg (by omega), if_pos (by omega)]
      · have hqf : q l[n] = false := by
          cases hb : q l[n] with
          | false => rfl
          | true => exact absurd (hq.1 hb) hni
        have e1 : [l[n]].countP q = 0 := by simp [hqf]
        rw [e1]
        split <;> split <;> omega
  have := key l.length (Nat.le_refl _)
  rw [List.take_length, if_pos hi] at this
  exact this
/-- A link of its own has one name. -/
theorem link_one {l : List En} (h : Rt l) {i : Nat} (hi : i < l.length) (h4 : l[i].kind ≠ 4) (h1 : l[i].kind ≠ 1) : lksU l (nmE l[i]) l.length = 1 := by
  rw [lksU, List.take_length]
  refine count_one _ l i hi fun k hk => ?_
  rw [decide_eq_true_iff]
  refine ⟨fun e => ?_, fun e => by subst e; rfl⟩
  rw [nmE, nmE, if_neg h4] at e
  by_cases hk4 : l[k].kind = 4
  · rw [if_pos hk4] at e
    obtain ⟨j, hj, e1, e2, _⟩ := h.hard k hk hk4
    have := nodup_paths h.uniq (by omega) hi (show l[j].path = l[i].path by rw [e1, e])
    subst this
    exact absurd e2 h1
  · rw [if_neg hk4] at e
    exact nodup_paths h.uniq hk hi e
end Go.Proofs.YtolknddegfcmpaaDoor
namespace Go.Proofs.YtolknddegfcmpaaDoor
open Go.RowKit
/-- What is known of a file: its number, how many names it has, where the last one stands, the slice of its data. -/
structure Kw where
  a : Nat
  c : Nat
  d : Nat
  v : Value
def putD (D : List UInt8 → Kw) (p : List UInt8) (x : Kw) : List UInt8 → Kw := fun y => if y = p then x else D y
theorem putD_same (D : List UInt8 → Kw) (p : List UInt8) (x : Kw) : putD D p x p = x := if_pos rfl
theorem putD_put (D : List UInt8 → Kw) (p : List UInt8) (x y : Kw) : putD (putD D p x) p y = putD D p y := by
  funext z
  by_cases h : z = p <;> simp [putD, h]
/-- Just what the first k entries tell is known. -/
def DS (l : List En) (S : Value → List UInt8 → Prop) (k : Nat) (m : List UInt8 → Option Nat) (D : List UInt8 → Kw) : Prop :=
  ∀ p, (m p = none → ∀ i (h : i < l.length), i < k → l[i].kind ≠ 4 → l[i].path ≠ p) ∧
    (∀ b, m p = some b → ∃ (i : Nat) (h : i < l.length), i < k ∧ l[i].kind ≠ 4 ∧ l[i].path = p ∧ (D p).a = numU l (i + 1) ∧ (D p).c = lksU l p k ∧ (D p).d = lstU l p 0 k ∧ S (D p).v l[i].data)
theorem DS.nil (l : List En) (S : Value → List UInt8 → Prop) (D : List UInt8 → Kw) : DS l S 0 (fun _ => none) D := fun p => ⟨fun _ i _ h => absurd h (Nat.not_lt_zero _), fun b h => by cases h⟩
variable {l : List En} {S : Value → List UInt8 → Prop} {k : Nat} {m : List UInt8 → Option Nat} {D : List UInt8 → Kw}
theorem lks_none (h : Rt l) {k : Nat} (hk : k < l.length) (h4 : l[k].kind ≠ 4) : ∀ n, n ≤ k → lksU l l[k].path n = 0 := by
  intro n
  induction n with
  | zero => intro _; simp [lksU]
  | succ n ih =>
    intro hn
    have hnl : n < l.length := by omega
    rw [lksU_step l _ n hnl, ih (by omega), if_neg ?_]
    intro e
    rw [nmE] at e
    by_cases hn4 : l[n].kind = 4
    · rw [if_pos hn4] at e
      obtain ⟨j, hj, e1, _, _⟩ := h.hard n hnl hn4
      have := nodup_paths h.uniq (show j < l.length by omega) hk (by rw [e1, e])
      omega
    · rw [if_neg hn4] at e
      have := nodup_paths h.uniq hnl hk e
      omega
theorem DS.new (h : DS l S k m D) (hR : Rt l) (hk : k < l.length) (h4 : l[k].kind ≠ 4) (b : Nat) (dv : Value) (hdv : S dv l[k].data) : DS l S (k + 1) (putP m l[k].path b) (putD D l[k].path ⟨numU l (k + 1), 1, k, dv⟩) := by
  have hnm : nmE l[k] = l[k].path := by rw [nmE, if_neg h4]
  intro p
  by_cases hp : p = l[k].path
  · subst hp
    refine ⟨fun e => by simp [putP] at e, fun b' _ => ⟨k, hk, by omega, h4, rfl, ?_⟩⟩
    rw [putD_same]
    refine ⟨rfl, ?_, ?_, hdv⟩
    · rw [lksU_step l _ k hk, lks_none hR hk h4 k (Nat.le_refl _), if_pos hnm]
    · rw [lstU_step l _ 0 k hk, if_pos hnm]
  · have e1 : putP m l[k].path b p = m p := if_neg hp
    have e2 : putD D l[k].path ⟨numU l (k + 1), 1, k, dv⟩ p = D p := if_neg hp
    have hne : ¬ nmE l[k] = p := fun e => hp (by rw [← e, hnm])
    rw [e1, e2]
    refine ⟨fun e i hi hik hi4 => ?_, fun b' hb' => ?_⟩
    · by_cases hikk : i = k
      · subst hikk; exact fun e => hp e.symm
      · exact (h p).1 e i hi (by omega) hi4
    · obtain ⟨i, hi, h1, h2, h3, r1, r2, r3, r4⟩ := (h p).2 b' hb'
      refine ⟨i, hi, by omega, h2, h3, r1, ?_, ?_, r4⟩
      · rw [r2, lksU_step l _ k hk, if_neg hne, Nat.add_zero]
      · rw [r3, lstU_step l _ 0 k hk, if_neg hne]
theorem DS.old (h : DS l S k m D) (hR : Rt l) (hk : k < l.length) (h4 : l[k].kind = 4) : ∃ b, m l[k].link = some b ∧ DS l S (k + 1) m (putD D l[k].link ⟨(D l[k].link).a, (D l[k].link).c + 1, k, (D l[k].link).v⟩) := by
  have hnm : nmE l[k] = l[k].link := by rw [nmE, if_pos h4]
  obtain ⟨j, hj, e1, e2, _⟩ := hR.hard k hk h4
  have hjl : j < l.length := by omega
  obtain ⟨b, hb⟩ : ∃ b, m l[k].link = some b := by
    cases hm : m l[k].link with
    | some b => exact ⟨b, rfl⟩
    | none => exact absurd e1 ((h l[k].link).1 hm j hjl hj (by omega))
  refine ⟨b, hb, fun p => ?_⟩
  by_cases hp : p = l[k].link
  · subst hp
    refine ⟨(fun e => by rw [hb] at e; cases e), fun b' hb' => ?_⟩
    obtain ⟨i, hi, h1, h2, h3, r1, r2, r3, r4⟩ := (h _).2 b' hb'
    refine ⟨i, hi, by omega, h2, h3, ?_⟩
    rw [putD_same]
    refine ⟨r1, ?_, ?_, r4⟩
    · rw [lksU_step l _ k hk, if_pos hnm, ← r2]
    · rw [lstU_step l _ 0 k hk, if_pos hnm]
  · have e2 : putD D l[k].link ⟨(D l[k].link).a, (D l[k].link).c + 1, k, (D l[k].link).v⟩ p = D p := if_neg hp
    have hne : ¬ nmE l[k] = p := fun e => hp (by rw [← e, hnm])
    rw [e2]
    refine ⟨fun e i hi hik hi4 => ?_, fun b' hb' => ?_⟩
    · by_cases hikk : i = k
      · subst hikk; exact absurd h4 hi4
      · exact (h p).1 e i hi (by omega) hi4
    · obtain ⟨i, hi, h1, h2, h3, r1, r2, r3, r4⟩ := (h p).2 b' hb'
      refine ⟨i, hi, by omega, h2, h3, r1, ?_, ?_, r4⟩
      · rw [r2, lksU_step l _ k hk, if_neg hne, Nat.add_zero]
      · rw [r3, lstU_step l _ 0 k hk, if_neg hne]
/-- What is known in the end of the file of an entry. -/
theorem DS.found (h : DS l S l.length m D) (hR : Rt l) {i : Nat} (hi : i < l.length) : ∃ b, m (nmE l[i]) = some b ∧ ∃ (j : Nat) (hj : j < l.length), l[j].path = nmE l[i] ∧ l[j].kind ≠ 4 ∧ (l[i].kind ≠ 4 → j = i) ∧ whereE l (nmE l[i]) = j ∧ fndE (nmE l[i]) l 0 = (j : Int) ∧
    (D (nmE l[i])).a = numU l (j + 1) ∧ (D (nmE l[i])).c = lksU l (nmE l[i]) l.length ∧ (D (nmE l[i])).d = lstU l (nmE l[i]) 0 l.length ∧ S (D (nmE l[i])).v l[j].data := by
  obtain ⟨j, hj, h1, h2, h3, h4, h5, h6, h7⟩ := file_of hR hi
  obtain ⟨b, hb⟩ : ∃ b, m (nmE l[i]) = some b := by
    cases hm : m (nmE l[i]) with
    | some b => exact ⟨b, rfl⟩
    | none => exact absurd h2 ((h _).1 hm j hj hj h3)
  obtain ⟨i', hi', r0, r1, r2, r3, r4, r5, r6⟩ := (h _).2 b hb
  have : i' = j := nodup_paths hR.uniq hi' hj (by rw [r2, h2])
  subst this
  exact ⟨b, hb, i', hi', h2, h3, h4, h7, h6, r3, r4, r5, r6⟩
theorem chkE_facts {e : En} (h : chkE e = 0) : 1 ≤ e.kind ∧ e.kind ≤ 4 ∧ 0 ≤ e.mode ∧ e.mode ≤ 4095 ∧ 0 ≤ e.uid ∧ e.uid ≤ 2097151 ∧ 0 ≤ e.gid ∧ e.gid ≤ 2097151 ∧ 0 ≤ e.mtime ∧ (e.kind ≠ 1 → e.data = []) ∧ (e.kind ≠ 3 → e.kind ≠ 4 → e.link = []) := by
  unfold chkE at h
  by_cases h1 : pathOk e.path = false
  · rw [if_pos h1] at h; exact absurd h (by decide)
  rw [if_neg h1] at h
  by_cases h2 : e.kind < 1 ∨ 4 < e.kind
  · rw [if_pos h2] at h; exact absurd h (by decide)
  rw [if_neg h2] at h
  by_cases h3 : numBad e = true
  · rw [if_pos h3] at h; exact absurd h (by decide)
  rw [if_neg h3] at h
  simp only [numBad, Bool.or_eq_true, decide_eq_true_iff, not_or] at h3
  split at h
  · exact absurd h (by decide)
  split at h
  · exact absurd h (by decide)
  split at h
  · exact absurd h (by decide)
  split at h
  · exact absurd h (by decide)
  rename_i h7
  split at h
  · exact absurd h (by decide)
  rename_i h8
  refine ⟨by omega, by omega, by omega, by omega, by omega, by omega, by omega, by omega, by omega, fun hk => ?_, fun h3' h4' => ?_⟩
  · exact Classical.byContradiction fun c => h8 ⟨hk, c⟩
  · exact Classical.byContradiction fun c => h7 ⟨h3', h4', c⟩
end Go.Proofs.YtolknddegfcmpaaDoor
namespace Go.Proofs.YtolknddegfcmpaaDoor
open Go.RowKit Go.WideMaps Go.Maps
set_option maxRecDepth 20000 in
set_option maxHeartbeats 4000000 in
theorem of_any (e : En) (dv : Value) (w : World) (A : Option Addr) (nA cap : Nat) (h : dv = .slice A nA cap) (bx mb n : Nat) (m : List UInt8 → Option Nat) (hbx : w.cell? ⟨bx, 0, none⟩ = some (.map (some mb))) (hm : PMap w mb n m)
    (hp : e.path.length ≤ 10000000) (hl : e.link.length ≤ 10000000) :
    Calls Tryd.prog 24 #[entV e dv, .pointer (some ⟨bx, 0, none⟩)] w fun r w' => r = .returned (ptrV (m (nmE e))) ∧ Below w.heap.size w w' := by
  subst h
  obtain ⟨path, kind, mode, uid, gid, owner, group, mtime, link, data⟩ := e
  have HF : Hid (nmE ⟨path, kind, mode, uid, gid, owner, group, mtime, link, data⟩ = if kind = 4 then link else path) := Lib.hid rfl
  generalize nmE ⟨path, kind, mode, uid, gid, owner, group, mtime, link, data⟩ = res at HF
  simp only [entV]
  go_enter Tryd.func24, Tryd.ntmps24
  go_upto_region 1 with fail
  have bE := Blk.new w tE #[.string (bs path), .int .i64 kind, .int .i64 mode, .int .i64 uid, .int .i64 gid, .string (bs owner), .string (bs group), .int .i64 mtime, .string (bs link), .slice A nA cap]
  have hq := (Below.refl w.heap.size w).alloc (Nat.le_refl _) (.cells #[.string (bs path), .int .i64 kind, .int .i64 mode, .int .i64 uid, .int .i64 gid, .string (bs owner), .string (bs group), .int .i64 mtime, .string (bs link), .slice A nA cap] tE)
  have hm1 := hm.below hq
  have hx1 := (Kept.of_below hq nowhere).cell hbx (fun h => h)
  clear hm hbx
  generalize w.alloc (.cells #[.string (bs path), .int .i64 kind, .int .i64 mode, .int .i64 uid, .int .i64 gid, .string (bs owner), .string (bs group), .int .i64 mtime, .string (bs link), .slice A nA cap] tE) = W at bE hq hm1 hx1 ⊢
  generalize hg : w.heap.size = g at bE ⊢
  have d0 := bE.cell 0
  have d1 := bE.cell 1
  have d8 := bE.cell 8
  simp at d0 d1 d8 hp hl
  have g1 := pget hm1 path (by omega)
  have g2 := pget hm1 link (by omega)
  by_cases h4 : kind = 4
  · have e4 : (kind == 4) = true := by simpa using h4
    have HV := Lib.hid (HF.out.trans (if_pos h4))
    clear h4 HF
    go_wp2_with fail
    go_ret
    exact ⟨by rw [HV.out]; rfl, by first | exact hq | (rw [← hg]; exact hq)⟩
  · have e4 : (kind == 4) = false := by simpa using h4
    have HV := Lib.hid (HF.out.trans (if_neg h4))
    clear h4 HF
    go_wp2_with fail
    go_ret
    exact ⟨by rw [HV.out]; rfl, by first | exact hq | (rw [← hg]; exact hq)⟩
end Go.Proofs.YtolknddegfcmpaaDoor
namespace Go.Proofs.YtolknddegfcmpaaDoor
open Go.RowKit Go.WideMaps Go.Maps
def kCells (x : Kw) : Array Value := #[.int .i64 (x.a : Int), .int .i64 (x.c : Int), .int .i64 (x.d : Int), x.v]
structure KN (H : Nat) (w : World) (m : List UInt8 → Option Nat) (D : List UInt8 → Kw) : Prop where
  blk : ∀ p b, m p = some b → Blk w b 55 (kCells (D p)) ∧ H ≤ b
  inj : ∀ p q b, m p = some b → m q = some b → p = q
variable {H : Nat} {w w' : World} {m : List UInt8 → Option Nat} {D : List UInt8 → Kw}
theorem KN.nil (H : Nat) (w : World) (D : List UInt8 → Kw) : KN H w (fun _ => none) D := ⟨(fun _ _ h => by cases h), (fun _ _ _ h => by cases h)⟩
theorem KN.keep {X : Nat → Prop} (h : KN H w m D) (k : Kept X w w') (hX : ∀ p b, m p = some b → ¬ X b) : KN H w' m D :=
  ⟨fun p b hb => ⟨k.blk (h.blk p b hb).1 (hX p b hb), (h.blk p b hb).2⟩, h.inj⟩
theorem KN.below (h : KN H w m D) (hb : Below w.heap.size w w') : KN H w' m D := h.keep (Kept.of_below hb nowhere) fun _ _ _ h => h
theorem KN.lt (h : KN H w m D) {p : List UInt8} {b : Nat} (hb : m p = some b) : b < w.heap.size := (h.blk p b hb).1.lt
theorem KN.put (h : KN H w m D) (p : List UInt8) (x : Kw) (g : Nat) (hg : Blk w g 55 (kCells x)) (hH : H ≤ g) (hne : ∀ q b, m q = some b → b ≠ g) : KN H w (putP m p g) (putD D p x) := by
  refine ⟨fun q b hb => ?_, fun q r b hq hr => ?_⟩
  · by_cases hq : q = p
    · subst hq
      rw [putP, if_pos rfl] at hb
      injection hb with hb
      subst hb
      rw [putD_same]
      exact ⟨hg, hH⟩
    · rw [putP, if_neg hq] at hb
      have e : putD D p x q = D q := if_neg hq
      rw [e]
      exact h.blk q b hb
  · by_cases e1 : q = p <;> by_cases e2 : r = p
    · rw [e1, e2]
    · rw [putP, if_pos e1] at hq
      rw [putP, if_neg e2] at hr
      injection hq with hq
      exact absurd hq.symm (hne r b hr)
    · rw [putP, if_neg e1] at hq
      rw [putP, if_pos e2] at hr
      injection hr with hr
      exact absurd hr.symm (hne q b hq)
    · rw [putP, if_neg e1] at hq
      rw [putP, if_neg e2] at hr
      exact h.inj q r b hq hr
theorem KN.set (h : KN H w m D) {p : List UInt8} {b : Nat} (hb : m p = some b) (x : Kw) (k : Kept (fun i => i = b) w w') (hB : Blk w' b 55 (kCells x)) : KN H w' m (putD D p x) := by
  refine ⟨fun q c hc => ?_, h.inj⟩
  by_cases hq : q = p
  · subst hq
    rw [hb] at hc
    injection hc with hc
    subst hc
    rw [putD_same]
    exact ⟨hB, (h.blk q b hb).2⟩
  · have e : putD D p x q = D q := if_neg hq
    rw [e]
    refine ⟨k.blk (h.blk q c hc).1 fun e => hq ?_, (h.blk q c hc).2⟩
    subst e
    exact h.inj q p c hc hb
theorem KN.at (h : KN H w m D) {p : List UInt8} {b : Nat} (hb : m p = some b) : w.cell? ⟨b, 0, none⟩ = some (.int .i64 ((D p).a : Int)) ∧ w.cell? ⟨b, 1, none⟩ = some (.int .i64 ((D p).c : Int)) ∧ w.cell? ⟨b, 2, none⟩ = some (.int .i64 ((D p).d : Int)) ∧ w.cell? ⟨b, 3, none⟩ = some (D p).v := by
  have hB := (h.blk p b hb).1
  have d0 := hB.cell 0
  have d1 := hB.cell 1
  have d2 := hB.cell 2
  have d3 := hB.cell 3
  simp [kCells] at d0 d1 d2 d3
  exact ⟨d0, d1, d2, d3⟩
theorem KN.apartM (h : KN H w m D) {mb n : Nat} {f : List UInt8 → Option Nat} (hm : PMap w mb n f) {p : List UInt8} {b : Nat} (hb : m p = some b) : b ≠ mb := fun e => by
  obtain ⟨es, c, hq⟩ := hm.blk
  have := (h.blk p b hb).1
  rw [e] at this
  rw [Blk, hq] at this
  injection this with this
  cases this
theorem Blk.apartT {t t' : TypeId} {g g' : Nat} {cs cs' : Array Value} (h : Blk w g t cs) (h' : Blk w g' t' cs') (hne : t ≠ t') : g ≠ g' := fun e => by
  subst e
  rw [Blk, h'] at h
  injection h with h
  injection h with _ h
  exact hne h.symm
theorem Blk.apartP {t : TypeId} {g mb n : Nat} {cs : Array Value} {f : List UInt8 → Option Nat} (h : Blk w g t cs) (hm : PMap w mb n f) : g ≠ mb := fun e => by
  obtain ⟨es, c, hq⟩ := hm.blk
  rw [e] at h
  rw [Blk, hq] at h
  injection h with h
  cases h
theorem own_typed {base : Nat} {e : TypeId} {size : Nat} {v : Value} {n : Nat} {xs : List Value} (h : w.ownsRow base e size v n xs) {g : Nat} (hg : v.ownBlock = some g) : ∃ cs, Blk w g e cs := by
  rcases h.2 with ⟨rfl, _⟩ | ⟨g', cap, cur, rfl, _, hb, _⟩
  · simp [Value.ownBlock] at hg
  · simp [Value.ownBlock] at hg
    subst hg
    exact ⟨cur, hb⟩
/-- What lies below a bound stays. -/
theorem Kept.low {B : Nat} (h : Below B w w') : Kept (fun k => B ≤ k) w w' := ⟨h.os, h.tape, h.output, h.size, fun k _ hx => h.block k (by omega)⟩
/-- An entry's data read in the beginning as they read now. -/
theorem sl_back {w wr : World} {l : List En} {b off cap k : Nat} {dv : Value} {n : Nat} (hb : Below w.heap.size w wr) (h0 : Sl 10 Rent (fun k => w.heap.size ≤ k) w (.slice (some ⟨b, off, none⟩) n cap) l) (hk : k < l.length) (hat : EntAt wr b (off + k * 10) l[k] dv) (_ : Sl 1 Rbyte (fun k => w.heap.size ≤ k) wr dv l[k].data) :
    Sl 1 Rbyte (fun k => w.heap.size ≤ k) w dv l[k].data := by
  have hn := h0.at.1
  obtain ⟨b', off', hA, hX, hc⟩ := h0.ent (by omega)
  injection hA with hA
  injection hA with e1 e2
  subst e1 e2
  obtain ⟨dv', hat', hdv'⟩ := hc k hk
  have h9 := (Kept.low hb).cell hat'.c9 hX
  rw [hat.c9] at h9
  injection h9 with h9
  rw [h9]
  exact hdv'
theorem cp_right {l : List En} (h : cpErr l = 0) : Rt l ∧ ∀ e ∈ l, e.mtime ≤ 4294967295 := by
  unfold cpErr at h
  by_cases h1 : (chkL l).2 = 0
  · rw [if_neg (by simpa using h1)] at h
    by_cases h2 : l.any named = true
    · rw [if_pos h2] at h; exact absurd h (by decide)
    rw [if_neg h2] at h
    by_cases h3 : l.any late = true
    · rw [if_pos h3] at h; exact absurd h (by decide)
    refine ⟨(chk_rt l).1 h1, fun e he => ?_⟩
    exact Classical.byContradiction fun c => h3 (List.any_eq_true.2 ⟨e, he, by rw [late]; exact decide_eq_true (by omega)⟩)
  · rw [if_pos (by simpa using h1)] at h
    exact absurd h h1
end Go.Proofs.YtolknddegfcmpaaDoor

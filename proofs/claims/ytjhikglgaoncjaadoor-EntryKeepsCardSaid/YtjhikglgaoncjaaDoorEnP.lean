/- Canon, plain: the least path of each file's group, the places of files; look-ups without ok. -/
import Derived.Test.YtjhikglgaoncjaaDoorEnO
namespace Go.Proofs.YtjhikglgaoncjaaDoor
open Go.RowKit Go.WideMaps Go.Maps
theorem nlk {w : World} {b n : Nat} {m : List UInt8 → Option Int} (h : NMap w b n m) (key : List UInt8) (hkl : key.length ≤ 1000000000) :
    (Instr.lookup 46 (.map (some b)) (.string (bs key)) true).run Tryd.prog w = .ok (.tuple #[.int .i64 ((m key).getD 0), .bool (m key).isSome]) w := by
  obtain ⟨c, D, ho, hc, hr⟩ := nlook_all h key hkl
  obtain ⟨D', ho', hI, hD⟩ := h
  have hk := keyOf_string_mk Tryd.underlying9 (s := bs key) (by rw [bs_size]; unfold maxLen; omega)
  rw [bs_list] at hk
  have hp0 : plainElem (H := Unit) Tryd.prog 3 (.int .i64 0) = some (.lit (.int .i64 0), []) := plainElem_int Tryd.underlying3 (by decide)
  cases hm : m key with
  | some y =>
    have := hr w ho
    rw [hm] at this
    rw [this, hc y hm]; rfl
  | none =>
    obtain ⟨v, ps, hrun, hv⟩ := ho'.look_ok keyS Tryd.underlying46 (zeroI w) hp0 hk
    have hno : has D' (.string key) = false := by rw [(hD key).1, hm]; rfl
    rw [atKey_of_not_has hno] at hv
    obtain ⟨c', rfl, hc', _⟩ := plainElem_int_inv Tryd.underlying3 hv
    have e : (0 : Int) = c' := (Lit.int.inj (DataW.lit.inj (congrArg Prod.fst hc'))).2
    subst e
    have hno2 : (has D' (.string key)) = false := hno
    exact hrun.trans (by show Result.ok (Value.tuple #[.int .i64 0, .bool (has D' (.string key))]) w = _; rw [hno2]; rfl)
theorem nget {w : World} {b n : Nat} {m : List UInt8 → Option Int} (h : NMap w b n m) (key : List UInt8) (hkl : key.length ≤ 1000000000) :
    (Instr.lookup 46 (.map (some b)) (.string (bs key)) false).run Tryd.prog w = .ok (.int .i64 ((m key).getD 0)) w := by
  obtain ⟨D', ho', hI, hD⟩ := h
  have hk := keyOf_string_mk Tryd.underlying9 (s := bs key) (by rw [bs_size]; unfold maxLen; omega)
  rw [bs_list] at hk
  obtain ⟨c, hrun, hat, _⟩ := ho'.lookup_int keyS Tryd.underlying46 Tryd.underlying3 (zeroI w) hk
  rw [hrun]
  cases hm : m key with
  | some y =>
    have := (hD key).2 y hm
    rw [hat] at this
    have e : c = y := (Lit.int.inj (DataW.lit.inj this)).2
    rw [e]; rfl
  | none =>
    have hno : has D' (.string key) = false := by rw [(hD key).1, hm]; rfl
    rw [atKey_of_not_has hno] at hat
    have e : (0 : Int) = c := (Lit.int.inj (DataW.lit.inj hat)).2
    rw [← e]; rfl
/-- Is it a name of a file? -/
def isF (e : En) : Prop := e.kind = 1 ∨ e.kind = 4
instance (e : En) : Decidable (isF e) := inferInstanceAs (Decidable (_ ∨ _))
def pathAt (l : List En) (k : Int) : List UInt8 := (l[k.toNat]?.map En.path).getD []
/-- Is the entry the least of its group so far? -/
def newLeast (l : List En) (m : List UInt8 → Option Int) (e : En) : Bool := match m (fileE e) with
  | none => true
  | some k => Op.bytesLess e.path (pathAt l k)
/-- By each file's path the place of the least path of its group, among the first i. -/
def leastM (l : List En) : Nat → List UInt8 → Option Int
  | 0 => fun _ => none
  | i + 1 => match l[i]? with
    | none => leastM l i
    | some e => if isF e ∧ newLeast l (leastM l i) e = true then putM (leastM l i) (fileE e) i else leastM l i
/-- The places of files, among the first i. -/
def dataM (l : List En) : Nat → List UInt8 → Option Int
  | 0 => fun _ => none
  | i + 1 => match l[i]? with
    | none => dataM l i
    | some e => if e.kind = 1 then putM (dataM l i) e.path i else dataM l i
theorem leastM_step (l : List En) (i : Nat) (h : i < l.length) : leastM l (i + 1) = if isF l[i] ∧ newLeast l (leastM l i) l[i] = true then putM (leastM l i) (fileE l[i]) i else leastM l i := by
  rw [leastM, List.getElem?_eq_getElem h]
theorem dataM_step (l : List En) (i : Nat) (h : i < l.length) : dataM l (i + 1) = if l[i].kind = 1 then putM (dataM l i) l[i].path i else dataM l i := by
  rw [dataM, List.getElem?_eq_getElem h]
theorem leastM_lt (l : List En) : ∀ (i : Nat) (p : List UInt8) (v : Int), leastM l i p = some v → ∃ k : Nat, v = k ∧ k < i ∧ k < l.length
  | 0, p, v, h => by cases h
  | i + 1, p, v, h => by
    by_cases hi : i < l.length
    · rw [leastM_step l i hi] at h
      split at h
      · rw [putM] at h
        split at h
        · injection h with h; exact ⟨i, h.symm, by omega, hi⟩
        · obtain ⟨k, h1, h2, h3⟩ := leastM_lt l i p v h; exact ⟨k, h1, by omega, h3⟩
      · obtain ⟨k, h1, h2, h3⟩ := leastM_lt l i p v h; exact ⟨k, h1, by omega, h3⟩
    · rw [leastM, List.getElem?_eq_none (by omega)] at h
      obtain ⟨k, h1, h2, h3⟩ := leastM_lt l i p v h; exact ⟨k, h1, by omega, h3⟩
theorem dataM_lt (l : List En) : ∀ (i : Nat) (p : List UInt8) (v : Int), dataM l i p = some v → ∃ k : Nat, v = k ∧ k < i ∧ k < l.length
  | 0, p, v, h => by cases h
  | i + 1, p, v, h => by
    by_cases hi : i < l.length
    · rw [dataM_step l i hi] at h
      split at h
      · rw [putM] at h
        split at h
        · injection h with h; exact ⟨i, h.symm, by omega, hi⟩
        · obtain ⟨k, h1, h2, h3⟩ := dataM_lt l i p v h; exact ⟨k, h1, by omega, h3⟩
      · obtain ⟨k, h1, h2, h3⟩ := dataM_lt l i p v h; exact ⟨k, h1, by omega, h3⟩
    · rw [dataM, List.getElem?_eq_none (by omega)] at h
      obtain ⟨k, h1, h2, h3⟩ := dataM_lt l i p v h; exact ⟨k, h1, by omega, h3⟩
/-- The place that a look-up hands out. -/
def atN (m : List UInt8 → Option Int) (p : List UInt8) : Nat := ((m p).getD 0).toNat
theorem leastN (l : List En) (i : Nat) (p : List UInt8) (h : 0 < l.length) : ((leastM l i p).getD 0) = (atN (leastM l i) p : Int) ∧ atN (leastM l i) p < l.length := by
  rw [atN]
  cases hm : leastM l i p with
  | none => exact ⟨rfl, h⟩
  | some v => obtain ⟨k, rfl, _, h3⟩ := leastM_lt l i p v hm; exact ⟨rfl, h3⟩
theorem dataN (l : List En) (i : Nat) (p : List UInt8) (h : 0 < l.length) : ((dataM l i p).getD 0) = (atN (dataM l i) p : Int) ∧ atN (dataM l i) p < l.length := by
  rw [atN]
  cases hm : dataM l i p with
  | none => exact ⟨rfl, h⟩
  | some v => obtain ⟨k, rfl, _, h3⟩ := dataM_lt l i p v hm; exact ⟨rfl, h3⟩
def entAt (l : List En) (k : Nat) : En := l.getD k ⟨[], 0, 0, 0, 0, [], [], 0, [], []⟩
/-- What becomes of the i-th entry. -/
def outE (l : List En) (i : Nat) (e : En) : En :=
  if isF e then
    (if i = atN (leastM l l.length) (fileE e) then { e with kind := 1, link := [], data := (entAt l (atN (dataM l l.length) (fileE e))).data }
    else { e with kind := 4, link := (entAt l (atN (leastM l l.length) (fileE e))).path, data := [] })
  else e
/-- The entries, the first k of them as they will be. -/
def outK (l : List En) (k : Nat) : List En := (l.take k).mapIdx (outE l) ++ l.drop k
/-- A map that is written turns no row of entries. -/
theorem Sl.byte_off {X : Nat → Prop} {w : World} {v : Value} {l : List UInt8} {m n : Nat} {f : List UInt8 → Option Int} (h : Sl 1 Rbyte X w v l) (hm : NMap w m n f) : Sl 1 Rbyte (fun b => X b ∨ b = m) w v l := by
  obtain ⟨A, cap, hv, h1, h2, h3, h4, h5⟩ := h
  refine ⟨A, cap, hv, h1, h2, h3, fun hl => ?_, h5⟩
  obtain ⟨b, off, hA, hX, hc⟩ := h4 hl
  refine ⟨b, off, hA, fun e => ?_, fun j hj => ?_⟩
  · rcases e with e | e
    · exact hX e
    · have hpos : 0 < l.length := List.length_pos_iff.2 hl
      obtain ⟨cs, hcs, hR⟩ := hc 0 hpos
      have hR : cs = [.int .u8 (l[0].toNat : Int)] := hR
      subst hR
      have hcell := hcs 0 _ rfl
      obtain ⟨es, c, hbk⟩ := hm.blk
      subst e
      simp [World.cell?, hbk] at hcell
  · obtain ⟨cs, hcs, hR⟩ := hc j hj
    exact ⟨cs, hcs, hR⟩
theorem EO.map {B : Nat} {w w' : World} {v : Value} {l : List En} {f : Nat → Value} {m n : Nat} {fm : List UInt8 → Option Int} (h : EO B w v l f) (hm : NMap w m n fm) (k : Kept (fun b => b = m) w w') : EO B w' v l f := by
  refine ⟨k.own h.row fun b hb e => ?_, fun j hj => ?_⟩
  · subst e
    obtain ⟨es, c, hbk⟩ := hm.blk
    rcases h.row.2 with ⟨rfl, _⟩ | ⟨g, cap, cur, rfl, _, hg, _⟩
    · simp [Value.ownBlock] at hb
    · have e : g = b := Option.some.inj hb
      subst e
      rw [hbk] at hg
      injection hg with hg
      cases hg
  · exact (((h.dat j hj).byte_off hm).keep good_byte (k.mono fun b _ e => .inr e)).mono good_byte (by decide) fun b _ e => .inl e
end Go.Proofs.YtjhikglgaoncjaaDoor

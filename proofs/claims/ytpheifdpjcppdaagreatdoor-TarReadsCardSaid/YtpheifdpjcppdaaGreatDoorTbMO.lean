/- Tar, in plain words: what a step of reading leaves. The walk of tar's Read. Printed by gen_tbn.py. The walk of tar's awake. The document's Light of entries, at 4000 bytes. -/
import Derived.Test.YtpheifdpjcppdaaGreatDoorTbL
import Derived.Deep.CutBlock
import Derived.Test.YtpheifdpjcppdaaGreatDoorTaPr
import Derived.Test.YtpheifdpjcppdaaGreatDoorEnMN
import Derived.Test.YtpheifdpjcppdaaGreatDoorEnJL
import Derived.Lib.SmallJoins
namespace Go.Proofs.YtpheifdpjcppdaaGreatDoor
open Go.RowKit
/-- What was told is not too long. -/
def TL (t : Td) : Prop := ∀ k p, t k = some p → p.1.length ≤ 10000000 ∧ p.2 ≤ 4611686018427387904
theorem ud_codes (v : List UInt8) : udCode v = 0 ∨ udCode v = 3 ∨ udCode v = 4 := by
  unfold udCode
  split
  · exact .inr (.inl rfl)
  split
  · split
    · exact .inr (.inr rfl)
    · exact .inl rfl
  · exact .inr (.inl rfl)
theorem ud_small {v : List UInt8} (h : udCode v = 0) : decNum v ≤ 4611686018427387903 := by
  unfold udCode at h
  split at h
  · exact absurd h (by decide)
  split at h
  · split at h
    · exact absurd h (by decide)
    · omega
  · exact absurd h (by decide)
theorem TL.upd {t : Td} (h : TL t) {k v : List UInt8} {n : Nat} (hv : v.length ≤ 10000000) (hn : n ≤ 4611686018427387904) : TL (updS t k (v, n)) := fun k' p hp => by
  unfold updS at hp
  split at hp
  · injection hp with hp
    subst hp
    exact ⟨hv, hn⟩
  · exact h k' p hp
theorem none_upd {t : Td} {k : List UInt8} {x : List UInt8 × Nat} (h : noneB t = false) : noneB (updS t k x) = false := by
  simp only [noneB, Bool.and_eq_false_iff, Option.isNone_eq_false_iff] at h ⊢
  have f : ∀ j, (t j).isSome = true → (updS t k x j).isSome = true := fun j hj => by
    unfold updS
    split
    · rfl
    · exact hj
  rcases h with (h | h) | h
  · exact .inl (.inl (f _ h))
  · exact .inl (.inr (f _ h))
  · exact .inr (f _ h)
theorem none_new {t : Td} {kd : UInt8} {x : List UInt8 × Nat} (h : isTell kd = true) : noneB (updS t [kd] x) = false := by
  have h3 : kd = 76 ∨ kd = 75 ∨ kd = 120 := of_decide_eq_true h
  have e : updS t [kd] x [kd] = some x := by simp [updS]
  simp only [noneB, Bool.and_eq_false_iff, Option.isNone_eq_false_iff]
  rcases h3 with h3 | h3 | h3
  · exact .inl (.inl (by rw [h3] at e ⊢; rw [e]; rfl))
  · exact .inl (.inr (by rw [h3] at e ⊢; rw [e]; rfl))
  · exact .inr (by rw [h3] at e ⊢; rw [e]; rfl)
theorem key_next {t : Td} (hT : TL t) (hN : noneB t = false) {k v : List UInt8} (hv : v.length ≤ 10000000) (h : (keyT t k v).1 = 0) : TL (keyT t k v).2 ∧ noneB (keyT t k v).2 = false := by
  unfold keyT at h ⊢
  split at h
  · rename_i h1
    rw [if_pos h1]
    exact ⟨hT.upd hv (by omega), none_upd hN⟩
  rename_i h1
  rw [if_neg h1]
  split at h
  · rename_i h2
    rw [if_pos h2]
    split at h
    · rename_i h3
      rw [if_pos h3]
      have := ud_small h3
      exact ⟨hT.upd hv (by omega), none_upd hN⟩
    · rename_i h3; exact absurd h h3
  · exact absurd h (show ¬ (9 : Int) = 0 by decide)
theorem key_codes (t : Td) (k v : List UInt8) : (keyT t k v).1 = 0 ∨ (keyT t k v).1 = 3 ∨ (keyT t k v).1 = 4 ∨ (keyT t k v).1 = 9 := by
  unfold keyT
  split
  · exact .inl rfl
  split
  · split
    · exact .inl rfl
    · rcases ud_codes v with h | h | h
      · exact .inl h
      · exact .inr (.inl h)
      · exact .inr (.inr (.inl h))
  · exact .inr (.inr (.inr rfl))
theorem rec_len {s : List UInt8} {n : Nat} {k v : List UInt8} (h : recP s = some (n, k, v)) : v.length ≤ s.length := by
  unfold recP at h
  split at h
  · cases h
  split at h
  · cases h
  split at h
  · cases h
  · injection h with h
    have : v = _ := (congrArg (fun x => x.2.2) h).symm
    rw [this]
    simp only [List.length_drop, fldB, List.length_take]
    omega
theorem rec_next : ∀ (f : Nat) (t : Td) (s : List UInt8), TL t → noneB t = false → s.length ≤ 10000000 → (recS f t s).1 = 0 → TL (recS f t s).2 ∧ noneB (recS f t s).2 = false
  | 0, t, _, hT, hN, _, _ => ⟨hT, hN⟩
  | f + 1, t, s, hT, hN, hs, h => by
    rw [recS] at h ⊢
    by_cases h1 : s = []
    · rw [if_pos h1]; exact ⟨hT, hN⟩
    rw [if_neg h1] at h ⊢
    cases hr : recP s with
    | none => rw [hr] at h; exact absurd h (show ¬ (3 : Int) = 0 by decide)
    | some x =>
      obtain ⟨n, k, v⟩ := x
      rw [hr] at h
      simp only at h ⊢
      by_cases h2 : (keyT t k v).1 = 0
      · rw [if_pos h2] at h ⊢
        have hv := rec_len hr
        obtain ⟨a, b⟩ := key_next hT hN (by omega : v.length ≤ 10000000) h2
        exact rec_next f _ _ a b (by rw [List.length_drop]; omega) h
      · rw [if_neg h2] at h
        exact absurd h h2
theorem rec_codes : ∀ (f : Nat) (t : Td) (s : List UInt8), (recS f t s).1 = 0 ∨ (recS f t s).1 = 3 ∨ (recS f t s).1 = 4 ∨ (recS f t s).1 = 9
  | 0, _, _ => .inl rfl
  | f + 1, t, s => by
    rw [recS]
    by_cases h1 : s = []
    · rw [if_pos h1]; exact .inl rfl
    rw [if_neg h1]
    cases hr : recP s with
    | none => exact .inr (.inl rfl)
    | some x =>
      obtain ⟨n, k, v⟩ := x
      simp only
      by_cases h2 : (keyT t k v).1 = 0
      · rw [if_pos h2]; exact rec_codes f _ _
      · rw [if_neg h2]; exact key_codes t k v
theorem tell_codes (t : Td) (kd : UInt8) (d : List UInt8) : (tellS t kd d).1 = 0 ∨ (tellS t kd d).1 = 3 ∨ (tellS t kd d).1 = 4 ∨ (tellS t kd d).1 = 9 := by
  unfold tellS
  split
  · exact rec_codes _ _ _
  split
  · exact .inr (.inl rfl)
  · exact .inl rfl
theorem tell_next {t : Td} (hT : TL t) {kd : UInt8} (hk : isTell kd = true) {d : List UInt8} (hd : d.length ≤ 10000000) (h : (tellS t kd d).1 = 0) : TL (tellS t kd d).2 ∧ noneB (tellS t kd d).2 = false := by
  unfold tellS at h ⊢
  by_cases h1 : kd = 120
  · rw [if_pos h1] at h ⊢
    exact rec_next _ _ _ (hT.upd (by simp) (by omega)) (none_new (kd := 120) (by rfl)) hd h
  · rw [if_neg h1] at h ⊢
    by_cases h2 : Lib.indexByte d 0 < 0
    · rw [if_pos h2] at h; exact absurd h (show ¬ (3 : Int) = 0 by decide)
    · rw [if_neg h2]
      have := upZ_le d
      exact ⟨hT.upd (by omega) (by omega), none_new hk⟩
theorem TL.none : TL (fun _ => none) := fun k p h => by cases h
theorem ok_of {t : Td} (h : noneB t = false) : TdOk t := fun _ _ => h
theorem ok_none : TdOk (fun _ => none) := fun k h => absurd rfl h
/-- A step that fails tells another code than that of heads without an entry. -/
theorem step_bad {b : List UInt8} {t : Td} {p : Nat} {c : Int} (h : stepT b t p = .bad c) : c ≠ 0 ∧ c ≠ 15 := by
  unfold stepT at h
  split at h
  · injection h with h; subst h; decide
  split at h
  · split at h
    · injection h with h; subst h; decide
    split at h
    · injection h with h; subst h; decide
    split at h
    · cases h
    · cases h
  · cases hh : headS (fldB b p 512) with
    | bad e =>
      rw [hh] at h
      injection h with h
      subst h
      exact head_bad hh
    | ok hd =>
      rw [hh] at h
      simp only at h
      unfold bodyS at h
      split at h
      · split at h
        · injection h with h; subst h; decide
        split at h
        · injection h with h; subst h; decide
        split at h
        · cases h
        · rename_i h3
          injection h with h
          rcases tell_codes t hd.kind (fldB b (p + 512) hd.size) with e | e | e | e
          · exact absurd e h3
          · rw [← h, e]; decide
          · rw [← h, e]; decide
          · rw [← h, e]; decide
      split at h
      · injection h with h; subst h; decide
      split at h
      · injection h with h; subst h; decide
      split at h
      · injection h with h; subst h; decide
      · cases h
theorem fld_le (b : List UInt8) (k n : Nat) : (fldB b k n).length ≤ b.length := by rw [fldB, List.length_take, List.length_drop]; omega
theorem step_tell {b : List UInt8} {t t' : Td} {p nx : Nat} (hb : b.length ≤ 10000000) (hT : TL t) (h : stepT b t p = .tell t' nx) : p + 512 ≤ nx ∧ nx ≤ b.length ∧ TL t' ∧ noneB t' = false := by
  unfold stepT at h
  split at h
  · cases h
  split at h
  · split at h
    · cases h
    split at h
    · cases h
    split at h
    · cases h
    · cases h
  · cases hh : headS (fldB b p 512) with
    | bad e => rw [hh] at h; cases h
    | ok hd =>
      rw [hh] at h
      simp only at h
      unfold bodyS at h
      split at h
      · rename_i h1
        split at h
        · cases h
        split at h
        · cases h
        rename_i h2
        split at h
        · rename_i h3
          injection h with e1 e2
          have h4 := fld_le b (p + 512) hd.size
          obtain ⟨a, c⟩ := tell_next hT h1 (by omega : (fldB b (p + 512) hd.size).length ≤ 10000000) h3
          rw [← e1, ← e2]
          exact ⟨by omega, by omega, a, c⟩
        · cases h
      split at h
      · cases h
      split at h
      · cases h
      split at h
      · cases h
      · cases h
theorem orT_le {t : Td} (hT : TL t) (k s : List UInt8) (hs : s.length ≤ 10000000) : (orT t k s).length ≤ 10000000 := by
  unfold orT
  cases h : t k with
  | none => exact hs
  | some p => exact (hT k p h).1
theorem cutSl_le (s : List UInt8) : (cutSl s).length ≤ s.length := by
  unfold cutSl
  split
  · rw [List.length_dropLast]; omega
  · omega
theorem hdR_lens (l : List UInt8) : (hdR l).name.length ≤ 155 ∧ (hdR l).pfx.length ≤ 155 ∧ (hdR l).link.length ≤ 155 ∧ (hdR l).owner.length ≤ 155 ∧ (hdR l).group.length ≤ 155 := by
  have f : ∀ a b, b ≤ 155 → (upZ (fldB l a b)).length ≤ 155 := fun a b hb => by
    have h1 := upZ_le (fldB l a b)
    have h2 : (fldB l a b).length ≤ b := by rw [fldB, List.length_take]; omega
    omega
  exact ⟨f 0 100 (by omega), f 345 155 (by omega), f 157 100 (by omega), f 265 32 (by omega), f 297 32 (by omega)⟩
theorem entS_eb {t : Td} (hT : TL t) (l d : List UInt8) : EB (entS t (hdR l) d) := by
  obtain ⟨h1, h2, h3, h4, h5⟩ := hdR_lens l
  have hn : (nameR (hdR l)).length ≤ 1000 := by
    unfold nameR
    split
    · simp only [List.length_append, List.length_cons, List.length_nil]; omega
    · omega
  have hp := orT_le hT kPth _ (orT_le hT [76] (nameR (hdR l)) (by omega))
  have hc := cutSl_le (orT t kPth (orT t [76] (nameR (hdR l))))
  have ho := orT_le hT kOwn (hdR l).owner (by omega)
  have hg := orT_le hT kGrp (hdR l).group (by omega)
  have hl := orT_le hT kLnk _ (orT_le hT [75] (hdR l).link (by omega))
  refine ⟨?_, by show (orT t kOwn (hdR l).owner).length ≤ _; omega, by show (orT t kGrp (hdR l).group).length ≤ _; omega, ?_⟩
  · unfold entS
    simp only
    split <;> omega
  · unfold entS
    simp only
    split
    · omega
    · simp
theorem step_ent {b : List UInt8} {t : Td} {p nx : Nat} {e : En} (hT : TL t) (h : stepT b t p = .ent e nx) : p + 512 ≤ nx ∧ nx ≤ b.length ∧ EB e ∧ e.data.length ≤ b.length := by
  unfold stepT at h
  split at h
  · cases h
  split at h
  · split at h
    · cases h
    split at h
    · cases h
    split at h
    · cases h
    · cases h
  · cases hh : headS (fldB b p 512) with
    | bad e => rw [hh] at h; cases h
    | ok hd =>
      rw [hh] at h
      have hhd := head_ok hh
      simp only at h
      unfold bodyS at h
      split at h
      · split at h
        · cases h
        split at h
        · cases h
        split at h
        · cases h
        · cases h
      split at h
      · cases h
      split at h
      · cases h
      split at h
      · cases h
      · rename_i h2
        injection h with e1 e2
        rw [← e1, ← e2]
        refine ⟨by omega, by omega, by rw [hhd]; exact entS_eb hT _ _, fld_le _ _ _⟩
end Go.Proofs.YtpheifdpjcppdaaGreatDoor
namespace Go.Proofs.YtpheifdpjcppdaaGreatDoor
open Go.RowKit
section
variable {w0 w w' : World} {gr mf : Nat} {bv lv pv : Value} {L : List En} {f : Nat → Value} {PL : List Nat} {t : Td} {fr : Nat}
/-- What is written in a block of no part of the reader. -/
theorem RT.poke (h : RT w0 gr mf bv lv pv L f PL t fr w) {g : Nat} {ty : TypeId} {cs : Array Value} (hg : Blk w g ty cs) (hH : w0.heap.size ≤ g) (h1 : ty ≠ 58) (h2 : tE ≠ ty ∨ lv.ownBlock ≠ some g) (h3 : 3 ≠ ty) (hd : ∀ j, j < L.length → Sl 1 Rbyte (fun k => BX gr mf lv pv k ∨ k = g) w (f j) (L[j]?.map En.data |>.getD [])) (i : Nat) (u : Value) : RT w0 gr mf bv lv pv L f PL t fr (w.setCell ⟨g, i, none⟩ u) := by
  have hk : Kept (fun k => k = g) w (w.setCell ⟨g, i, none⟩ u) := (Kept.refl _ w).setCell u fun _ => rfl
  have hlv : lv.ownBlock ≠ some g := h2.elim (fun e => own_notblk h.row hg e) id
  obtain ⟨mo, hmo, hM⟩ := h.mp
  refine ⟨h.bel.trans (hk.below h.bel.size fun k _ e => by rw [e]; exact hH), hk.blk h.blk fun e => Blk.apartT h.blk hg (fun c => h1 c.symm) e, own_other h.row u hlv, fun j hj => ?_, h.frs, own_other h.pl u (own_notblk h.pl hg h3), ⟨mo, ?_, hM⟩, h.grH, h.mfH⟩
  · have := hd j hj
    rw [List.getElem?_eq_getElem hj] at this
    exact (this.keep good_byte (hk.mono fun k _ e => .inr e)).mono good_byte (by omega) fun k _ e => .inl e
  · exact (hk.block mf (Array.getElem?_eq_some_iff.1 hmo).1 fun e => blk_notmap hg hmo hM.isMap e.symm).trans hmo
/-- Bytes do not lie in a block without bytes. -/
theorem Sl.off {X : Nat → Prop} {v : Value} {d : List UInt8} (h : Sl 1 Rbyte X w v d) {g : Nat} {t : TypeId} {cs : Array Value} (hg : Blk w g t cs) (hno : ∀ (i : Nat) (b : Int), cs[i]? ≠ some (Value.int .u8 b)) : Sl 1 Rbyte (fun k => X k ∨ k = g) w v d := by
  obtain ⟨A, cap, hv, h1, h2, h3, h4, h5⟩ := h
  refine ⟨A, cap, hv, h1, h2, h3, fun hl => ?_, h5⟩
  obtain ⟨b, off, hA, hX, hc⟩ := h4 hl
  refine ⟨b, off, hA, fun e => e.elim hX fun e => ?_, hc⟩
  subst e
  have hpos : 0 < d.length := by
    rcases Nat.eq_zero_or_pos d.length with h0 | h0
    · exact absurd (List.eq_nil_of_length_eq_zero h0) hl
    · exact h0
  obtain ⟨cs1, hcs, hR⟩ := hc 0 hpos
  have hR : cs1 = [.int .u8 (d[0].toNat : Int)] := hR
  subst hR
  have := hcs 0 _ rfl
  rw [hg.cell] at this
  exact hno _ _ this
theorem RT.poke1 (h : RT w0 gr mf bv lv pv L f PL t fr w) {g : Nat} {ty : TypeId} {cs : Array Value} (hg : Blk w g ty cs) (hH : w0.heap.size ≤ g) (h1 : ty ≠ 58) (h2 : tE ≠ ty) (h3 : 3 ≠ ty) (hno : ∀ (i : Nat) (b : Int), cs[i]? ≠ some (Value.int .u8 b)) (i : Nat) (u : Value) : RT w0 gr mf bv lv pv L f PL t fr (w.setCell ⟨g, i, none⟩ u) :=
  h.poke hg hH h1 (.inl h2) h3 (fun j hj => by rw [List.getElem?_eq_getElem hj]; exact (h.dat j hj).off hg hno) i u
theorem no3 (s : ByteArray) (a c : Int) : ∀ (i : Nat) (b : Int), (#[.string s, .int .i64 a, .int .i64 c] : Array Value)[i]? ≠ some (Value.int .u8 b) := by
  intro i b h
  match i, h with
  | 0, h => simp at h
  | 1, h => simp at h
  | 2, h => simp at h
  | i + 3, h => simp at h
theorem blk_set3 {g : Nat} {t : TypeId} {a b c : Value} (h : Blk w g t #[a, b, c]) (a' b' c' : Value) :
    Blk (((w.setCell ⟨g, 0, none⟩ a').setCell ⟨g, 1, none⟩ b').setCell ⟨g, 2, none⟩ c') g t #[a', b', c'] := by
  have := ((h.set (u := a') 0).set (u := b') 1).set (u := c') 2
  simpa using this
theorem RT.poke3 (h : RT w0 gr mf bv lv pv L f PL t fr w) {g : Nat} {s : ByteArray} {a c : Int} (hg : Blk w g 31 #[.string s, .int .i64 a, .int .i64 c]) (hH : w0.heap.size ≤ g) (s' : ByteArray) (a' c' : Int) :
    RT w0 gr mf bv lv pv L f PL t fr (((w.setCell ⟨g, 0, none⟩ (.string s')).setCell ⟨g, 1, none⟩ (.int .i64 a')).setCell ⟨g, 2, none⟩ (.int .i64 c')) := by
  have g1 : Blk (w.setCell ⟨g, 0, none⟩ (.string s')) g 31 #[.string s', .int .i64 a, .int .i64 c] := by have := hg.set (u := .string s') 0; simpa using this
  have g2 : Blk ((w.setCell ⟨g, 0, none⟩ (.string s')).setCell ⟨g, 1, none⟩ (.int .i64 a')) g 31 #[.string s', .int .i64 a', .int .i64 c] := by have := g1.set (u := .int .i64 a') 1; simpa using this
  exact ((h.poke1 hg hH (by decide) (by decide) (by decide) (no3 _ _ _) 0 _).poke1 g1 hH (by decide) (by decide) (by decide) (no3 _ _ _) 1 _).poke1 g2 hH (by decide) (by decide) (by decide) (no3 _ _ _) 2 _
theorem blk_other3 {g g2 : Nat} {t : TypeId} {cs : Array Value} (h : Blk w g t cs) (hne : g ≠ g2) (x y z : Value) : Blk (((w.setCell ⟨g2, 0, none⟩ x).setCell ⟨g2, 1, none⟩ y).setCell ⟨g2, 2, none⟩ z) g t cs :=
  ((h.other (a := ⟨g2, 0, none⟩) x hne).other (a := ⟨g2, 1, none⟩) y hne).other (a := ⟨g2, 2, none⟩) z hne
end
def ReadP (w : World) (x : List En × Int × Int) (r : Ending) (w' : World) : Prop :=
  (∃ v f, r = .returned (.tuple #[v, .agg #[.string ⟨#[]⟩, .int .i64 x.2.1, .int .i64 x.2.2]]) ∧ EO w.heap.size w' v x.1 f ∧ ∀ j, j < x.1.length → ∀ bb, (f j).ownBlock = some bb → w.heap.size ≤ bb) ∧ Below w.heap.size w w'
theorem EO.nil (B : Nat) (w : World) (f : Nat → Value) : EO B w (.slice none 0 0) [] f := ⟨World.ownsRow_nil _ _ _ _, fun j h => by simp at h⟩
theorem goE_idx : ∀ (l a : List En), (goE a l).2 ≠ 0 → ∃ i : Nat, (goE a l).1 = ((a.length + i : Nat) : Int) ∧ i < l.length
  | [], a, h => absurd rfl h
  | e :: t, a, h => by
    rw [goE] at h ⊢
    by_cases hb : badE a e = 0
    · rw [if_pos hb] at h ⊢
      obtain ⟨i, h1, h2⟩ := goE_idx t (a ++ [e]) h
      exact ⟨i + 1, by rw [h1, List.length_append, List.length_singleton]; omega, by simp; omega⟩
    · rw [if_neg hb]
      exact ⟨0, by simp, by simp⟩
theorem chkL_idx (l : List En) (hl : l.length ≤ 4096) (h : (chkL l).2 ≠ 0) : ∃ i : Nat, (chkL l).1 = (i : Int) ∧ i < l.length := by
  rw [chkL, if_neg (by omega)] at h ⊢
  obtain ⟨i, h1, h2⟩ := goE_idx l [] h
  exact ⟨i, by rw [h1]; simp, h2⟩
/-- A whole slice of entries, cut where it ends. -/
theorem slice_all {X : Nat → Prop} {w : World} {A : Option Addr} {n cap : Nat} {l : List En} (h : Sl 10 Rent X w (.slice A n cap) l) (W : World) : (Instr.slice 22 (.slice A n cap) none (some (.int .i64 (n : Int))) none).run Tryz.prog W = .ok (.slice A n cap) W := by
  obtain ⟨hn, h1, h2, _⟩ := h.at
  obtain ⟨i0, hi, hz0, hz1, hz2⟩ := info_parts info_ent
  unfold maxLen at h2
  have ht : Tryz.prog.underlying 22 = some (.slice tE) := Tryz.underlying22
  have hcap : (n : Int) ≤ (cap : Int) := by omega
  simp [Instr.slice, Instr.sliceBounds, Instr.sliceBound, run_underlying ht, sizeOf, typeInfo, hi, hz1, asIntOf, h1]
  intro _
  cases A with
  | none => rfl
  | some a => simp [Addr.add]
theorem read_init (w : World) (bv : Value) (f : Nat → Value) : ∃ W gR mf gr gF, W = ((((w.alloc (.cells #[.string ⟨#[]⟩, .int .i64 0, .int .i64 0] 31)).alloc (.map #[] 0)).alloc (.cells #[bv, .slice none 0 0, .slice none 0 0, .map (some (w.heap.size + 1)), .int .i64 0] 58)).alloc (.cells #[.string ⟨#[]⟩, .int .i64 0, .int .i64 0] 31)) ∧
    gR = w.heap.size ∧ mf = w.heap.size + 1 ∧ gr = w.heap.size + 1 + 1 ∧ gF = w.heap.size + 1 + 1 + 1 ∧ RT w gr mf bv (.slice none 0 0) (.slice none 0 0) [] f [] (fun _ => none) 0 W ∧ Blk W gR 31 #[.string ⟨#[]⟩, .int .i64 0, .int .i64 0] ∧ Blk W gF 31 #[.string ⟨#[]⟩, .int .i64 0, .int .i64 0] ∧ w.heap.size ≤ gR ∧ w.heap.size ≤ gF ∧ gR ≠ gF := by
  refine ⟨_, _, _, _, _, rfl, rfl, rfl, rfl, rfl, ?_, ?_, ?_, by omega, by omega, by omega⟩
  · have e1 : (w.alloc (.cells #[.string ⟨#[]⟩, .int .i64 0, .int .i64 0] 31)).heap.size = w.heap.size + 1 := by simp
    have e2 : ((w.alloc (.cells #[.string ⟨#[]⟩, .int .i64 0, .int .i64 0] 31)).alloc (.map #[] 0)).heap.size = w.heap.size + 1 + 1 := by simp
    have e3 : (((w.alloc (.cells #[.string ⟨#[]⟩, .int .i64 0, .int .i64 0] 31)).alloc (.map #[] 0)).alloc (.cells #[bv, .slice none 0 0, .slice none 0 0, .map (some (w.heap.size + 1)), .int .i64 0] 58)).heap.size = w.heap.size + 1 + 1 + 1 := by simp
    refine ⟨(((((Below.refl w.heap.size w).alloc (Nat.le_refl _) _).alloc (by rw [e1]; omega) _).alloc (by rw [e2]; omega) _).alloc (by rw [e3]; omega) _), ?_, World.ownsRow_nil _ _ _ _, fun j h => by simp at h, fun j h => by simp at h, World.ownsRow_nil _ _ _ _, ⟨.map #[] 0, ?_, by rw [show tdM (fun _ => none) = fun _ => none by funext k; rfl]; exact MapS.nil⟩, by omega, by omega⟩
    · have := (Blk.new ((w.alloc (.cells #[.string ⟨#[]⟩, .int .i64 0, .int .i64 0] 31)).alloc (.map #[] 0)) 58 #[bv, .slice none 0 0, .slice none 0 0, .map (some (w.heap.size + 1)), .int .i64 0]).alloc (.cells #[.string ⟨#[]⟩, .int .i64 0, .int .i64 0] 31)
      rw [e2] at this
      exact this
    · have := heap_alloc_new (w.alloc (.cells #[.string ⟨#[]⟩, .int .i64 0, .int .i64 0] 31)) (.map #[] 0)
      rw [e1] at this
      have h2 := (Below.heap_alloc ((w.alloc (.cells #[.string ⟨#[]⟩, .int .i64 0, .int .i64 0] 31)).alloc (.map #[] 0)) (.cells #[bv, .slice none 0 0, .slice none 0 0, .map (some (w.heap.size + 1)), .int .i64 0] 58) (w.heap.size + 1) (by rw [e2]; omega)).trans this
      exact (Below.heap_alloc _ (.cells #[.string ⟨#[]⟩, .int .i64 0, .int .i64 0] 31) (w.heap.size + 1) (by rw [e3]; omega)).trans h2
  · exact (((Blk.new w 31 #[.string ⟨#[]⟩, .int .i64 0, .int .i64 0]).alloc _).alloc _).alloc _
  · have := Blk.new (((w.alloc (.cells #[.string ⟨#[]⟩, .int .i64 0, .int .i64 0] 31)).alloc (.map #[] 0)).alloc (.cells #[bv, .slice none 0 0, .slice none 0 0, .map (some (w.heap.size + 1)), .int .i64 0] 58)) 31 #[.string ⟨#[]⟩, .int .i64 0, .int .i64 0]
    have e3 : (((w.alloc (.cells #[.string ⟨#[]⟩, .int .i64 0, .int .i64 0] 31)).alloc (.map #[] 0)).alloc (.cells #[bv, .slice none 0 0, .slice none 0 0, .map (some (w.heap.size + 1)), .int .i64 0] 58)).heap.size = w.heap.size + 1 + 1 + 1 := by simp
    rw [e3] at this
    exact this
/-- Where nothing was told, the first place tells nothing. -/
theorem run_fr (b : List UInt8) : ∀ (n f1 f2 : Nat) (L : List En) (PL : List Nat) (p : Nat), runT b n (fun _ => none) f1 L PL p = runT b n (fun _ => none) f2 L PL p
  | 0, _, _, _, _, _ => rfl
  | n + 1, f1, f2, L, PL, p => by
    rw [runT, runT]
    cases h : stepT b (fun _ => none) p with
    | bad c => rfl
    | order =>
      exfalso
      unfold stepT at h
      split at h
      · cases h
      split at h
      · split at h
        · cases h
        split at h
        · cases h
        split at h
        · rename_i h3; exact absurd h3 (by decide)
        · cases h
      · cases hh : headS (fldB b p 512) with
        | bad c => rw [hh] at h; cases h
        | ok hd =>
          rw [hh] at h
          simp only at h
          unfold bodyS at h
          split at h
          · split at h
            · cases h
            split at h
            · cases h
            split at h
            · cases h
            · cases h
          split at h
          · cases h
          split at h
          · cases h
          split at h
          · cases h
          · cases h
    | fin => rfl
    | tell t' nx => rfl
    | ent e nx => exact run_fr b n f1 f2 _ _ _
set_option maxRecDepth 20000 in
set_option maxHeartbeats 16000000 in
theorem tread_any (bv : Value) (bb : List UInt8) (X : Nat → Prop) (w : World) (hb0 : Sl 1 Rbyte X w bv bb) (hbl : bb.length ≤ 1000000) :
    Calls Tryz.prog 11 #[bv] w (ReadP w (readA (runT bb (bb.length + 1) (fun _ => none) 0 [] [] 0))) := by
  have hb : Sl 1 Rbyte (fun k => w.heap.size ≤ k) w bv bb := hb0.mono good_byte (by omega) fun k hk h => absurd h (by omega)
  clear hb0
  obtain ⟨Ab, capb, rfl, hb1, hb2⟩ := hb.form
  unfold maxLen at hb2
  obtain ⟨R, HR⟩ : ∃ R, Hid (runT bb (bb.length + 1) (fun _ => none) 0 [] [] 0 = R) := ⟨_, Lib.hid rfl⟩
  rw [HR.out]
  have hmm := @run_makeMap Tryz.prog
  go_enter Tryz.func11, Tryz.ntmps11
  go_upto_region 3 with fail
  obtain ⟨W1, gR, mf, gr, gF, hW1, hgR, hmf, hgr, hgF, rd, bR, bF, hRH, hFH, hRF⟩ := read_init w (.slice Ab bb.length capb) (fun _ => undef)
  rw [← hW1, ← hgF, ← hgr, ← hmf, ← hgR]
  clear hW1 hgR hmf hgr hgF hmm
  go_upto_block 0 with fail
  go_cut [] (fun wz => ∃ mf lv pv L f PL t fr at_ code, RT w gr mf (.slice Ab bb.length capb) lv pv L f PL t fr wz ∧ Blk wz gF 31 #[.string ⟨#[]⟩, .int .i64 ((at_ : Nat) : Int), .int .i64 code] ∧ Blk wz gR 31 #[.string ⟨#[]⟩, .int .i64 0, .int .i64 0] ∧ PL.length = L.length ∧ (∀ e ∈ L, EB e) ∧ L.length ≤ 4000 ∧ Hid (R = (L, PL, at_, code)))
  case first =>
    go_wp2_with fail
    go_loopg [6] (bb.length + 1) (fun G s6 wr => ∃ mf lv pv L f PL t fr, RT w gr mf (.slice Ab bb.length capb) lv pv L f PL t fr wr ∧ Blk wr gF 31 #[.string ⟨#[]⟩, .int .i64 0, .int .i64 0] ∧ Blk wr gR 31 #[.string ⟨#[]⟩, .int .i64 0, .int .i64 0] ∧ PL.length = L.length ∧ (∀ e ∈ L, EB e) ∧ 512 * L.length ≤ 1000000 ∧
      ((∃ k p : Nat, G = k ∧ s6 = .int .i64 p ∧ p ≤ bb.length ∧ bb.length < k + p ∧ 512 * L.length ≤ p ∧ TL t ∧ TdOk t ∧ Hid (runT bb k t fr L PL p = R)) ∨ (s6 = .int .i64 (-1) ∧ Hid (R = (L, PL, 0, 0)))))
    case atStart => exact ⟨_, _, _, [], _, [], _, _, rd, bF, bR, rfl, (fun e he => by cases he), by simp, .inl ⟨bb.length + 1, 0, rfl, rfl, Nat.zero_le _, by omega, by simp, TL.none, ok_none, HR⟩⟩
    case round =>
      clear rd bF bR HR
      obtain ⟨mf, lv, pv, L, f, PL, t, fr, rd, bF, bR, hPL, hEB, hLl, hmode⟩ := hrel
      rcases hmode with ⟨k, p, hGk, rfl, hp, hk, hLp, hTL, hTO, HR⟩ | ⟨rfl, HR⟩
      rotate_left
      · go_wp2_with fail
        go_meet
        exact ⟨mf, lv, pv, L, f, PL, t, fr, 0, 0, rd, bF, bR, hPL, hEB, by omega, HR⟩
      · have hkp : 0 < k := by omega
        have t1 : decide ((0 : Int) ≤ (p : Int)) = true := by simp
        have t2 : decide ((4096 : Int) < (L.length : Int)) = false := decide_eq_false (by omega)
        have t2b : decide (4096 < L.length) = false := decide_eq_false (by omega)
        obtain ⟨k', hkk⟩ : ∃ k', k = k' + 1 := ⟨k - 1, by omega⟩
        rw [hkk] at HR
        have r1 : wr.cell? ⟨gr, 1, none⟩ = some lv := by have := rd.blk.cell 1; simpa using this
        obtain ⟨Al, cl, hlv⟩ := own_form rd.row
        have hm := tmember_any rd bb hb (by omega) hTO (fun k q hq => hTL k q hq) p hp (by omega) (by omega)
        have HRB : Hid (∀ c, stepT bb t p = .bad c → R = (L, PL, p, c)) := Lib.hid fun c h => by rw [← HR.out, runT, h]
        have HRO : Hid (stepT bb t p = .order → R = (L, PL, fr, 15)) := Lib.hid fun h => by rw [← HR.out, runT, h]
        have HRF : Hid (stepT bb t p = .fin → R = (L, PL, 0, 0)) := Lib.hid fun h => by rw [← HR.out, runT, h]
        have HRT : Hid (∀ t' nx, stepT bb t p = .tell t' nx → runT bb k' t' (if noneB t = true then p else fr) L PL nx = R) := Lib.hid fun t' nx h => by rw [← HR.out, runT, h]
        have HRE : Hid (∀ e nx, stepT bb t p = .ent e nx → runT bb k' (fun _ => none) fr (L ++ [e]) (PL ++ [p]) nx = R) := Lib.hid fun e nx h => by rw [← HR.out, runT, h]
        have HSB := Lib.hid (fun c (h : stepT bb t p = .bad c) => step_bad h)
        have HST := Lib.hid (fun t' nx (h : stepT bb t p = .tell t' nx) => step_tell (by omega) hTL h)
        have HSE := Lib.hid (fun e nx (h : stepT bb t p = .ent e nx) => step_ent hTL h)
        generalize stepT bb t p = M at hm HRB HRO HRF HRT HRE HSB HST HSE
        subst hlv
        clear HR hTL hTO
        go_upto_region 7 with (go_at_call 25; refine hm.mono ?_; rintro r W2 ⟨kk, c, mf2, lv2, pv2, f2, L2, PL2, t2', fr2, rfl, rd2, hk2, hq2⟩)
        have hX : ∀ g cs, Blk wr g 31 cs → ¬ BX gr mf (.slice Al L.length cl) pv g := fun g cs hg => rd.off hg (by decide) (by decide) (by decide)
        have bF2 := hk2.blk bF (hX _ _ bF)
        have bR2 := hk2.blk bR (hX _ _ bR)
        clear hX hk2 rd bF bR hm r1
        cases M with
        | bad e =>
          obtain ⟨rfl, rfl, rfl⟩ := hq2
          obtain ⟨he0, he15⟩ := HSB.out c rfl
          have hcb : (c != 0) = true := by simpa using he0
          have hc15 : (c == 15) = false := by simpa using he15
          have HV : Hid (R = (L2, PL2, p, c)) := Lib.hid (HRB.out c rfl)
          clear HRB HRO HRF HRT HRE HSB HST HSE he0 he15
          have z0 := bF2.cell 0
          have z1 := bF2.cell 1
          have z2 := bF2.cell 2
          simp at z0 z1 z2
          have f0 := bF2.frozen 0
          have f1 := bF2.frozen 1
          have f2' := bF2.frozen 2
          have rdE := rd2.poke3 bF2 hFH ⟨#[]⟩ (p : Int) c
          have bFE := blk_set3 bF2 (.string ⟨#[]⟩) (.int .i64 p) (.int .i64 c)
          have bRE := blk_other3 bR2 hRF (.string ⟨#[]⟩) (.int .i64 p) (.int .i64 c)
          go_wp2_with fail
          go_meet
          exact ⟨_, _, _, L2, _, PL2, _, _, p, c, rdE, bFE, bRE, hPL, hEB, by omega, HV⟩
        | order =>
          obtain ⟨rfl, rfl, rfl, rfl⟩ := hq2
          have HV : Hid (R = (L2, PL2, fr2, 15)) := Lib.hid (HRO.out rfl)
          have r4 : W2.cell? ⟨gr, 4, none⟩ = some (.int .i64 (fr2 : Int)) := by have := rd2.blk.cell 4; simpa using this
          clear HRB HRO HRF HRT HRE HSB HST HSE
          have z0 := bF2.cell 0
          have z1 := bF2.cell 1
          have z2 := bF2.cell 2
          simp at z0 z1 z2
          have f0 := bF2.frozen 0
          have f1 := bF2.frozen 1
          have f2' := bF2.frozen 2
          have rdE := rd2.poke3 bF2 hFH ⟨#[]⟩ (fr2 : Int) 15
          have bFE := blk_set3 bF2 (.string ⟨#[]⟩) (.int .i64 fr2) (.int .i64 15)
          have bRE := blk_other3 bR2 hRF (.string ⟨#[]⟩) (.int .i64 fr2) (.int .i64 15)
          go_wp2_with fail
          go_meet
          exact ⟨_, _, _, L2, _, PL2, _, _, fr2, 15, rdE, bFE, bRE, hPL, hEB, by omega, HV⟩
        | fin =>
          obtain ⟨rfl, rfl, rfl, rfl⟩ := hq2
          have HV : Hid (R = (L2, PL2, 0, 0)) := Lib.hid (HRF.out rfl)
          clear HRB HRO HRF HRT HRE HSB HST HSE
          go_wp2_with fail
          go_roundg 0
          case measure => omega
          case rel => exact ⟨mf2, lv2, pv2, L2, f2, PL2, t2', fr2, rd2, bF2, bR2, hPL, hEB, hLl, .inr ⟨rfl, HV⟩⟩
        | tell tt nx =>
          obtain ⟨rfl, rfl, rfl, rfl, rfl, hfr⟩ := hq2
          obtain ⟨hn1, hn2, hTL2, hno2⟩ := HST.out t2' nx rfl
          have HV : Hid (runT bb k' t2' fr2 L2 PL2 nx = R) := Lib.hid (by rw [hfr]; exact HRT.out t2' nx rfl)
          have HTL2 := Lib.hid hTL2
          have HNO2 := Lib.hid hno2
          clear HRB HRO HRF HRT HRE HSB HST HSE hfr hTL2 hno2
          go_wp2_with fail
          go_roundg k'
          case measure => omega
          case rel => exact ⟨mf2, lv2, pv2, L2, f2, PL2, t2', fr2, rd2, bF2, bR2, hPL, hEB, hLl, .inl ⟨k', nx, rfl, rfl, hn2, by omega, by omega, HTL2.out, ok_of HNO2.out, HV⟩⟩
        | ent e nx =>
          obtain ⟨rfl, rfl, hL2, hPL2, ht2⟩ := hq2
          obtain ⟨hn1, hn2, heb, hdl⟩ := HSE.out e nx rfl
          have HV : Hid (runT bb k' (fun _ => none) fr (L ++ [e]) (PL ++ [p]) nx = R) := Lib.hid (HRE.out e nx rfl)
          have hfrr : ∀ (n : Nat) (f1 f2 : Nat) (L : List En) (PL : List Nat) (p : Nat), runT bb n (fun _ => none) f1 L PL p = runT bb n (fun _ => none) f2 L PL p := run_fr bb
          have HV2 : Hid (runT bb k' t2' fr2 L2 PL2 nx = R) := Lib.hid (by rw [ht2, hL2, hPL2, hfrr k' fr2 fr]; exact HV.out)
          have hln : L2.length = L.length + 1 := by rw [hL2, List.length_append, List.length_singleton]
          have hpn : PL2.length = L2.length := by rw [hPL2, hln, List.length_append, List.length_singleton, hPL]
          have hEB2 : ∀ e ∈ L2, EB e := fun x hx => by
            rw [hL2, List.mem_append, List.mem_singleton] at hx
            rcases hx with hx | rfl
            · exact hEB x hx
            · exact heb
          have HT2 : Hid (TL t2' ∧ TdOk t2') := Lib.hid (by rw [ht2]; exact ⟨TL.none, ok_none⟩)
          have HEB2 := Lib.hid hEB2
          clear HRB HRO HRF HRT HRE HSB HST HSE hfrr HV ht2 hPL2 heb hdl hEB2 hEB
          have hb1 : 512 * L2.length ≤ nx := by rw [hln]; omega
          have hb3 : 512 * L2.length ≤ 1000000 := by omega
          clear hL2 hln
          go_wp2_with fail
          go_roundg k'
          case measure => omega
          case rel => exact ⟨mf2, lv2, pv2, L2, f2, PL2, t2', fr2, rd2, bF2, bR2, hpn, HEB2.out, hb3, .inl ⟨k', nx, rfl, rfl, hn2, by omega, hb1, HT2.out.1, HT2.out.2, HV2⟩⟩
  case rest =>
    obtain ⟨mf', lv, pv, L, f, PL, t, fr, at_, code, rd, bF, bR, hPL, hEB, hLl, HRR⟩ := hcut
    clear HR
    obtain ⟨Al, cl, hlv⟩ := own_form rd.row
    have hsl := rd.eo.sl
    rw [hlv] at hsl
    have hslc := slice_all hsl
    have hmin : min (L.length : Int) (IntKind.i64.wrap 4096) = (L.length : Int) := by
      rw [i64_in 4096 (by omega) (by omega)]; omega
    have hmin2 : min (L.length : Int) 4096 = (L.length : Int) := by omega
    have r1 : wc.cell? ⟨gr, 1, none⟩ = some (.slice Al L.length cl) := by have := rd.blk.cell 1; rw [hlv] at this; simpa using this
    go_upto_region 12 with fail
    refine wp_region_plan (fun W => W.cell? ⟨gr, 1, none⟩ = some (.slice Al L.length cl)) [(false, 0), (false, 1), (false, 2), (false, 3), (false, 4), (false, 5), (false, 6), (false, 7), (false, 8), (false, 9), (false, 10), (false, 11)] (by kernel_rfl) (by kernel_rfl) (r1) ?_
    simp only [planOps, List.map, List.getD_cons_zero, List.getD_cons_succ]
    iterate 12 ((first | refine plan_quiet (v := ?_) rfl rfl (fun w' hw' => ?_) ?_ | refine plan_calm (v := ?_) (tt_of) rfl (fun w' hw' => ?_) ?_); rotate_left; (focus (go_simp <;> (first | with_reducible rfl | (rw [if_neg (by simp [undef])]; try rfl) | omega))); simp only [Act.put, List.setIfInBounds_toArray, List.set_cons_zero, List.set_cons_succ])
    refine plan_end ?_
    have q1 := (Below.refl wc.heap.size wc).drew
    have rd1 := rd.below q1
    have bF1 := bF.below q1 bF.lt
    have bR1 := bR.below q1 bR.lt
    have hsl1 := Below.sl good_ent q1 hsl
    clear rd bF bR hsl q1 r1
    generalize wc.drew = W1 at rd1 bF1 bR1 hsl1 ⊢
    have hck := pchkall_any L _ _ W1 hsl1 ⟨by omega, hEB⟩
    have hix := chkL_idx L (by omega)
    have HA : Hid (readA R = if (chkL L).2 ≠ 0 then ([], ((PL.getD (chkL L).1.toNat 0 : Nat) : Int), (chkL L).2) else if code ≠ 0 then ([], ((at_ : Nat) : Int), code) else (L, 0, 0)) := Lib.hid (by rw [HRR.out]; rfl)
    obtain ⟨XX, HXX⟩ : ∃ x, Hid (readA R = x) := ⟨_, Lib.hid rfl⟩
    rw [HXX.out] at HA
    generalize (chkL L).1 = c1 at hck HA hix
    generalize (chkL L).2 = c2 at hck HA hix
    go_upto_region 14 with (go_at_call 15; refine hck.mono ?_; rintro r W2 ⟨rfl, q2⟩)
    have rd2 := rd1.below q2
    have bF2 := bF1.below q2 bF1.lt
    have bR2 := bR1.below q2 bR1.lt
    clear rd1 bF1 bR1 hsl1 q2 hck
    have z0 := bR2.cell 0
    have z1 := bR2.cell 1
    have z2 := bR2.cell 2
    simp at z0 z1 z2
    have f0 := bR2.frozen 0
    have f1 := bR2.frozen 1
    have f2 := bR2.frozen 2
    by_cases hc2 : c2 = 0
    rotate_left
    · obtain ⟨i, hi1, hi2⟩ := hix hc2
      subst hi1
      have hcb : (c2 != 0) = true := by simpa using hc2
      obtain ⟨gp, cp, hpv⟩ : ∃ gp cp, pv = .slice (some ⟨gp, 0, none⟩) PL.length cp := by
        rcases rd2.pl.2 with ⟨_, h0⟩ | ⟨g, cap, cur, h, _⟩
        · omega
        · exact ⟨g, cap, h⟩
      have hpl := rd2.pl
      rw [hpv] at hpl
      have hcell := hpl.cellAt i (by omega)
      have hiv : (PL.map vP)[i]? = some (.int .i64 ((PL[i]'(by omega) : Nat) : Int)) := by simp [vP, show i < PL.length by omega]
      rw [hiv] at hcell
      have HV : Hid (XX = ([], ((PL[i]'(by omega) : Nat) : Int), c2)) := Lib.hid (by
        rw [HA.out, if_pos hc2, Int.toNat_natCast, List.getD_eq_getElem?_getD, List.getElem?_eq_getElem (by omega)]; rfl)
      generalize PL[i]'(by omega) = pp at hcell HV
      have r2 : W2.cell? ⟨gr, 2, none⟩ = some (.slice (some ⟨gp, 0, none⟩) PL.length cp) := by have := rd2.blk.cell 2; rw [hpv] at this; simpa using this
      have j1 : (0 : Int) ≤ (i : Int) := by omega
      have j2 : (i : Int) < (PL.length : Int) := by omega
      clear HA hix hc2 hiv hpl
      go_upto_region 15 with fail
      refine wp_region_plan (fun W => W.cell? ⟨gr, 2, none⟩ = some (.slice (some ⟨gp, 0, none⟩) PL.length cp) ∧ W.cell? ⟨gp, i, none⟩ = some (.int .i64 pp)) [(false, 0), (false, 1), (false, 2), (false, 3), (false, 4), (false, 5), (false, 6), (false, 7), (false, 8), (false, 9), (true, 10)] (by kernel_rfl) (by kernel_rfl) (⟨r2, hcell⟩) ?_
      simp only [planOps, List.map, List.getD_cons_zero, List.getD_cons_succ]
      iterate 10 ((first | refine plan_quiet (v := ?_) rfl rfl (fun w' hw' => ?_) ?_ | refine plan_calm (v := ?_) (tt_of) rfl (fun w' hw' => ?_) ?_); rotate_left; (focus (go_simp <;> (first | with_reducible rfl | (rw [if_neg (by simp [undef])]; try rfl) | omega))); simp only [Act.put, List.setIfInBounds_toArray, List.set_cons_zero, List.set_cons_succ])
      refine plan_last rfl (by kernel_rfl) (by kernel_rfl) (fun K hK => ?_)
      go_simp
      refine hK _ _ (trivial) ?_
      clear hK K
      (try simp only [Act.put, List.setIfInBounds_toArray, List.set_cons_zero, List.set_cons_succ])
      refine plan_end ?_
      have rdE := (rd2.poke3 bR2 hRH ⟨#[]⟩ (pp : Int) c2).below ((Below.refl _ _).drew)
      have bRE : Blk ((((W2.setCell ⟨gR, 0, none⟩ (.string ⟨#[]⟩)).setCell ⟨gR, 1, none⟩ (.int .i64 (pp : Int))).setCell ⟨gR, 2, none⟩ (.int .i64 c2)).drew) gR 31 #[.string ⟨#[]⟩, .int .i64 (pp : Int), .int .i64 c2] := blk_set3 bR2 (.string ⟨#[]⟩) (.int .i64 (pp : Int)) (.int .i64 c2)
      clear z0 z1 z2 f0 f1 f2 rd2 bF2 bR2
      go_wp2_with fail
      generalize (((W2.setCell ⟨gR, 0, none⟩ (.string ⟨#[]⟩)).setCell ⟨gR, 1, none⟩ (.int .i64 (pp : Int))).setCell ⟨gR, 2, none⟩ (.int .i64 c2)).drew = W9 at rdE bRE ⊢
      have k0 := bRE.cell 0
      have k1 := bRE.cell 1
      have k2 := bRE.cell 2
      simp at k0 k1 k2
      refine bodyPost_ret (v := .tuple #[.slice none 0 0, .agg #[.string ⟨#[]⟩, .int .i64 (pp : Int), .int .i64 c2]]) (by simp [results, Tryz.results11, go_sem, k0, k1, k2]) rfl ?_
      rw [HXX.out, HV.out]
      exact ⟨⟨_, fun _ => undef, rfl, EO.nil _ _ _, fun j h => by simp at h⟩, rdE.bel⟩
    have hcb : (c2 != 0) = false := by simpa using hc2
    have HA := Lib.hid (HA.out.trans (if_neg (fun h => h hc2)))
    have r1 : W2.cell? ⟨gr, 1, none⟩ = some (.slice Al L.length cl) := by have := rd2.blk.cell 1; rw [hlv] at this; simpa using this
    have t3 : decide ((4096 : Int) < (L.length : Int)) = false := decide_eq_false (by omega)
    have t3b : decide (4096 < L.length) = false := decide_eq_false (by omega)
    have y0 := bF2.cell 0
    have y1 := bF2.cell 1
    have y2 := bF2.cell 2
    simp at y0 y1 y2
    clear hix hc2
    by_cases hc : code = 0
    rotate_left
    · have hcc : (code != 0) = true := by simpa using hc
      have HV := Lib.hid (HA.out.trans (if_pos hc))
      clear HA hc
      go_upto_region 19 with fail
      refine wp_region_plan (fun W => W.cell? ⟨gF, 0, none⟩ = some (.string ⟨#[]⟩) ∧ W.cell? ⟨gF, 1, none⟩ = some (.int .i64 (at_ : Int)) ∧ W.cell? ⟨gF, 2, none⟩ = some (.int .i64 code)) [(false, 0), (false, 1), (true, 2)] (by kernel_rfl) (by kernel_rfl) (⟨y0, y1, y2⟩) ?_
      simp only [planOps, List.map, List.getD_cons_zero, List.getD_cons_succ]
      iterate 2 ((first | refine plan_quiet (v := ?_) rfl rfl (fun w' hw' => ?_) ?_ | refine plan_calm (v := ?_) (tt_of) rfl (fun w' hw' => ?_) ?_); rotate_left; (focus (go_simp <;> (first | with_reducible rfl | (rw [if_neg (by simp [undef])]; try rfl) | omega))); simp only [Act.put, List.setIfInBounds_toArray, List.set_cons_zero, List.set_cons_succ])
      refine plan_last rfl (by kernel_rfl) (by kernel_rfl) (fun K hK => ?_)
      go_simp
      refine hK _ _ (trivial) ?_
      clear hK K
      (try simp only [Act.put, List.setIfInBounds_toArray, List.set_cons_zero, List.set_cons_succ])
      refine plan_end ?_
      have rdE := (rd2.poke3 bR2 hRH ⟨#[]⟩ (at_ : Int) code).below ((Below.refl _ _).drew)
      have bRE : Blk ((((W2.setCell ⟨gR, 0, none⟩ (.string ⟨#[]⟩)).setCell ⟨gR, 1, none⟩ (.int .i64 (at_ : Int))).setCell ⟨gR, 2, none⟩ (.int .i64 code)).drew) gR 31 #[.string ⟨#[]⟩, .int .i64 (at_ : Int), .int .i64 code] := blk_set3 bR2 (.string ⟨#[]⟩) (.int .i64 (at_ : Int)) (.int .i64 code)
      clear z0 z1 z2 f0 f1 f2 rd2 bF2 bR2
      go_wp2_with fail
      generalize (((W2.setCell ⟨gR, 0, none⟩ (.string ⟨#[]⟩)).setCell ⟨gR, 1, none⟩ (.int .i64 (at_ : Int))).setCell ⟨gR, 2, none⟩ (.int .i64 code)).drew = W9 at rdE bRE ⊢
      have k0 := bRE.cell 0
      have k1 := bRE.cell 1
      have k2 := bRE.cell 2
      simp at k0 k1 k2
      refine bodyPost_ret (v := .tuple #[.slice none 0 0, .agg #[.string ⟨#[]⟩, .int .i64 (at_ : Int), .int .i64 code]]) (by simp [results, Tryz.results11, go_sem, k0, k1, k2]) rfl ?_
      rw [HXX.out, HV.out]
      exact ⟨⟨_, fun _ => undef, rfl, EO.nil _ _ _, fun j h => by simp at h⟩, rdE.bel⟩
    have hcc : (code != 0) = false := by simpa using hc
    have HV := Lib.hid (HA.out.trans (if_neg (fun h => h hc)))
    clear HA hc
    have rdE := rd2.poke3 bR2 hRH ⟨#[]⟩ 0 0
    have bRE := blk_set3 bR2 (.string ⟨#[]⟩) (.int .i64 0) (.int .i64 0)
    go_wp2_with fail
    clear z0 z1 z2 f0 f1 f2 y0 y1 y2 r1 rd2 bF2 bR2
    generalize ((W2.setCell ⟨gR, 0, none⟩ (.string ⟨#[]⟩)).setCell ⟨gR, 1, none⟩ (.int .i64 0)).setCell ⟨gR, 2, none⟩ (.int .i64 0) = W9 at rdE bRE ⊢
    have k0 := bRE.cell 0
    have k1 := bRE.cell 1
    have k2 := bRE.cell 2
    simp at k0 k1 k2
    refine bodyPost_ret (v := .tuple #[.slice Al L.length cl, .agg #[.string ⟨#[]⟩, .int .i64 0, .int .i64 0]]) (by simp [results, Tryz.results11, go_sem, k0, k1, k2]) rfl ?_
    rw [HXX.out, HV.out]
    rw [hlv] at rdE
    exact ⟨⟨_, _, rfl, rdE.eo, rdE.frs⟩, rdE.bel⟩
end Go.Proofs.YtpheifdpjcppdaaGreatDoor
namespace Go.Proofs.YtpheifdpjcppdaaGreatDoor
open Go.RowKit
def awC : En := ⟨[97], 1, 420, 0, 0, [], [], 0, [], [120]⟩
theorem awC_err : tarErr 0 [awC] = 0 := by kernel_rfl
theorem awC_len : (tarOut 0 [awC]).length = 2048 := by kernel_rfl
theorem awC_read : readA (runT (tarOut 0 [awC]) 2049 (fun _ => none) 0 [] [] 0) = ([awC], 0, 0) := by kernel_rfl
def awCells (g : Nat) : Array Value := #[.string ⟨#[97]⟩, .int .i64 1, .int .i64 420, .int .i64 0, .int .i64 0, .string ⟨#[]⟩, .string ⟨#[]⟩, .int .i64 0, .string ⟨#[]⟩, .slice (some ⟨g, 0, none⟩) 1 1]
theorem aw_init (w : World) : ∃ W, W = (w.alloc (.cells #[.int .u8 120] 5 (1, 2))).alloc (.cells (awCells w.heap.size) tE) ∧ Below w.heap.size w W ∧ Sl 10 Rent nowhere W (.slice (some ⟨w.heap.size + 1, 0, none⟩) 1 1) [awC] := by
  refine ⟨_, rfl, ?_⟩
  have h1 : Below w.heap.size w (w.alloc (.cells #[.int .u8 120] 5 (1, 2))) := (Below.refl _ _).alloc (Nat.le_refl _) _
  have h2 : (w.alloc (.cells #[.int .u8 120] 5 (1, 2))).heap[w.heap.size]? = some (.cells #[.int .u8 120] 5 (1, 2)) := heap_alloc_new w _
  generalize hg : w.heap.size = g at h1 h2 ⊢
  have hs : (w.alloc (.cells #[.int .u8 120] 5 (1, 2))).heap.size = g + 1 := by rw [← hg]; simp
  generalize w.alloc (.cells #[.int .u8 120] 5 (1, 2)) = W1 at h1 h2 hs ⊢
  have b : Blk (W1.alloc (.cells (awCells g) tE)) W1.heap.size tE (ofC [awC] (fun _ => .slice (some ⟨g, 0, none⟩) 1 1)).toArray := Blk.new W1 tE (awCells g)
  have hb : Below W1.heap.size W1 (W1.alloc (.cells (awCells g) tE)) := (Below.refl _ _).alloc (Nat.le_refl _) _
  have d1 : Sl 1 Rbyte nowhere W1 (.slice (some ⟨g, 0, none⟩) 1 1) [120] := lit_bytes [120] h2 (by decide) (fun h => h)
  rw [hs] at b
  refine ⟨h1.trans (hb.mono (by omega)), lit_ents [awC] _ b (by decide) (fun h => h) fun j hj => ?_⟩
  match j, hj with
  | 0, _ => exact Below.sl good_byte hb d1
theorem own_sl8 {w : World} {base : Nat} {v : Value} {l : List UInt8} (h : w.ownsRow base 5 1 v l.length (bvs l)) : Sl 1 Rbyte nowhere w v l := by
  have ho : OwnL 1 Rbyte 5 base nowhere w v l := by
    refine ⟨l.map fun b => [.int .u8 (b.toNat : Int)], ?_, by simp, (fun _ _ h => h), fun j h h' => by simp [Rbyte]⟩
    have : (l.map fun b => [Value.int .u8 (b.toNat : Int)]).flatten = bvs l := by
      clear h
      induction l with
      | nil => rfl
      | cons c t ih => rw [List.map_cons, List.flatten_cons, ih]; rfl
    rw [this]; exact h
  exact ho.sl good_byte
theorem awC_lb : LB [awC] := ⟨by decide, fun e he => by rw [List.mem_singleton] at he; subst he; exact ⟨by decide, by decide, by decide, by decide⟩⟩
set_option maxRecDepth 20000 in
set_option maxHeartbeats 8000000 in
theorem awakeT (w : World) (hD : Deb w) (hT : Tab w) : Calls Tryz.prog 7 #[] w fun e w' => e = .returned (.bool true) ∧ Below w.heap.size w w' := by
  go_enter Tryz.func7, Tryz.ntmps7
  go_upto_region 1 with fail
  have hcv : (convert 25 25 (.slice (some ⟨w.heap.size, 0, none⟩) 1 1)).run Tryz.prog (w.alloc (.cells #[.int .u8 120] 5)) = .ok (.slice (some ⟨w.heap.size, 0, none⟩) 1 1) (w.alloc (.cells #[.int .u8 120] 5 (1, 2))) := Lib.run_convert_bytes_const w _ _ #[.int .u8 120] 1 1 Tryz.underlying25 Tryz.underlying5
  obtain ⟨W2, hW2, hbW, hsl⟩ := aw_init w
  have htw := twrite_any 0 [awC] _ nowhere W2 hsl awC_lb (by decide) (hD.below hbW) (hT.below hbW)
  rw [awC_err] at htw
  go_upto_region 2 with (go_at_call 9; rw [show (w.alloc (.cells #[.int .u8 120] 5 (1, 2))).alloc (.cells #[.string ⟨#[97]⟩, .int .i64 1, .int .i64 420, .int .i64 0, .int .i64 0, .string ⟨#[]⟩, .string ⟨#[]⟩, .int .i64 0, .string ⟨#[]⟩, .slice (some ⟨w.heap.size, 0, none⟩) 1 1] tE) = W2 from hW2.symm]; refine htw.mono ?_; clear htw; rintro e W3 ⟨v, rfl, hr8⟩)
  have hb3 : Below W2.heap.size W2 W3 := hr8.bel fun _ h => by cases h
  have how := hr8.own
  have q3 := hbW.trans (hb3.mono hbW.size)
  have hsb := how
  have hlen := awC_len
  have hslb : Sl 1 Rbyte nowhere W3 v (tarOut 0 [awC]) := own_sl8 how
  have hr := tread_any v (tarOut 0 [awC]) nowhere W3 hslb (by rw [awC_len]; omega)
  rw [awC_len, awC_read] at hr
  obtain ⟨Av, cv, hv⟩ := own_form how
  rw [awC_len] at hv
  subst hv
  clear hD hT hr8 hsb how hslb hcv hW2 hsl hbW hb3
  go_upto_region 3 with (go_at_call 11; refine hr.mono ?_; rintro e W4 ⟨⟨v4, f4, rfl, he4, hf4⟩, hb4⟩; obtain ⟨g4, c4, rfl, hB4, _, _, _⟩ := he4.form (by decide))
  have hbA : Below W4.heap.size W4 (W4.alloc (.cells #[.string ⟨#[]⟩, .int .i64 0, .int .i64 0] 31)) := (Below.refl _ _).alloc (Nat.le_refl _) _
  have bA := Blk.new W4 31 #[.string ⟨#[]⟩, .int .i64 0, .int .i64 0]
  have e0 := (he4.cell 0 (by decide)).below hbA
  have d0 := Below.sl good_byte hbA (he4.dat 0 (by decide))
  have q5 := (q3.trans (hb4.mono q3.size)).trans (hbA.mono (q3.trans (hb4.mono q3.size)).size)
  clear he4 hf4 hb4 hbA hr
  generalize W4.alloc (.cells #[.string ⟨#[]⟩, .int .i64 0, .int .i64 0] 31) = W5 at e0 d0 bA q5 ⊢
  generalize W4.heap.size = gA at bA ⊢
  obtain ⟨c0, c1, c2, _, _, _, _, _, _, c9⟩ := e0
  obtain ⟨A9, k9, hv9, _⟩ := d0.form
  rw [hv9] at c9 d0
  have hst := str8 d0.sb8
  have z0 := bA.cell 0
  have z1 := bA.cell 1
  have z2 := bA.cell 2
  simp at z0 z1 z2
  have k0 : awC.path = [97] := rfl
  have k2 : awC.mode = 420 := rfl
  have k3 : awC.data = [120] := rfl
  simp only [Nat.zero_mul, Nat.zero_add, List.getElem_cons_zero] at c0 c2 c9 hst
  rw [k0] at c0
  rw [k2] at c2
  rw [k3] at c9 hst
  simp only [bs, List.length_cons, List.length_nil] at c0 c2 c9 hst
  clear d0 bA hv9 c1
  go_wp2_with fail
  go_ret
  exact ⟨rfl, q5⟩
/-- math/bits.deBruijn64tab, as the row lists it. -/
def debL : List Int := [0, 1, 56, 2, 57, 49, 28, 3, 61, 58, 42, 50, 38, 29, 17, 4, 62, 47, 59, 36, 45, 43, 51, 22, 53, 39, 33, 30, 24, 18, 12, 5, 63, 55, 48, 27, 60, 41, 37, 16, 46, 35, 44, 21, 52, 32, 23, 11, 54, 26, 40, 15, 34, 20, 31, 10, 25, 14, 19, 9, 13, 8, 7, 6]
theorem deb_of_tab {W : World} (h : Lib.TabIs Tryz.prog W "math/bits.deBruijn64tab" .u8 debL) : Deb W := by
  unfold Deb
  rw [World.var?_cell (show Tryz.prog.globalNamed "math/bits.deBruijn64tab" = some 3 by kernel_rfl) h 7]
  rfl
theorem Row8.sl8 {w0 w : World} {R0 : Option Nat} {base : Nat} {v : Value} {l : List UInt8} (h : Row8 w0 R0 base 5 w v l) : Sl 1 Rbyte nowhere w v l := own_sl8 h.own
end Go.Proofs.YtpheifdpjcppdaaGreatDoor

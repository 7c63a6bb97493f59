/- Items of ar archives, in plain words and in memory. -/
import Derived.Test.YtolknddegfcmpaaDoorEnEF
import Derived.Lib.TrimByte
namespace Go.Proofs.YtolknddegfcmpaaDoor
open Go.RowKit
/-- An item. -/
structure It where
  name : List UInt8
  mtime : Int
  uid : Int
  gid : Int
  mode : Int
  data : List UInt8
def itV (e : It) (dv : Value) : Value := .agg #[.string (bs e.name), .int .i64 e.mtime, .int .i64 e.uid, .int .i64 e.gid, .int .i64 e.mode, dv]
def itC (e : It) (dv : Value) : List Value := [.string (bs e.name), .int .i64 e.mtime, .int .i64 e.uid, .int .i64 e.gid, .int .i64 e.mode, dv]
def Rit : Rel It := fun X w cs e => ∃ v, cs = itC e v ∧ Sl 1 Rbyte X w v e.data
theorem good_it : Good 6 Rit :=
  ⟨fun ⟨v, h1, h2⟩ k => ⟨v, h1, h2.keep good_byte k⟩, fun ⟨v, h1, h2⟩ k => ⟨v, h1, h2.mono good_byte (by omega) k⟩, (fun ⟨v, h1, _⟩ => by subst h1; rfl), (fun ⟨v, h1, h2⟩ u hu => by
    subst h1
    obtain ⟨A, cap, rfl, _⟩ := h2
    simp [itC] at hu
    rcases hu with rfl | rfl | rfl | rfl | rfl | rfl <;> rfl)⟩
structure ItAt (w : World) (b off : Nat) (e : It) (v : Value) : Prop where
  c0 : w.cell? ⟨b, off, none⟩ = some (.string (bs e.name))
  c1 : w.cell? ⟨b, off + 1, none⟩ = some (.int .i64 e.mtime)
  c2 : w.cell? ⟨b, off + 2, none⟩ = some (.int .i64 e.uid)
  c3 : w.cell? ⟨b, off + 3, none⟩ = some (.int .i64 e.gid)
  c4 : w.cell? ⟨b, off + 4, none⟩ = some (.int .i64 e.mode)
  c5 : w.cell? ⟨b, off + 5, none⟩ = some v
theorem ItAt.keep {X : Nat → Prop} {w w' : World} {b off : Nat} {e : It} {v : Value} (h : ItAt w b off e v) (k : Kept X w w') (hb : ¬ X b) : ItAt w' b off e v :=
  ⟨k.cell h.c0 hb, k.cell h.c1 hb, k.cell h.c2 hb, k.cell h.c3 hb, k.cell h.c4 hb, k.cell h.c5 hb⟩
theorem Sl.it {X : Nat → Prop} {w : World} {A : Option Addr} {n cap : Nat} {l : List It} (h : Sl 6 Rit X w (.slice A n cap) l) (hn : 0 < n) :
    ∃ b off, A = some ⟨b, off, none⟩ ∧ ¬ X b ∧ ∀ j (h : j < l.length), ∃ v, ItAt w b (off + j * 6) l[j] v ∧ Sl 1 Rbyte X w v l[j].data := by
  obtain ⟨h1, h2, h3, h4⟩ := h.at
  obtain ⟨b, off, hA, hX, hc⟩ := h4 hn
  refine ⟨b, off, hA, hX, fun j hj => ?_⟩
  obtain ⟨cs, hcs, v, rfl, hR⟩ := hc j hj
  exact ⟨v, ⟨by simpa using hcs 0 _ rfl, hcs 1 _ rfl, hcs 2 _ rfl, hcs 3 _ rfl, hcs 4 _ rfl, hcs 5 _ rfl⟩, hR⟩
/-- Is a name no name? -/
def nmBad (s : List UInt8) : Bool := decide (s.length < 1) || (decide (200 < s.length) || (s.contains 47 || (s.contains 0 || (s.contains 10 || (decide (s[0]? = some 32) || decide (s[s.length - 1]? = some 32))))))
def nuBad (e : It) : Bool := decide (e.mtime < 0) || (decide (8589934591 < e.mtime) || (decide (e.uid < 0) || (decide (999999 < e.uid) || (decide (e.gid < 0) || (decide (999999 < e.gid) || (decide (e.mode < 0) || decide (4095 < e.mode)))))))
/-- What is wrong with an item. -/
def chkI (e : It) : Int := if nmBad e.name = true then 10 else if nuBad e = true then 1 else if 1048576 < e.data.length then 4 else 0
theorem trimB_same (s : List UInt8) (h : s ≠ []) : Lib.trimB s 32 = s ↔ ¬ (s[0]? = some 32) ∧ ¬ (s[s.length - 1]? = some 32) := by
  have hl : ∀ l : List UInt8, (l.dropWhile (· == 32)).length ≤ l.length := fun l => (List.dropWhile_suffix _).length_le
  have hd : ∀ l : List UInt8, l.dropWhile (· == 32) = l ↔ ¬ l[0]? = some 32 := by
    intro l
    cases l with
    | nil => simp
    | cons c t =>
      rw [List.dropWhile_cons]
      by_cases hc : c = 32
      · subst hc
        simp only [beq_self_eq_true, if_true, List.getElem?_cons_zero, not_true, iff_false]
        intro e
        have := hl t
        rw [e] at this
        simp at this
        omega
      · have e1 : (c == 32) = false := by simpa using hc
        simp [e1, hc]
  have hrev : s.reverse[0]? = s[s.length - 1]? := by
    have hp : 0 < s.length := List.length_pos_iff.2 h
    rw [List.getElem?_reverse hp]; simp
  have key : Lib.trimB s 32 = ((s.reverse.dropWhile (· == 32)).reverse).dropWhile (· == 32) ∨ Lib.trimB s 32 = (((s.dropWhile (· == 32)).reverse).dropWhile (· == 32)).reverse := by
    first | exact .inl rfl | exact .inr rfl
  rcases key with e | e
  · rw [e]
    constructor
    · intro h2
      have l1 := hl (s.reverse.dropWhile (· == 32)).reverse
      have l2 := hl s.reverse
      have l3 : (s.reverse.dropWhile (· == 32)).length = s.reverse.length := by
        have := congrArg List.length h2
        simp only [List.length_reverse] at l1 l2 this ⊢
        omega
      have e3 : s.reverse.dropWhile (· == 32) = s.reverse := (List.dropWhile_suffix _).eq_of_length l3
      rw [e3, List.reverse_reverse] at h2
      exact ⟨(hd s).1 h2, by rw [← hrev]; exact (hd s.reverse).1 e3⟩
    · rintro ⟨h1, h2⟩
      rw [(hd s.reverse).2 (by rw [hrev]; exact h2), List.reverse_reverse]
      exact (hd s).2 h1
  · rw [e]
    constructor
    · intro h2
      have l1 := hl (s.dropWhile (· == 32)).reverse
      have l2 := hl s
      have l3 : (s.dropWhile (· == 32)).length = s.length := by
        have := congrArg List.length h2
        simp only [List.length_reverse] at l1 l2 this ⊢
        omega
      have e3 : s.dropWhile (· == 32) = s := (List.dropWhile_suffix _).eq_of_length l3
      rw [e3] at h2
      have h3 := congrArg List.reverse h2
      rw [List.reverse_reverse] at h3
      exact ⟨(hd s).1 e3, by rw [← hrev]; exact (hd s.reverse).1 h3⟩
    · rintro ⟨h1, h2⟩
      rw [(hd s).2 h1, (hd s.reverse).2 (by rw [hrev]; exact h2), List.reverse_reverse]
end Go.Proofs.YtolknddegfcmpaaDoor

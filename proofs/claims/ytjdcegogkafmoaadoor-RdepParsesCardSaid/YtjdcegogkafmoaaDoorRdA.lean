/- Rich dependencies, in plain words: names, the parts of a text, and what a text is. -/
import Derived.Test.YtjdcegogkafmoaaDoorBasM
import Derived.Test.YtjdcegogkafmoaaDoorTxt
namespace Go.Proofs.YtjdcegogkafmoaaDoor
open Go.RowKit
def ltR (c : UInt8) : Bool := (decide (97 ≤ c.toNat) && decide (c.toNat ≤ 122)) || (decide (65 ≤ c.toNat) && decide (c.toNat ≤ 90))
def dgR (c : UInt8) : Bool := decide (48 ≤ c.toNat) && decide (c.toNat ≤ 57)
/-- May a byte stand first in a name? -/
def frR (c : UInt8) : Bool := ltR c || (dgR c || decide (c = 47))
/-- May a byte stand in a name (but for brackets)? -/
def inR (c : UInt8) : Bool := ltR c || (dgR c || [46, 95, 43, 45, 47, 58].contains c)
def nmGo : List UInt8 → Nat → Bool
  | [], o => decide (o = 0)
  | c :: t, o => if c = 40 then nmGo t (o + 1) else if c = 41 then (if o = 0 then false else nmGo t (o - 1)) else if inR c = true then nmGo t o else false
def nmR (s : List UInt8) : Bool := match s with
  | [] => false
  | c :: _ => if 64 < s.length then false else if frR c = true then nmGo s 0 else false
/-- How long the part is that begins here, and isn't a bracket. -/
def pEnd : List UInt8 → Nat → Nat
  | [], _ => 0
  | c :: t, o => if c = 32 then 0 else if c = 40 then pEnd t (o + 1) + 1 else if c = 41 then (if o = 0 then 0 else pEnd t (o - 1) + 1) else pEnd t o + 1
theorem pEnd_le : ∀ (l : List UInt8) (o : Nat), pEnd l o ≤ l.length
  | [], _ => by simp [pEnd]
  | c :: t, o => by
    have h1 := pEnd_le t o
    have h2 := pEnd_le t (o + 1)
    have h3 := pEnd_le t (o - 1)
    rw [pEnd]
    simp only [List.length_cons]
    split
    · omega
    · split
      · omega
      · split
        · split <;> omega
        · omega
theorem pEnd_pos (c : UInt8) (t : List UInt8) (h1 : c ≠ 32) (h2 : c ≠ 40) (h3 : c ≠ 41) : 1 ≤ pEnd (c :: t) 0 := by
  rw [pEnd, if_neg h1, if_neg h2, if_neg h3]; omega
/-- The parts of a text, each with its place, and an empty one at the end. -/
def tkF : Nat → List UInt8 → Nat → List (List UInt8 × Nat)
  | 0, _, p => [([], p)]
  | _ + 1, [], p => [([], p)]
  | k + 1, c :: t, p => if c = 32 then tkF k t (p + 1) else if c = 40 ∨ c = 41 then ([c], p) :: tkF k t (p + 1)
    else ((c :: t).take (pEnd (c :: t) 0), p) :: tkF k ((c :: t).drop (pEnd (c :: t) 0)) (p + pEnd (c :: t) 0)
def tkR (s : List UInt8) (p : Nat) : List (List UInt8 × Nat) := tkF (s.length - p) (s.drop p) p
theorem tkF_fuel : ∀ (k j : Nat) (l : List UInt8) (p : Nat), l.length ≤ k → l.length ≤ j → tkF k l p = tkF j l p
  | 0, 0, _, _, _, _ => rfl
  | 0, j + 1, [], _, _, _ => rfl
  | 0, _ + 1, _ :: _, _, h, _ => by simp at h
  | k + 1, 0, [], _, _, _ => rfl
  | _ + 1, 0, _ :: _, _, _, h => by simp at h
  | k + 1, j + 1, [], _, _, _ => rfl
  | k + 1, j + 1, c :: t, p, h1, h2 => by
    simp only [List.length_cons] at h1 h2
    rw [tkF, tkF]
    split
    · exact tkF_fuel k j t _ (by omega) (by omega)
    · rename_i hc
      split
      · rw [tkF_fuel k j t _ (by omega) (by omega)]
      · rename_i hb
        have hp := pEnd_pos c t hc (fun e => hb (.inl e)) (fun e => hb (.inr e))
        have hd : ((c :: t).drop (pEnd (c :: t) 0)).length ≤ t.length := by rw [List.length_drop, List.length_cons]; omega
        rw [tkF_fuel k j _ _ (by omega) (by omega)]
theorem tkR_end (s : List UInt8) (p : Nat) (h : s.length ≤ p) : tkR s p = [([], p)] := by
  rw [tkR, List.drop_eq_nil_of_le h, show s.length - p = 0 by omega]; rfl
theorem tkR_at (s : List UInt8) (p : Nat) (h : p < s.length) : tkR s p = if s[p] = 32 then tkR s (p + 1) else if s[p] = 40 ∨ s[p] = 41 then ([s[p]], p) :: tkR s (p + 1)
    else ((s.drop p).take (pEnd (s.drop p) 0), p) :: tkR s (p + pEnd (s.drop p) 0) := by
  have hd := List.drop_eq_getElem_cons h
  have e1 : tkF (s.length - (p + 1)) (s.drop (p + 1)) (p + 1) = tkR s (p + 1) := rfl
  have hl := pEnd_le (s.drop p) 0
  rw [List.length_drop] at hl
  rw [tkR, show s.length - p = (s.length - (p + 1)) + 1 by omega]
  rw [hd, tkF, e1, ← hd]
  split
  · rfl
  · rename_i hc
    split
    · rfl
    · rename_i hb
      have hp : 1 ≤ pEnd (s.drop p) 0 := by rw [hd]; exact pEnd_pos _ _ hc (fun e => hb (.inl e)) (fun e => hb (.inr e))
      congr 1
      rw [List.drop_drop, tkR]
      refine tkF_fuel _ _ _ _ ?_ ?_ <;> rw [List.length_drop] <;> omega
/-- Each text of parts but the last is not empty; the places lie in the text. -/
theorem tkR_ne (s : List UInt8) : ∀ (n p : Nat), s.length - p ≤ n → p ≤ s.length → ∃ t a r, tkR s p = (t, a) :: r ∧ p ≤ a ∧ a + t.length ≤ s.length ∧ (t = [] → r = [] ∧ a = s.length) ∧ (t ≠ [] → r = tkR s (a + t.length) ∧ t = (s.drop a).take t.length)
  | 0, p, hn, hp => by
    have : p = s.length := by omega
    subst this
    exact ⟨[], s.length, [], tkR_end s _ (Nat.le_refl _), Nat.le_refl _, by simp, fun _ => ⟨rfl, rfl⟩, fun h => absurd rfl h⟩
  | n + 1, p, hn, hp => by
    by_cases h : p < s.length
    · rw [tkR_at s p h]
      split
      · obtain ⟨t, a, r, h1, h2, h3, h4, h5⟩ := tkR_ne s n (p + 1) (by omega) (by omega)
        exact ⟨t, a, r, h1, by omega, h3, h4, h5⟩
      · rename_i hc
        split
        · refine ⟨[s[p]], p, _, rfl, Nat.le_refl _, by simp; omega, fun e => by simp at e, fun _ => ⟨rfl, ?_⟩⟩
          rw [List.drop_eq_getElem_cons h]; rfl
        · rename_i hb
          have hl := pEnd_le (s.drop p) 0
          have hd := List.drop_eq_getElem_cons h
          have hpp : 1 ≤ pEnd (s.drop p) 0 := by rw [hd]; exact pEnd_pos _ _ hc (fun e => hb (.inl e)) (fun e => hb (.inr e))
          have hlen : ((s.drop p).take (pEnd (s.drop p) 0)).length = pEnd (s.drop p) 0 := by rw [List.length_take]; omega
          rw [List.length_drop] at hl
          refine ⟨_, p, _, rfl, Nat.le_refl _, by rw [hlen]; omega, fun e => ?_, fun _ => ⟨by rw [hlen], by rw [hlen]⟩⟩
          rw [e] at hlen
          simp at hlen
          omega
    · have : p = s.length := by omega
      subst this
      exact ⟨[], s.length, [], tkR_end s _ (Nat.le_refl _), Nat.le_refl _, by simp, fun _ => ⟨rfl, rfl⟩, fun h => absurd rfl h⟩
inductive Rdp where
  | mk (op name : List UInt8) (aop : Int) (ver : List UInt8) (kids : List Rdp)
instance : Inhabited Rdp := ⟨.mk [] [] 0 [] []⟩
def Rdp.op : Rdp → List UInt8 | .mk o _ _ _ _ => o
def Rdp.name : Rdp → List UInt8 | .mk _ n _ _ _ => n
def Rdp.aop : Rdp → Int | .mk _ _ a _ _ => a
def Rdp.ver : Rdp → List UInt8 | .mk _ _ _ v _ => v
def Rdp.kids : Rdp → List Rdp | .mk _ _ _ _ k => k
def wordsR : List (List UInt8) := [[97, 110, 100], [111, 114], [105, 102], [117, 110, 108, 101, 115, 115], [119, 105, 116, 104], [119, 105, 116, 104, 111, 117, 116]]
def signsR : List (List UInt8) := [[], [60], [60, 61], [61], [62, 61], [62]]
def knR (w : List UInt8) : Bool := wordsR.contains w
/-- A relation's number. -/
def relL : List (List UInt8) → Nat → List UInt8 → Nat
  | [], _, _ => 0
  | p :: t, k, s => if p = s then k else relL t (k + 1) s
def relR (w : List UInt8) : Nat := relL signsR 0 w
def isAO (o : List UInt8) : Bool := decide (o = [97, 110, 100]) || decide (o = [111, 114])
def isIU (o : List UInt8) : Bool := decide (o = [105, 102]) || decide (o = [117, 110, 108, 101, 115, 115])
def isWW (o : List UInt8) : Bool := decide (o = [119, 105, 116, 104]) || decide (o = [119, 105, 116, 104, 111, 117, 116])
/-- May so many kids be all? -/
def clR (o : List UInt8) (n : Nat) : Bool := if isAO o = true then decide (2 ≤ n) else if isIU o = true then (decide (n = 2) || decide (n = 3)) else if isWW o = true then decide (n = 2) else false
/-- May a word come behind so many kids? -/
def foR (o : List UInt8) (n : Nat) (w : List UInt8) : Bool := if n = 1 then knR w else if isAO o = true then decide (w = o) else if isIU o = true then (decide (n = 2) && decide (w = [101, 108, 115, 101])) else false
end Go.Proofs.YtjdcegogkafmoaaDoor

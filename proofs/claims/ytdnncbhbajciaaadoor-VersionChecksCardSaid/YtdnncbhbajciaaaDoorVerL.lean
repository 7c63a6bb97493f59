/- Pieces of versions of Apk held against each other, in plain words: one order. -/
import Derived.Test.YtdnncbhbajciaaaDoorVerK
namespace Go.Proofs.YtdnncbhbajciaaaDoor
/-- A piece: kind, text, word. -/
abbrev Pc := Int × List UInt8 × Int
/-- A nought ahead of another digit. -/
def noughtB : List UInt8 → Bool
  | c :: _ :: _ => decide (c.toNat = 48)
  | _ => false
/-- Two pieces. -/
def cmpP (p q : Pc) : Int :=
  if p.1 = q.1 then
    (if p.1 = 0 ∨ p.1 = 4 then cmpI p.2.2 q.2.2
    else if p.1 = 5 ∨ (p.1 = 6 ∧ (noughtB p.2.1 = true ∨ noughtB q.2.1 = true)) then cmpB p.2.1 q.2.1
    else cmpN p.2.1 q.2.1)
  else cmpI p.1 q.1
/-- A piece as versions have it. -/
def PcOk (p : Pc) : Prop := (p.1 = 5 → ∀ x ∈ p.2.1, 0 < x.toNat) ∧ (p.1 = 6 → p.2.1 ≠ [] ∧ ∀ x ∈ p.2.1, isDig x = true)
def key6 (t : List UInt8) : List Int := if t = [48] then [0] else if noughtB t = true then 1 :: (codes t ++ [0]) else 2 :: keyN t
def keyP (p : Pc) : List Int :=
  p.1 :: (if p.1 = 0 ∨ p.1 = 4 then [p.2.2] else if p.1 = 5 then codes p.2.1 ++ [0] else if p.1 = 6 then key6 p.2.1 else keyN p.2.1)
theorem dig_pos {t : List UInt8} (h : ∀ x ∈ t, isDig x = true) : ∀ x ∈ t, 0 < x.toNat := fun x hx => by
  have := h x hx
  simp [isDig] at this
  omega
theorem nought_form {t : List UInt8} (h : noughtB t = true) : ∃ d r, t = 48 :: d :: r := by
  match t, h with
  | c :: d :: r, h =>
    have hc : c = 48 := UInt8.toNat_inj.1 (by simpa [noughtB] using h)
    subst hc
    exact ⟨d, r, rfl⟩
theorem other_form {t : List UInt8} (h0 : t ≠ []) (hd : ∀ x ∈ t, isDig x = true) (h1 : t ≠ [48]) (h : ¬ noughtB t = true) : ∃ c r, t = c :: r ∧ 48 < c.toNat := by
  cases t with
  | nil => exact absurd rfl h0
  | cons c r =>
    refine ⟨c, r, rfl, ?_⟩
    have hc := hd c (by simp)
    simp [isDig] at hc
    have hne : c.toNat ≠ 48 := fun e => by
      have e2 : c = 48 := UInt8.toNat_inj.1 (by simpa using e)
      subst e2
      cases r with
      | nil => exact h1 rfl
      | cons d r => exact h (by simp [noughtB])
    omega
theorem cut0_other (c : UInt8) (r : List UInt8) (h : 48 < c.toNat) : cut0 (c :: r) = c :: r := by
  have : ¬ c = 48 := fun e => by subst e; exact absurd h (by decide)
  simp [cut0, List.dropWhile_cons, this]
theorem lex6 (s t : List UInt8) (hs : s ≠ []) (ht : t ≠ []) (ds : ∀ x ∈ s, isDig x = true) (dt : ∀ x ∈ t, isDig x = true) :
    LexF (padF (key6 s)) (padF (key6 t)) (if noughtB s = true ∨ noughtB t = true then cmpB s t else cmpN s t) := by
  have text := LexF.text s t (dig_pos ds) (dig_pos dt) (u := []) (v := []) (c := 0) (fun _ => LexF.same _)
  have text' : LexF (padF (codes s ++ [0])) (padF (codes t ++ [0])) (cmpB s t) := by
    by_cases h : cmpB s t = 0
    · rw [if_pos h] at text; rw [h]; exact text
    · rw [if_neg h] at text; exact text
  have num := LexF.num s t (u := []) (v := []) (c := 0) (LexF.same _)
  simp only [List.append_nil] at num
  have num' : LexF (padF (keyN s)) (padF (keyN t)) (cmpN s t) := by
    by_cases h : cmpN s t = 0
    · rw [if_pos h] at num; rw [h]; exact num
    · rw [if_neg h] at num; exact num
  have n48 : ¬ noughtB [48] = true := by decide
  unfold key6
  by_cases hs0 : s = [48]
  · subst hs0
    rw [if_pos rfl]
    by_cases ht0 : t = [48]
    · subst ht0
      rw [if_pos rfl]
      exact LexF.same _
    · rw [if_neg ht0]
      by_cases hn : noughtB t = true
      · obtain ⟨d, r, rfl⟩ := nought_form hn
        rw [if_pos hn, if_pos (show _ ∨ noughtB _ = true from .inr hn)]
        exact LexF.lt (by decide)
      · obtain ⟨c, r, rfl, hc⟩ := other_form ht dt ht0 hn
        rw [if_neg hn, if_neg (fun h => h.elim n48 hn)]
        have e : cmpN [48] (c :: r) = -1 := by
          simp only [cmpN, cut0_other c r hc]
          (try simp [cut0, cmpI]) <;> (try omega)
        rw [e]
        exact LexF.lt (by decide)
  · rw [if_neg hs0]
    by_cases hm : noughtB s = true
    · obtain ⟨d, r, rfl⟩ := nought_form hm
      rw [if_pos hm, if_pos (show noughtB (48 :: d :: r) = true ∨ noughtB t = true from .inl hm)]
      by_cases ht0 : t = [48]
      · subst ht0
        rw [if_pos rfl]
        exact LexF.gt (by decide)
      · rw [if_neg ht0]
        by_cases hn : noughtB t = true
        · rw [if_pos hn]
          exact text'.cons
        · obtain ⟨c, q, rfl, hc⟩ := other_form ht dt ht0 hn
          rw [if_neg hn]
          have e : cmpB (48 :: d :: r) (c :: q) = -1 := by
            have : ¬ (48 : UInt8) = c := fun e => by subst e; exact absurd hc (by decide)
            simp [cmpB, this, hc]
          rw [e]
          exact LexF.lt (by decide)
    · obtain ⟨c, q, rfl, hc⟩ := other_form hs ds hs0 hm
      rw [if_neg hm]
      by_cases ht0 : t = [48]
      · subst ht0
        rw [if_pos rfl, if_neg (fun h => h.elim hm n48)]
        have e : cmpN (c :: q) [48] = 1 := by
          simp only [cmpN, cut0_other c q hc]
          (try simp [cut0, cmpI]) <;> (try omega)
        rw [e]
        exact LexF.gt (by decide)
      · rw [if_neg ht0]
        by_cases hn : noughtB t = true
        · obtain ⟨d, r, rfl⟩ := nought_form hn
          rw [if_pos hn, if_pos (show _ ∨ noughtB _ = true from .inr hn)]
          have e : cmpB (c :: q) (48 :: d :: r) = 1 := by
            have h1 : ¬ c = (48 : UInt8) := fun e => by subst e; exact absurd hc (by decide)
            have h2 : ¬ c.toNat < 48 := by omega
            simp [cmpB, h1, h2]
          rw [e]
          exact LexF.gt (by decide)
        · rw [if_neg hn, if_neg (by simp [hm, hn])]
          exact num'.cons
theorem ord_piece : Ord3 PcOk cmpP := Ord3.of_lex (fun a => padF (keyP a)) fun p q hp hq => by
  obtain ⟨k, s, a⟩ := p
  obtain ⟨m, t, b⟩ := q
  show LexF (padF (keyP (k, s, a))) (padF (keyP (m, t, b))) (cmpP (k, s, a) (m, t, b))
  simp only [cmpP, keyP]
  by_cases hk : k = m
  · subst hk
    rw [if_pos rfl]
    refine LexF.cons ?_
    by_cases h04 : k = 0 ∨ k = 4
    · rw [if_pos h04, if_pos h04, if_pos h04]
      have := LexF.cmpI (u := []) (v := []) (c := 0) (x := a) (y := b) (fun _ => LexF.same _)
      by_cases h : YtdnncbhbajciaaaDoor.cmpI a b = 0
      · rw [if_pos h] at this; rw [h]; exact this
      · rw [if_neg h] at this; exact this
    · rw [if_neg h04, if_neg h04, if_neg h04]
      by_cases h5 : k = 5
      · rw [if_pos h5, if_pos h5, if_pos (.inl h5)]
        have text := LexF.text s t (hp.1 h5) (hq.1 h5) (u := []) (v := []) (c := 0) (fun _ => LexF.same _)
        by_cases h : cmpB s t = 0
        · rw [if_pos h] at text; rw [h]; exact text
        · rw [if_neg h] at text; exact text
      · rw [if_neg h5, if_neg h5]
        by_cases h6 : k = 6
        · rw [if_pos h6, if_pos h6]
          have := lex6 s t (hp.2 h6).1 (hq.2 h6).1 (hp.2 h6).2 (hq.2 h6).2
          have e : (k = 5 ∨ (k = 6 ∧ (noughtB s = true ∨ noughtB t = true))) = (noughtB s = true ∨ noughtB t = true) := by simp [h6]
          simp only [e]
          exact this
        · rw [if_neg h6, if_neg h6, if_neg (by simp [h5, h6])]
          have num := LexF.num s t (u := []) (v := []) (c := 0) (LexF.same _)
          simp only [List.append_nil] at num
          by_cases h : cmpN s t = 0
          · rw [if_pos h] at num; rw [h]; exact num
          · rw [if_neg h] at num; exact num
  · rw [if_neg hk]
    have := LexF.cmpI (u := (if k = 0 ∨ k = 4 then [a] else if k = 5 then codes s ++ [0] else if k = 6 then key6 s else keyN s)) (v := (if m = 0 ∨ m = 4 then [b] else if m = 5 then codes t ++ [0] else if m = 6 then key6 t else keyN t)) (c := 0) (x := k) (y := m) (fun e => absurd e hk)
    rw [if_neg (fun e => hk (cmpI_zero e))] at this
    exact this
theorem ord_pieces : Ord3 (fun l : List Pc => ∀ x ∈ l, PcOk x) (listC cmpP) := ord_piece.list
end Go.Proofs.YtdnncbhbajciaaaDoor

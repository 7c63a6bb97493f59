/- The program's Write (tar), whatever is handed in; what is parted. -/
import Derived.Test.YtpheifdpjcppdaaGreatDoorTaWW
namespace Go.Proofs.YtpheifdpjcppdaaGreatDoor
open Go.RowKit
theorem idx_at {l : List UInt8} {c : UInt8} {o : Nat} (h1 : l[o]? = some c) (h2 : ∀ j, j < o → l[j]? ≠ some c) : Lib.indexByte l c = o := by
  have hge := Lib.indexByte_ge l c
  by_cases hm : Lib.indexByte l c = -1
  · exact absurd h1 (Lib.indexByte_none hm o)
  · obtain ⟨o', ho⟩ : ∃ o' : Nat, Lib.indexByte l c = o' := ⟨(Lib.indexByte l c).toNat, by omega⟩
    obtain ⟨h3, h4⟩ := Lib.indexByte_some ho
    rw [ho]
    rcases Nat.lt_trichotomy o o' with h | h | h
    · exact absurd h1 (h4 o h)
    · rw [h]
    · exact absurd h3 (h2 o' h)
/-- A name is never parted ahead of all of it. -/
def NoHead (e : En) : Prop := ∀ p r, partT (nameT e) = some (p, r) → 100 < (nameT e).length → 0 < p.length
theorem partT_low {s : List UInt8} (h : s.length ≤ 100) : partT s = some ([], s) := by rw [partT, if_pos h]
/-- What is parted is a name's start and the rest behind the slash. -/
theorem partT_cut {s p r : List UInt8} (h : partT s = some (p, r)) (hl : 100 < s.length) : p = s.take p.length ∧ r = s.drop (p.length + 1) ∧ p.length + 1 ≤ s.length ∧ p.length ≤ 155 ∧ r.length ≤ 100 := by
  rw [partT, if_neg (by omega)] at h
  by_cases h1 : Lib.indexByte (s.drop (s.length - 101)) 47 < 0
  · rw [if_pos h1] at h; cases h
  rw [if_neg h1] at h
  by_cases h2 : 155 < (Lib.indexByte (s.drop (s.length - 101)) 47).toNat + (s.length - 101) ∨ (Lib.indexByte (s.drop (s.length - 101)) 47).toNat + (s.length - 101) = s.length - 1
  · rw [if_pos h2] at h; cases h
  rw [if_neg h2] at h
  obtain ⟨o', ho⟩ : ∃ o' : Nat, Lib.indexByte (s.drop (s.length - 101)) 47 = o' := ⟨(Lib.indexByte (s.drop (s.length - 101)) 47).toNat, by omega⟩
  have h5 := (List.getElem?_eq_some_iff.1 (Lib.indexByte_some ho).1).1
  rw [List.length_drop] at h5
  rw [ho] at h h2
  rw [Int.toNat_natCast] at h h2
  injection h with h
  injection h with e1 e2
  have hpl : p.length = o' + (s.length - 101) := by rw [← e1, List.length_take]; omega
  rw [hpl]
  refine ⟨e1.symm, e2.symm, by omega, by omega, ?_⟩
  rw [← e2, List.length_drop]
  omega
def badT (s : Nat) (e : En) : Bool := decide (s = 0) && badU e
theorem path_head {s : List UInt8} (h : pathOk s = true) : s.head? ≠ some 47 := by
  intro h1
  cases s with
  | nil => cases h1
  | cons c t =>
    simp only [List.head?_cons, Option.some.injEq] at h1
    subst h1
    have : (partsB 47 ((47 : UInt8) :: t)).all partOk = false := by
      rw [partsB, splitP, if_pos rfl, List.all_cons]
      rfl
    simp [pathOk, this] at h
theorem name_head {e : En} (h : pathOk e.path = true) : (nameT e).head? ≠ some 47 := by
  have h0 := path_head h
  have hl := (path_len h).1
  unfold nameT
  split
  · cases hp : e.path with
    | nil => rw [hp] at hl; simp at hl
    | cons c t => rw [hp] at h0; simpa using h0
  · exact h0
theorem partT_at {s p r : List UInt8} (h : partT s = some (p, r)) (hl : 100 < s.length) : s[p.length]? = some 47 := by
  rw [partT, if_neg (by omega)] at h
  by_cases h1 : Lib.indexByte (s.drop (s.length - 101)) 47 < 0
  · rw [if_pos h1] at h; cases h
  rw [if_neg h1] at h
  by_cases h2 : 155 < (Lib.indexByte (s.drop (s.length - 101)) 47).toNat + (s.length - 101) ∨ (Lib.indexByte (s.drop (s.length - 101)) 47).toNat + (s.length - 101) = s.length - 1
  · rw [if_pos h2] at h; cases h
  rw [if_neg h2] at h
  obtain ⟨o', ho⟩ : ∃ o' : Nat, Lib.indexByte (s.drop (s.length - 101)) 47 = o' := ⟨(Lib.indexByte (s.drop (s.length - 101)) 47).toNat, by omega⟩
  have h4 := (Lib.indexByte_some ho).1
  have h5 := (List.getElem?_eq_some_iff.1 h4).1
  rw [List.length_drop] at h5
  rw [List.getElem?_drop] at h4
  rw [ho, Int.toNat_natCast] at h
  injection h with h
  injection h with e1 e2
  have hpl : p.length = s.length - 101 + o' := by rw [← e1, List.length_take]; omega
  rw [hpl]
  exact h4
theorem no_head {e : En} (h : chkE e = 0) : NoHead e := by
  intro p r hp hl
  rcases Nat.eq_zero_or_pos p.length with h0 | h0
  · exfalso
    have hk : pathOk e.path = true := by
      cases hq : pathOk e.path with
      | true => rfl
      | false => rw [chkE, if_pos hq] at h; exact absurd h (by decide)
    have h1 := partT_at hp hl
    rw [h0] at h1
    exact name_head hk (by rw [List.head?_eq_getElem?]; exact h1)
  · exact h0
def badSt (st : Int) : Bool := decide (st < 0) || decide (2 < st)
/-- Why no archive is made. -/
def tarErr (st : Int) (l : List En) : Int := if badSt st = true then 1 else if (chkL l).2 ≠ 0 then (chkL l).2 else if l.any (badT st.toNat) = true then 10 else 0
def tarOut (st : Int) (l : List En) : List UInt8 := if tarErr st l = 0 then tarB st.toNat l else []
set_option maxRecDepth 20000 in
set_option maxHeartbeats 8000000 in
theorem twriteX_any (l : List En) (v : Value) (st : Int) (w : World) (h : badSt st = true) :
    Calls Tryz.prog 9 #[v, .int .i64 st] w fun r w' => r = .returned (.tuple #[.slice none 0 0, .int .i64 1]) ∧ w = w' := by
  have q0 : (st != 0) = true := by
    simp only [badSt, Bool.or_eq_true, decide_eq_true_iff] at h
    simp; omega
  have q1 : (st != 1) = true := by
    simp only [badSt, Bool.or_eq_true, decide_eq_true_iff] at h
    simp; omega
  have q2 : (st != 2) = true := by
    simp only [badSt, Bool.or_eq_true, decide_eq_true_iff] at h
    simp; omega
  clear h
  go_enter Tryz.func9, Tryz.ntmps9
  go_wp2_with fail
  go_ret2
  exact ⟨rfl, rfl⟩
set_option maxRecDepth 20000 in
set_option maxHeartbeats 8000000 in
theorem twriteC_any (l : List En) (v : Value) (st : Int) (X : Nat → Prop) (w : World) (hsl : Sl 10 Rent X w v l) (hL : LB l) (h : badSt st = false) (hc : (chkL l).2 ≠ 0) :
    Calls Tryz.prog 9 #[v, .int .i64 st] w fun r w' => r = .returned (.tuple #[.slice none 0 0, .int .i64 (chkL l).2]) ∧ Below w.heap.size w w' := by
  have hck := pchkall_any l v X w hsl hL
  generalize (chkL l).1 = c1 at hck
  generalize (chkL l).2 = c2 at hck hc ⊢
  have hcb : (c2 != 0) = true := by simpa using hc
  simp only [badSt, Bool.or_eq_false_iff, decide_eq_false_iff_not] at h
  have h3 : st = 0 ∨ st = 1 ∨ st = 2 := by omega
  clear h hc
  rcases h3 with rfl | rfl | rfl
  · go_enter Tryz.func9, Tryz.ntmps9
    go_wp2_with (go_at_call 15; refine hck.mono ?_; clear hck; rintro e W1 ⟨rfl, hb⟩)
    go_ret2
    exact ⟨rfl, hb⟩
  · go_enter Tryz.func9, Tryz.ntmps9
    go_wp2_with (go_at_call 15; refine hck.mono ?_; clear hck; rintro e W1 ⟨rfl, hb⟩)
    go_ret2
    exact ⟨rfl, hb⟩
  · go_enter Tryz.func9, Tryz.ntmps9
    go_wp2_with (go_at_call 15; refine hck.mono ?_; clear hck; rintro e W1 ⟨rfl, hb⟩)
    go_ret2
    exact ⟨rfl, hb⟩
theorem row8_nil (w w' : World) (h : Below w.heap.size w w') : Row8 w none w.heap.size 5 w' (.slice none 0 0) [] :=
  ⟨World.ownsRow_nil _ _ _ _, (fun k h => by cases h), Kept.of_below h _, Nat.le_refl _⟩
/-- What the program writes. -/
theorem twrite_any (st : Int) (l : List En) (v : Value) (X : Nat → Prop) (w : World) (hsl : Sl 10 Rent X w v l) (hL : LB l) (hlen : l.length ≤ 50) (hD : Deb w) (hT : Tab w) :
    Calls Tryz.prog 9 #[v, .int .i64 st] w fun r w' => ∃ v', r = .returned (.tuple #[v', .int .i64 (tarErr st l)]) ∧ Row8 w none w.heap.size 5 w' v' (tarOut st l) := by
  cases hs : badSt st with
  | true =>
    have e : tarErr st l = 1 := by rw [tarErr, if_pos hs]
    rw [tarOut, e, if_neg (by decide)]
    refine (twriteX_any l v st w hs).mono ?_
    rintro r w' ⟨rfl, rfl⟩
    exact ⟨_, rfl, row8_nil _ _ (Below.refl _ _)⟩
  | false =>
    by_cases hc : (chkL l).2 ≠ 0
    · have e : tarErr st l = (chkL l).2 := by rw [tarErr, if_neg (by rw [hs]; simp), if_pos hc]
      rw [tarOut, e, if_neg hc]
      refine (twriteC_any l v st X w hsl hL hs hc).mono ?_
      rintro r w' ⟨rfl, hb⟩
      exact ⟨_, rfl, row8_nil _ _ hb⟩
    · have e : tarErr st l = if l.any (badT st.toNat) = true then 10 else 0 := by rw [tarErr, if_neg (by rw [hs]; simp), if_neg hc]
      have hR := (chk_rt l).1 (Classical.not_not.1 hc)
      simp only [badSt, Bool.or_eq_false_iff, decide_eq_false_iff_not] at hs
      have h3 : st = 0 ∨ st = 1 ∨ st = 2 := by omega
      rw [tarOut, e]
      rcases h3 with rfl | rfl | rfl
      · have e0 : l.any (badT (0 : Int).toNat) = l.any badU := rfl
        rw [e0]
        refine (twrite0_any l v X w hsl hL hlen hR hD hT).mono ?_
        rintro r w' ⟨v', rfl, h⟩
        refine ⟨v', rfl, ?_⟩
        cases hb : l.any badU with
        | true => rw [hb] at h; exact h
        | false => rw [hb] at h; exact h
      · have e0 : l.any (badT (1 : Int).toNat) = false := by
          rw [List.any_eq_false]
          intro x _
          simp [badT]
        rw [e0]
        refine (twrite1_any l v X w hsl hL hlen hR hD hT).mono ?_
        rintro r w' ⟨v', rfl, h⟩
        exact ⟨v', rfl, h⟩
      · have e0 : l.any (badT (2 : Int).toNat) = false := by
          rw [List.any_eq_false]
          intro x _
          simp [badT]
        rw [e0]
        refine (twrite2_any l v X w hsl hL hlen hR hD hT).mono ?_
        rintro r w' ⟨v', rfl, h⟩
        exact ⟨v', rfl, h⟩
end Go.Proofs.YtpheifdpjcppdaaGreatDoor

/- Versions of Dpkg and Rpm parted at the first sign and at the last one: the same where they are right. -/
import Derived.Test.YtdnncbhbajciaaaDoorVerU
namespace Go.Proofs.YtdnncbhbajciaaaDoor
open Go
theorem inB_mem (l : List UInt8) (c : UInt8) : inB l c = true ↔ c ∈ l := by
  rw [inB, ← Lib.contains_iff_indexByte]
  exact List.contains_iff_mem
theorem cut_split (l : List UInt8) (c : UInt8) (h : inB l c = true) : l = cutA l c ++ c :: cutB l c ∧ c ∉ cutA l c := by
  rw [cutA, if_pos h, cutB, if_pos h]
  rw [inB, decide_eq_true_eq] at h
  induction l with
  | nil => simp [Lib.indexByte] at h
  | cons x l ih =>
    simp only [Lib.indexByte] at h ⊢
    by_cases hx : x = c
    · subst hx
      simp
    · have hx' : (x == c) = false := by simpa using hx
      rw [if_neg (by rw [hx']; simp)] at h ⊢
      by_cases h1 : Lib.indexByte l c = -1
      · rw [if_pos (by rw [h1]; rfl)] at h; omega
      · have hge := Lib.indexByte_ge l c
        rw [if_neg (by simpa using h1)] at h ⊢
        have hge' : 0 ≤ Lib.indexByte l c := by omega
        obtain ⟨k, hk⟩ := Int.eq_ofNat_of_zero_le hge'
        have hi := ih hge'
        rw [hk] at hi ⊢
        rw [show ((k : Int) + 1).toNat = k + 1 by omega]
        simp only [Int.toNat_natCast] at hi
        refine ⟨?_, ?_⟩
        · rw [List.take_succ_cons, List.drop_succ_cons, List.cons_append]
          exact congrArg _ hi.1
        · rw [List.take_succ_cons]
          intro hm
          rcases List.mem_cons.1 hm with e | e
          · exact hx e.symm
          · exact hi.2 e
theorem last_split (r : List UInt8) : (lastI r < 0 ∧ 45 ∉ r) ∨ (0 ≤ lastI r ∧ r = dPr r ++ 45 :: dRev r ∧ 45 ∉ dRev r) := by
  rcases Lib.lastIndexByte_spec (bs r) 45 with ⟨h, hn⟩ | ⟨i, h1, h2, h3, h4⟩
  · refine .inl ⟨by show Lib.lastIndexByte (bs r) 45 < 0; rw [h]; omega, fun hm => ?_⟩
    obtain ⟨j, hj, he⟩ := List.getElem_of_mem hm
    have := hn j (by rw [bs_size]; exact hj)
    rw [get_bang _ j (by rw [bs_size]; exact hj)] at this
    exact this (by show (r[j].toNat : Int) = 45; rw [he]; rfl)
  · have hl : lastI r = i := h2
    rw [bs_size] at h1
    have hi : r[i] = 45 := by
      rw [get_bang _ i (by rw [bs_size]; exact h1)] at h3
      have h3' : (r[i].toNat : Int) = 45 := h3
      exact UInt8.toNat_inj.1 (by show r[i].toNat = 45; omega)
    refine .inr ⟨by omega, ?_, ?_⟩
    · rw [dPr, if_pos (by omega), dRev, if_pos (by omega), hl, Int.toNat_natCast]
      have := List.take_append_drop i r
      rw [List.drop_eq_getElem_cons h1, hi] at this
      exact this.symm
    · rw [dRev, if_pos (by omega), hl, Int.toNat_natCast]
      intro hm
      obtain ⟨j, hj, he⟩ := List.getElem_of_mem hm
      rw [List.length_drop] at hj
      have := h4 (i + 1 + j) (by omega) (by rw [bs_size]; omega)
      rw [get_bang _ _ (by rw [bs_size]; omega)] at this
      have e2 : (bs r)[i + 1 + j]'(by rw [bs_size]; omega) = 45 := by
        rw [List.getElem_drop] at he
        exact he
      exact this (by rw [e2]; rfl)
theorem uniq_first {c : UInt8} : ∀ {A C B D : List UInt8}, c ∉ A → c ∉ C → A ++ c :: B = C ++ c :: D → A = C ∧ B = D
  | [], [], _, _, _, _, h => by simpa using h
  | [], y :: C, _, _, _, hC, h => by
    injection h with h1 _
    exact absurd (by rw [← h1]; simp) hC
  | x :: A, [], _, _, hA, _, h => by
    injection h with h1 _
    exact absurd (by rw [h1]; simp) hA
  | x :: A, y :: C, B, D, hA, hC, h => by
    injection h with h1 h2
    obtain ⟨e1, e2⟩ := uniq_first (fun hm => hA (by simp [hm])) (fun hm => hC (by simp [hm])) h2
    exact ⟨by rw [h1, e1], e2⟩
theorem made_no (l o : List UInt8) (c : UInt8) (h : madeB l o = true) (hd : isDig c = false) (hl : isLet c = false) (ho : inB o c = false) : c ∉ l := by
  rw [madeB, Bool.and_eq_true] at h
  intro hm
  have := List.all_eq_true.1 h.2 c hm
  simp [madeP, hd, hl, ho] at this
/-- What the reference asks of a version of Rpm behind its epoch. -/
def refR (r : List UInt8) : Bool := decide (0 ≤ lastI r) && (madeB (dPr r) rOthers && madeB (dRev r) rOthers)
theorem refR_made (r : List UInt8) (h : refR r = true) : madeB (dPr r) rOthers = true ∧ madeB (dRev r) rOthers = true ∧ 0 ≤ lastI r := by
  simp only [refR, Bool.and_eq_true, decide_eq_true_eq] at h
  exact ⟨h.2.1, h.2.2, h.1⟩
theorem n45 : isDig 45 = false ∧ isLet 45 = false ∧ inB rOthers 45 = false := by decide +kernel
theorem refR_same (r : List UInt8) : (refR r = (madeB (cutA r 45) rOthers && madeB (cutB r 45) rOthers)) ∧ (refR r = true → dPr r = cutA r 45 ∧ dRev r = cutB r 45) := by
  have key1 : refR r = true → dPr r = cutA r 45 ∧ dRev r = cutB r 45 := fun h => by
    obtain ⟨h1, h2, h3⟩ := refR_made r h
    rcases last_split r with ⟨hn, _⟩ | ⟨_, hr, _⟩
    · omega
    · have hin : inB r 45 = true := (inB_mem r 45).2 (by rw [hr]; simp)
      obtain ⟨hs, hA⟩ := cut_split r 45 hin
      have hC := made_no _ _ 45 h1 n45.1 n45.2.1 n45.2.2
      have := uniq_first hA hC (hs.symm.trans hr)
      exact ⟨this.1.symm, this.2.symm⟩
  have key2 : (madeB (cutA r 45) rOthers && madeB (cutB r 45) rOthers) = true → refR r = true := fun h => by
    rw [Bool.and_eq_true] at h
    have hin : inB r 45 = true := by
      cases hi : inB r 45 with
      | true => rfl
      | false =>
        have : cutB r 45 = [] := by rw [cutB, if_neg (by rw [hi]; simp)]
        rw [this] at h
        simp [madeB] at h
    obtain ⟨hs, hA⟩ := cut_split r 45 hin
    have hB := made_no _ _ 45 h.2 n45.1 n45.2.1 n45.2.2
    have hmem : 45 ∈ r := (inB_mem r 45).1 hin
    rcases last_split r with ⟨_, hno⟩ | ⟨hge, hr, hD⟩
    · exact absurd hmem hno
    · have hC : 45 ∉ dPr r := by
        have c1 : r.count 45 = 1 := by
          rw [hs, List.count_append, List.count_cons, List.count_eq_zero.2 hA, List.count_eq_zero.2 hB]
          simp
        have c2 := c1
        rw [hr, List.count_append, List.count_cons, List.count_eq_zero.2 hD] at c2
        simp at c2
        exact List.count_eq_zero.1 c2
      obtain ⟨e1, e2⟩ := uniq_first hA hC (hs.symm.trans hr)
      rw [refR, ← e1, ← e2, h.1, h.2]
      simp [hge]
  refine ⟨?_, key1⟩
  cases h : refR r with
  | true =>
    obtain ⟨h1, h2, _⟩ := refR_made r h
    obtain ⟨e1, e2⟩ := key1 h
    rw [← e1, ← e2, h1, h2]
    rfl
  | false =>
    cases h2 : (madeB (cutA r 45) rOthers && madeB (cutB r 45) rOthers) with
    | false => rfl
    | true => rw [key2 h2] at h; cases h
/-- What the reference asks of a version of Dpkg behind its epoch. -/
def refD (r : List UInt8) : Bool := if lastI r < 0 then madeB r [46, 43, 126] && headDig r else (madeB (dPr r) [46, 43, 126, 45] && headDig (dPr r)) && madeB (dRev r) [46, 43, 126]
theorem inB_app (o : List UInt8) (c d : UInt8) (h : d ≠ c) : inB (o ++ [c]) d = inB o d := by
  have h1 := inB_mem (o ++ [c]) d
  have h2 := inB_mem o d
  have h3 : d ∈ o ++ [c] ↔ d ∈ o := by simp [h]
  cases hA : inB (o ++ [c]) d <;> cases hB : inB o d <;> simp_all
theorem refD_same (r : List UInt8) : refD r = restOk r := by
  rw [refD, restOk]
  rcases last_split r with ⟨hn, hno⟩ | ⟨hge, hr, hD⟩
  · have e : dPr r = r := by rw [dPr, if_neg (by omega)]
    rw [if_pos hn, e]
    have hm : madeB r [46, 43, 126] = madeB r [46, 43, 126, 45] := by
      rw [madeB, madeB]
      congr 1
      rw [Bool.eq_iff_iff, List.all_eq_true, List.all_eq_true]
      constructor
      · intro h x hx
        have hx45 : x ≠ 45 := fun e => hno (e ▸ hx)
        have := h x hx
        rw [madeP] at this ⊢
        rw [show ([46, 43, 126, 45] : List UInt8) = [46, 43, 126] ++ [45] from rfl, inB_app _ _ _ hx45]
        exact this
      · intro h x hx
        have hx45 : x ≠ 45 := fun e => hno (e ▸ hx)
        have := h x hx
        rw [madeP] at this ⊢
        rw [show ([46, 43, 126, 45] : List UInt8) = [46, 43, 126] ++ [45] from rfl, inB_app _ _ _ hx45] at this
        exact this
    rw [hm]
    simp [hn]
  · rw [if_neg (by omega), show decide (lastI r < 0) = false by simp; omega]
    simp only [Bool.false_or]
    cases madeB (dRev r) [46, 43, 126] <;> cases madeB (dPr r) [46, 43, 126, 45] <;> cases headDig (dPr r) <;> rfl
/-- The digits ahead of the first sign are all that is ahead of it. -/
theorem digs_at (l : List UInt8) (h : inB l 58 = true) : ((digs l).length = (cutA l 58).length) ↔ (cutA l 58).all isDig = true := by
  obtain ⟨hs, _⟩ := cut_split l 58 h
  have key : ∀ A B : List UInt8, (digs (A ++ 58 :: B)).length = A.length ↔ A.all isDig = true := by
    intro A B
    induction A with
    | nil => simp [digs, List.takeWhile_cons, show isDig 58 = false by decide]
    | cons x A ih =>
      cases hx : isDig x with
      | true => simp [digs, List.takeWhile_cons, hx] at ih ⊢; exact ih
      | false => simp [digs, List.takeWhile_cons, hx]
  have := key (cutA l 58) (cutB l 58)
  rw [← hs] at this
  exact this
theorem epOk_ref (l : List UInt8) (h : inB l 58 = true) : epOk l = (decide (1 ≤ (cutA l 58).length) && decide ((cutA l 58).length ≤ 9) && decide ((digs l).length = (cutA l 58).length)) := by
  rw [epOk, h, numB]
  have h1 := digs_at l h
  have h2 : decide ((digs l).length = (cutA l 58).length) = (cutA l 58).all isDig := by
    cases h3 : (cutA l 58).all isDig with
    | true => simpa using h1.2 h3
    | false => simpa using fun e => by rw [h1.1 e] at h3; cases h3
  rw [h2]
  cases cutA l 58 with
  | nil => rfl
  | cons x t => simp; cases isDig x <;> cases t.all isDig <;> simp
theorem rEpOk_ref (l : List UInt8) : rEpOk l = (epOk l && !noughtB (dEp l)) := by
  rw [rEpOk, epOk, dEp]
  cases inB l 58 with
  | false => rfl
  | true => rfl
theorem dOk_ref (l : List UInt8) : dOk l = (epOk l && refD (dRest l)) := by rw [dOk, refD_same]
theorem rOk_ref (l : List UInt8) : rOk l = (epOk l && (refR (dRest l) && !noughtB (dEp l))) := by
  rw [rOk, rEpOk_ref, ← (refR_same (dRest l)).1]
  cases epOk l <;> cases noughtB (dEp l) <;> simp
end Go.Proofs.YtdnncbhbajciaaaDoor

/- Plain facts for a line of paragraphs. -/
import Derived.Test.YthcgomainhaemaaDoorPaI
namespace Go.Proofs.YthcgomainhaemaaDoor
open Go.RowKit
theorem cut58 (l : List UInt8) : inB l 58 = l.contains 58 ∧ cutA l 58 = preC58 l ∧ (inB l 58 = true → cutB l 58 = l.drop ((preC58 l).length + 1)) := by
  induction l with
  | nil => exact ⟨rfl, rfl, fun h => by cases h⟩
  | cons c t ih =>
    obtain ⟨h1, h2, h3⟩ := cut_cons c 58 t
    obtain ⟨i1, i2, i3⟩ := ih
    by_cases hc : c = 58
    · subst hc
      rw [h1, h2, h3]
      refine ⟨by simp, by simp [preC58], fun _ => by simp [preC58]⟩
    · have hp : preC58 (c :: t) = c :: preC58 t := by simp [preC58, List.takeWhile, hc]
      have hc2 : ¬ 58 = c := fun h => hc h.symm
      rw [h1, h2, h3, hp]
      refine ⟨by simp [hc, hc2, i1], by simp [hc, i2], fun h => ?_⟩
      rw [if_neg hc] at h
      rw [if_neg hc, i3 h]
      rfl
theorem trimR_is (l : List UInt8) : Lib.trimRightB l 32 = trimR l := by
  have : (fun x : UInt8 => x == 32) = blk := by funext x; simp [blk]; rw [Bool.eq_iff_iff]; simp
  rw [Lib.trimRightB, trimR, this]
theorem trimL_is (l : List UInt8) : Lib.trimLeftB l 32 = trimL l := by
  have : (fun x : UInt8 => x == 32) = blk := by funext x; simp [blk]; rw [Bool.eq_iff_iff]; simp
  rw [Lib.trimLeftB, trimL, this]
theorem blankL_cons (c : UInt8) (t : List UInt8) : blankL (c :: t) = (blk c && blankL t) := List.all_cons ..
theorem dw_nil (l : List UInt8) : l.dropWhile blk = [] ↔ blankL l = true := by
  induction l with
  | nil => exact ⟨fun _ => rfl, fun _ => rfl⟩
  | cons c t ih =>
    rw [blankL_cons, List.dropWhile_cons]
    cases hc : blk c with
    | true => simpa using ih
    | false => simp
theorem trimR_cons (c : UInt8) (t : List UInt8) : trimR (c :: t) = if blankL (c :: t) = true then [] else c :: trimR t := by
  rw [trimR, List.reverse_cons, List.dropWhile_append, blankL_cons]
  have hr : blankL t.reverse = blankL t := List.all_reverse ..
  have hd := dw_nil t.reverse
  rw [hr] at hd
  cases h : blankL t with
  | true =>
    have e := hd.2 h
    rw [e, trimR, e]
    cases hc : blk c with
    | true => simp [List.dropWhile, hc]
    | false => simp [List.dropWhile, hc]
  | false =>
    have e : ¬ t.reverse.dropWhile blk = [] := fun e => by rw [hd.1 e] at h; cases h
    rw [if_neg (by simpa [List.isEmpty_iff] using e), if_neg (by simp), trimR]
    simp
theorem bare_comm (l : List UInt8) : trimL (trimR l) = bareL l := by
  induction l with
  | nil => rfl
  | cons c t ih =>
    rw [bareL, trimR_cons]
    by_cases hc : blk c = true
    · have e : trimL (c :: t) = trimL t := by simp [trimL, List.dropWhile, hc]
      rw [e]
      by_cases h : blankL (c :: t) = true
      · rw [if_pos h]
        have : trimL t = [] := (dw_nil t).2 (by rw [blankL_cons] at h; simp at h; exact h.2)
        rw [this]; rfl
      · rw [if_neg h]
        have e2 : trimL (c :: trimR t) = trimL (trimR t) := by simp [trimL, List.dropWhile, hc]
        rw [e2, ih]; rfl
    · have e : trimL (c :: t) = c :: t := by simp [trimL, List.dropWhile, hc]
      have hb : ¬ blankL (c :: t) = true := by simp [blankL_cons, hc]
      rw [e, trimR_cons, if_neg hb]
      simp [trimL, List.dropWhile, hc]
theorem trimB_is (l : List UInt8) : Lib.trimB l 32 = bareL l := by rw [Lib.trimB, trimR_is, trimL_is, bare_comm]
theorem trimR_len (l : List UInt8) : (trimR l).length ≤ l.length := by
  induction l with
  | nil => exact Nat.le_refl _
  | cons c t ih =>
    rw [trimR_cons]
    split
    · simp
    · simp; exact ih
theorem trimL_len (l : List UInt8) : (trimL l).length ≤ l.length := (List.dropWhile_suffix blk).length_le
theorem bareL_len (l : List UInt8) : (bareL l).length ≤ l.length := Nat.le_trans (trimR_len _) (trimL_len _)
theorem hasName_is (p : List Fd) (x : List UInt8) : (p.map (·.1)).contains x = hasName p x := by
  induction p with
  | nil => rfl
  | cons f p ih =>
    have e : hasName (f :: p) x = (decide (f.1 = x) || hasName p x) := by simp [hasName]
    rw [e, ← ih, List.map_cons, List.contains_cons]
    congr 1
    by_cases h : f.1 = x
    · simp [h]
    · have h2 : ¬ x = f.1 := fun e => h e.symm
      simp [h, h2]
theorem join_add (ls : List (List UInt8)) (x : List UInt8) (h : ls ≠ []) : Lib.join (ls ++ [x]) [10] = Lib.join ls [10] ++ (10 :: x) := by
  rw [join_snoc ls x [10] h]; rfl
end Go.Proofs.YthcgomainhaemaaDoor

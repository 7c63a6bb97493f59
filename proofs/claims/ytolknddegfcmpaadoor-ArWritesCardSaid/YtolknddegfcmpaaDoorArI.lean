/- Archives of items, in plain words. -/
import Derived.Test.YtolknddegfcmpaaDoorArE
import Derived.Test.YtolknddegfcmpaaDoorArG
import Derived.Test.YtolknddegfcmpaaDoorArA
namespace Go.Proofs.YtolknddegfcmpaaDoor
open Go.RowKit
/-- Does a name stand in the table of long names? -/
def inTab (s : List UInt8) : Bool := decide (15 < s.length) || decide (s = [35, 49])
/-- Does a name stand ahead of the bytes? -/
def inDat (s : List UInt8) : Bool := decide (16 < s.length) || s.contains 32
def nameW (st : Int) (place : Nat) (s : List UInt8) : List UInt8 :=
  if st = 1 then (if inTab s = true then [47] ++ Lib.decDigits place else s ++ [47])
  else if st = 2 then (if inDat s = true then [35, 49, 47] ++ Lib.decDigits s.length else s) else s
def dataW (st : Int) (s d : List UInt8) : List UInt8 := if st = 2 then (if inDat s = true then s ++ d else d) else d
def memW (st : Int) (place : Nat) (e : It) : List UInt8 :=
  memI (nameW st place e.name) (Lib.decDigits e.mtime.toNat) (Lib.decDigits e.uid.toNat) (Lib.decDigits e.gid.toNat) (octD e.mode.toNat) (dataW st e.name e.data)
/-- The table of long names behind so many items. -/
def tabU (st : Int) (l : List It) : Nat → List UInt8
  | 0 => []
  | k + 1 => tabU st l k ++ (match l[k]? with | some e => if st = 1 then (if inTab e.name = true then e.name ++ [47, 10] else []) else [] | none => [])
/-- The members of so many items. -/
def bodyU (st : Int) (l : List It) : Nat → List UInt8
  | 0 => []
  | k + 1 => bodyU st l k ++ (match l[k]? with | some e => memW st (tabU st l k).length e | none => [])
def markA : List UInt8 := [33, 60, 97, 114, 99, 104, 62, 10]
def headW (t : List UInt8) : List UInt8 := if t = [] then [] else memI [47, 47] [] [] [] [] t
def arB (st : Int) (l : List It) : List UInt8 := markA ++ (headW (tabU st l l.length) ++ bodyU st l l.length)
def chkIs : List It → Int
  | [] => 0
  | e :: t => if chkI e ≠ 0 then chkI e else chkIs t
def longs (l : List It) : Bool := l.any fun e => decide (16 < e.name.length)
def arErr (st : Int) (l : List It) : Int :=
  if st ≠ 0 ∧ st ≠ 1 ∧ st ≠ 2 then 1 else if 4096 < l.length then 4 else if chkIs l ≠ 0 then chkIs l else if st = 0 ∧ longs l = true then 10 else 0
theorem tabU_step (st : Int) (l : List It) (k : Nat) (h : k < l.length) : tabU st l (k + 1) = tabU st l k ++ (if st = 1 then (if inTab l[k].name = true then l[k].name ++ [47, 10] else []) else []) := by
  rw [tabU, List.getElem?_eq_getElem h]
theorem bodyU_step (st : Int) (l : List It) (k : Nat) (h : k < l.length) : bodyU st l (k + 1) = bodyU st l k ++ memW st (tabU st l k).length l[k] := by
  rw [bodyU, List.getElem?_eq_getElem h]
theorem chkIs_step (l : List It) (k : Nat) (h : k < l.length) : chkIs (l.drop k) = if chkI l[k] ≠ 0 then chkI l[k] else chkIs (l.drop (k + 1)) := by
  rw [List.drop_eq_getElem_cons h]; rfl
theorem longs_step (l : List It) (k : Nat) (h : k < l.length) : longs (l.drop k) = (decide (16 < l[k].name.length) || longs (l.drop (k + 1))) := by
  rw [List.drop_eq_getElem_cons h]; rfl
theorem chkIs_all : ∀ (l : List It), chkIs l = 0 → ∀ e ∈ l, chkI e = 0
  | [], _, e, h => by cases h
  | a :: t, h, e, he => by
    rw [chkIs] at h
    by_cases ha : chkI a = 0
    · rw [if_neg (fun c => c ha)] at h
      rcases List.mem_cons.1 he with rfl | h2
      · exact ha
      · exact chkIs_all t h e h2
    · rw [if_pos ha] at h
      exact absurd h ha
theorem chkI_facts {e : It} (h : chkI e = 0) : 1 ≤ e.name.length ∧ e.name.length ≤ 200 ∧ 0 ≤ e.mtime ∧ e.mtime ≤ 8589934591 ∧ 0 ≤ e.uid ∧ e.uid ≤ 999999 ∧ 0 ≤ e.gid ∧ e.gid ≤ 999999 ∧ 0 ≤ e.mode ∧ e.mode ≤ 4095 := by
  unfold chkI at h
  by_cases h1 : nmBad e.name = true
  · rw [if_pos h1] at h; exact absurd h (by decide)
  rw [if_neg h1] at h
  by_cases h2 : nuBad e = true
  · rw [if_pos h2] at h; exact absurd h (by decide)
  have h1' : nmBad e.name = false := by simpa using h1
  have h2' : nuBad e = false := by simpa using h2
  unfold nmBad at h1'
  unfold nuBad at h2'
  simp only [Bool.or_eq_false_iff, decide_eq_false_iff_not] at h1' h2'
  obtain ⟨a1, a2, _⟩ := h1'
  obtain ⟨b1, b2, b3, b4, b5, b6, b7, b8⟩ := h2'
  omega
theorem nd_len (n k : Nat) (hk : 0 < k) (h : n < 10 ^ k) : (Lib.decDigits n).length ≤ k := by
  rw [Lib.decDigits_length]
  exact nd_le k n hk h
theorem nameW_len (st : Int) (place : Nat) (s : List UInt8) (h1 : s.length ≤ 200) (hp : place < 1000000) (h0 : st = 0 → s.length ≤ 16) (hst : st = 0 ∨ st = 1 ∨ st = 2) : (nameW st place s).length ≤ 16 := by
  have e1 := nd_len place 6 (by omega) (by omega)
  have e2 := nd_len s.length 3 (by omega) (by omega)
  unfold nameW
  split
  · split
    · simp; omega
    · next h =>
      have h' : inTab s = false := by simpa using h
      unfold inTab at h'
      simp only [Bool.or_eq_false_iff, decide_eq_false_iff_not] at h'
      simp; omega
  · split
    · split
      · simp; omega
      · next h =>
        have h' : inDat s = false := by simpa using h
        unfold inDat at h'
        simp only [Bool.or_eq_false_iff, decide_eq_false_iff_not] at h'
        omega
    · exact h0 (by omega)
theorem tabU_le (st : Int) (l : List It) (h : ∀ e ∈ l, e.name.length ≤ 200) : ∀ k, k ≤ l.length → (tabU st l k).length ≤ k * 202
  | 0, _ => by simp [tabU]
  | k + 1, hk => by
    have hi := tabU_le st l h k (by omega)
    have hn := h _ (List.getElem_mem (show k < l.length by omega))
    rw [tabU_step st l k (by omega), List.length_append]
    split
    · split
      · simp; omega
      · simp; omega
    · simp; omega
theorem memI_len (a b c d e f : List UInt8) (h1 : a.length ≤ 16) (h2 : b.length ≤ 12) (h3 : c.length ≤ 6) (h4 : d.length ≤ 6) (h5 : e.length ≤ 8) (h6 : f.length ≤ 100000000) : (memI a b c d e f).length ≤ 61 + f.length := by
  have := filB_len (Lib.decDigits f.length) 10 (dec_ten _ (by omega))
  have := filB_len a 16 h1
  have := filB_len b 12 h2
  have := filB_len c 6 h3
  have := filB_len d 6 h4
  have := filB_len e 8 h5
  simp only [memI, List.length_append]
  split <;> simp <;> omega
/-- The fields of a right item fit. -/
theorem fields_fit {e : It} (h : chkI e = 0) : (Lib.decDigits e.mtime.toNat).length ≤ 12 ∧ (Lib.decDigits e.uid.toNat).length ≤ 6 ∧ (Lib.decDigits e.gid.toNat).length ≤ 6 ∧ (octD e.mode.toNat).length ≤ 8 := by
  obtain ⟨_, _, _, _, _, _, _, _, _, _⟩ := chkI_facts h
  refine ⟨nd_len _ 12 (by omega) (by omega), nd_len _ 6 (by omega) (by omega), nd_len _ 6 (by omega) (by omega), ?_⟩
  have := octD_len 3 e.mode.toNat (by omega)
  omega
theorem dataW_le (st : Int) (s d : List UInt8) : (dataW st s d).length ≤ s.length + d.length := by
  unfold dataW
  split
  · split
    · simp
    · omega
  · omega
theorem memW_le {st : Int} {place : Nat} {e : It} (h : chkI e = 0) (hp : place < 1000000) (h0 : st = 0 → e.name.length ≤ 16) (hst : st = 0 ∨ st = 1 ∨ st = 2) (hd : e.data.length ≤ 100000) : (memW st place e).length ≤ 200000 := by
  obtain ⟨f1, f2, f3, f4⟩ := fields_fit h
  have hn := (chkI_facts h).2.1
  have := dataW_le st e.name e.data
  have := memI_len _ _ _ _ _ (dataW st e.name e.data) (nameW_len st place e.name hn hp h0 hst) f1 f2 f3 f4 (by omega)
  rw [memW]
  omega
/-- The archive behind so many items. -/
def accU (st : Int) (l : List It) (k : Nat) : List UInt8 := markA ++ (headW (tabU st l l.length) ++ bodyU st l k)
theorem accU_step (st : Int) (l : List It) (k : Nat) (h : k < l.length) : accU st l (k + 1) = accU st l k ++ memW st (tabU st l k).length l[k] := by
  rw [accU, bodyU_step st l k h, accU]
  simp only [List.append_assoc]
theorem tabU_no {st : Int} (h : st ≠ 1) (l : List It) : ∀ k, k ≤ l.length → tabU st l k = []
  | 0, _ => rfl
  | k + 1, hk => by rw [tabU_step st l k (by omega), tabU_no h l k (by omega), if_neg h]; rfl
theorem accU_zero (st : Int) (l : List It) : accU st l 0 = markA ++ headW (tabU st l l.length) := by rw [accU, bodyU, List.append_nil]
theorem headW_le (t : List UInt8) (h : t.length ≤ 100000) : (headW t).length ≤ 200000 := by
  unfold headW
  split
  · simp
  · have := memI_len [47, 47] [] [] [] [] t (by decide) (by decide) (by decide) (by decide) (by decide) (by omega)
    omega
/-- Few items, with short names and few bytes. -/
def SmallI (l : List It) : Prop := l.length ≤ 100 ∧ ∀ e ∈ l, e.name.length ≤ 4000 ∧ e.data.length ≤ 4000
end Go.Proofs.YtolknddegfcmpaaDoor

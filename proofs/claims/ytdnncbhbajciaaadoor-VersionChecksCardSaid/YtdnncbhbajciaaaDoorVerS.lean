/- The parts of an Apk version, in plain words. -/
import Derived.Test.YtdnncbhbajciaaaDoorVerG
namespace Go.Proofs.YtdnncbhbajciaaaDoor
open Go
/-- The numbers with points between them; none: there is one lacking. -/
def numsP (kind : Int) (r : List UInt8) (acc : List Pc) : Option (List Pc × List UInt8) :=
  if h : digs r = [] then none
  else match hr : past isDig r with
    | 46 :: t => numsP 6 t (acc ++ [(kind, digs r, 0)])
    | q => some (acc ++ [(kind, digs r, 0)], q)
termination_by r.length
decreasing_by
  have := congrArg List.length hr
  have h2 := past_len isDig r
  simp only [List.length_cons] at this
  omega
theorem nums_none (kind : Int) (r : List UInt8) (acc : List Pc) (h : digs r = []) : numsP kind r acc = none := by rw [numsP, dif_pos h]
theorem nums_dot (kind : Int) (r t : List UInt8) (acc : List Pc) (h : digs r ≠ []) (hr : past isDig r = 46 :: t) : numsP kind r acc = numsP 6 t (acc ++ [(kind, digs r, 0)]) := by
  rw [numsP, dif_neg h]
  split
  · rename_i u hu
    rw [hr] at hu
    injection hu with _ e
    rw [e]
  · rename_i hq
    exact absurd hr (hq t)
theorem nums_end (kind : Int) (r : List UInt8) (acc : List Pc) (h : digs r ≠ []) (hr : ∀ t, past isDig r ≠ 46 :: t) : numsP kind r acc = some (acc ++ [(kind, digs r, 0)], past isDig r) := by
  rw [numsP, dif_neg h]
  split
  · rename_i u hu
    exact absurd hu (hr u)
  · rfl
/-- The letter. -/
def signP (r : List UInt8) (acc : List Pc) : List Pc × List UInt8 :=
  match r with
  | c :: t => if isSmall c = true then (acc ++ [(5, [c], 0)], t) else (acc, r)
  | [] => (acc, [])
def smalls (l : List UInt8) : List UInt8 := l.takeWhile isSmall
def wKind (wd : Int) : Int := if 4 ≤ wd then 4 else 0
def wAcc (u : List UInt8) (a : List Pc) : List Pc := if digs u = [] then a else a ++ [(3, digs u, 0)]
/-- The words with their numbers; none: there is one that is no word. -/
def wordsP (r : List UInt8) (acc : List Pc) : Option (List Pc × List UInt8) :=
  match r with
  | 95 :: t =>
    if wordI (smalls t) < 0 then none
    else wordsP (past isDig (past isSmall t)) (wAcc (past isSmall t) (acc ++ [(wKind (wordI (smalls t)), smalls t, wordI (smalls t))]))
  | q => some (acc, q)
termination_by r.length
decreasing_by
  have h1 := past_len isSmall t
  have h2 := past_len isDig (past isSmall t)
  simp only [List.length_cons]
  omega
theorem words_none (t : List UInt8) (acc : List Pc) (h : wordI (smalls t) < 0) : wordsP (95 :: t) acc = none := by rw [wordsP, if_pos h]
theorem words_next (t : List UInt8) (acc : List Pc) (h : ¬ wordI (smalls t) < 0) :
    wordsP (95 :: t) acc = wordsP (past isDig (past isSmall t)) (wAcc (past isSmall t) (acc ++ [(wKind (wordI (smalls t)), smalls t, wordI (smalls t))])) := by rw [wordsP, if_neg h]
theorem words_end (r : List UInt8) (acc : List Pc) (h : ∀ t, r ≠ 95 :: t) : wordsP r acc = some (acc, r) := by
  rw [wordsP]
  exact h
/-- The number behind -r, where that is all. -/
def revT (q : List UInt8) : Option (List UInt8) := match q with
  | 45 :: 114 :: t => if numB t = true then some t else none
  | _ => none
/-- A version of Apk: pieces, what is proper, the revision. -/
def apkEnd (l : List UInt8) : Option (List Pc × List UInt8) → Option (List Pc × List UInt8 × List UInt8)
  | none => none
  | some (b, q) => if q = [] then some (b ++ [(1, [], 0)], l, [])
    else match revT q with
      | some t => some (b ++ [(2, t, 0), (1, [], 0)], l.take (l.length - q.length), t)
      | none => none
def apkP (l : List UInt8) : Option (List Pc × List UInt8 × List UInt8) :=
  match numsP 7 l [] with
  | none => none
  | some (a, r) => apkEnd l (wordsP (signP r a).2 (signP r a).1)
end Go.Proofs.YtdnncbhbajciaaaDoor

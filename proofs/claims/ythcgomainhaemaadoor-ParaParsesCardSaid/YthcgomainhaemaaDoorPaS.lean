/- Paragraphs, in plain words: what is wrong with them, how they are written, what a text is. -/
import Derived.Test.YthcgomainhaemaaDoorOrd
import Derived.Lib.Join
import Derived.Test.YthcgomainhaemaaDoorCut
import Derived.Lib.TrimByte
namespace Go.Proofs.YthcgomainhaemaaDoor
abbrev Fd := List UInt8 × List UInt8
/-- The parts between the bytes b. -/
def splitP (b : UInt8) : List UInt8 → List UInt8 → List (List UInt8)
  | [], a => [a]
  | c :: t, a => if c = b then a :: splitP b t [] else splitP b t (a ++ [c])
def splitB (b : UInt8) (l : List UInt8) : List (List UInt8) := splitP b l []
def blk (c : UInt8) : Bool := decide (c = 32)
def blankL (l : List UInt8) : Bool := l.all blk
def trimL (l : List UInt8) : List UInt8 := l.dropWhile blk
def trimR (l : List UInt8) : List UInt8 := (l.reverse.dropWhile blk).reverse
def bareL (l : List UInt8) : List UInt8 := trimR (trimL l)
def ctlB (l : List UInt8) : Bool := l.any fun c => decide (c = 0) || decide (c = 13)
def nmC (c : UInt8) : Bool := isLet c || decide (c = 45) || isDig c
/-- Is that a field's name? -/
def nmOk (l : List UInt8) : Bool := match l with
  | [] => false
  | c :: t => decide ((c :: t).length ≤ 32) && isLet c && t.all nmC
/-- Has a line blanks at an end? -/
def bareB (l : List UInt8) : Bool := !decide (l.head? = some 32) && !decide (l.getLast? = some 32)
def linesOk : List (List UInt8) → Bool
  | [] => true
  | a :: t => bareB a && t.all (fun x => !blankL x)
def valOk (v : List UInt8) : Bool := !ctlB v && linesOk (splitB 10 v)
def fdErr (names : List (List UInt8)) (f : Fd) : Int := if nmOk f.1 = true then (if valOk f.2 = true then (if names.contains f.1 = true then 8 else 0) else 3) else 10
def pgErr (names : List (List UInt8)) : List Fd → Int
  | [] => 0
  | f :: t => if fdErr names f = 0 then pgErr (names ++ [f.1]) t else fdErr names f
def paErr : List (List Fd) → Int
  | [] => 0
  | p :: t => if p = [] then 2 else if pgErr [] p = 0 then paErr t else pgErr [] p
/-- What is wrong with paragraphs. -/
def chkP (l : List (List Fd)) : Int := if 4096 < l.length then 4 else paErr l
def nlT (v : List UInt8) : List UInt8 := v.flatMap fun c => if c = 10 then [10, 32] else [c]
def gapT (v : List UInt8) : List UInt8 := match v with
  | [] => []
  | c :: _ => if c = 10 then [] else [32]
def fdT (f : Fd) : List UInt8 := f.1 ++ (58 :: (gapT f.2 ++ (nlT f.2 ++ [10])))
def pgT (p : List Fd) : List UInt8 := p.flatMap fdT
/-- Paragraphs as they are written. -/
def parasT (l : List (List Fd)) : List UInt8 := Lib.join (l.map pgT) [10]
def printP (l : List (List Fd)) : List UInt8 × Int := if chkP l = 0 then (parasT l, 0) else ([], chkP l)
/-- The paragraphs that are done, and the one that has begun. -/
structure PSt where
  all : List (List Fd)
  cur : List Fd
def addL (cur : List Fd) (x : List UInt8) : List Fd := match cur.getLast? with
  | some f => cur.dropLast ++ [(f.1, f.2 ++ (10 :: x))]
  | none => []
def endP (s : PSt) : List (List Fd) := if s.cur = [] then s.all else s.all ++ [s.cur]
def preC58 (l : List UInt8) : List UInt8 := l.takeWhile fun c => !decide (c = 58)
def hasName (p : List Fd) (n : List UInt8) : Bool := p.any fun f => decide (f.1 = n)
/-- A line that begins a field. -/
def fieldP (s : PSt) (l : List UInt8) : PSt × Int :=
  if l.contains 58 = true then
    (if nmOk (trimR (preC58 l)) = true then
      (if hasName s.cur (trimR (preC58 l)) = true then (s, 8)
      else if s.cur = [] ∧ s.all.length = 4096 then (s, 4)
      else (⟨s.all, s.cur ++ [(trimR (preC58 l), bareL (l.drop ((preC58 l).length + 1)))]⟩, 0))
    else (s, 10))
  else (s, 3)
/-- One line. -/
def lineP (s : PSt) (l : List UInt8) : PSt × Int :=
  if ctlB l = true then (s, 3)
  else if blankL l = true then (⟨endP s, []⟩, 0)
  else if l.head? = some 32 then (if s.cur = [] then (s, 15) else (⟨s.all, addL s.cur l.tail⟩, 0))
  else fieldP s l
def lineOf (r : List UInt8) : List UInt8 := r.takeWhile fun c => !decide (c = 10)
/-- What is left of a text. -/
def goP (r : List UInt8) (at_ : Int) (s : PSt) : List (List Fd) × Int × Int :=
  if h : r = [] then (endP s, 0, 0)
  else if (lineP s (lineOf r)).2 = 0 then goP (r.drop ((lineOf r).length + 1)) (at_ + (lineOf r).length + 1) (lineP s (lineOf r)).1
  else ([], at_, (lineP s (lineOf r)).2)
termination_by r.length
decreasing_by
  rw [List.length_drop]
  have : 0 < r.length := List.length_pos_iff.2 h
  omega
/-- A text's paragraphs, or the fault. -/
def parseP (s : List UInt8) : List (List Fd) × Int × Int := goP s 0 ⟨[], []⟩
end Go.Proofs.YthcgomainhaemaaDoor

/- Cores of versions, in plain words: their texts, what is wrong with them, what core a text is. -/
import Derived.Test.YtdfpdmddiapnmaaDoorVerH
import Derived.Test.YtdfpdmddiapnmaaDoorCodS6
import Derived.Lib.Join
namespace Go.Proofs.YtdfpdmddiapnmaaDoor
/-- A core. -/
structure Co where
  epoch : Int
  nums : List Int
  letter : List UInt8
  pre : List UInt8
  preNum : Int
  rev : Int
def co0 : Co := ⟨0, [], [], [], 0, 0⟩
def presL : List (List UInt8) := [[97, 108, 112, 104, 97], [98, 101, 116, 97], [112, 114, 101], [114, 99]]
def decI (n : Int) : List UInt8 := if n < 0 then [] else Lib.decDigits n.toNat
def numsT (l : List Int) : List UInt8 := Lib.join (l.map decI) [46]
def sgnB (f : Int) : UInt8 := if f = 3 then 95 else 126
def dashF (f : Int) : List UInt8 := if f = 3 then [45, 114] else [45]
def epT (f : Int) (c : Co) : List UInt8 := if f ≠ 3 ∧ c.epoch ≠ 0 then decI c.epoch ++ [58] else []
def preT (f : Int) (c : Co) : List UInt8 := if c.pre = [] then [] else sgnB f :: (c.pre ++ decI c.preNum)
def propT (f : Int) (c : Co) : List UInt8 := numsT c.nums ++ (c.letter ++ preT f c)
/-- A core's text in a format; of Apk without the epoch. -/
def textC (f : Int) (c : Co) : List UInt8 := epT f c ++ (propT f c ++ (dashF f ++ decI c.rev))
def numOk (n : Int) : Bool := decide (0 ≤ n) && decide (n ≤ 999999999)
def letOk (l : List UInt8) : Bool := match l with
  | [] => true
  | [c] => isSmall c
  | _ => false
def preOk (c : Co) : Bool := if c.pre = [] then decide (c.preNum = 0) else presL.contains c.pre
def coOk (c : Co) : Bool := !c.nums.isEmpty && (numOk c.epoch && numOk c.preNum && numOk c.rev && c.nums.all numOk) && letOk c.letter && preOk c && decide ((textC 1 c).length ≤ 64)
/-- What is wrong with a core. -/
def chkC (c : Co) : Int := if coOk c = true then 0 else 11
def fmtOk (f : Int) : Bool := decide (f = 1) || decide (f = 2) || decide (f = 3)
def fits (f : Int) (c : Co) : Bool := coOk c && !(decide (f = 3) && (decide (c.epoch ≠ 0) || decide (64 < (textC f c).length)))
/-- A core as it is written in a format, or nothing; and the error. -/
def prC (f : Int) (c : Co) : List UInt8 × Int := if fmtOk f = true then (if fits f c = true then (textC f c, 0) else ([], 11)) else ([], 9)
/-- The parts between dots. -/
def dotsP : List UInt8 → List UInt8 → List (List UInt8)
  | [], a => [a]
  | c :: t, a => if c = 46 then a :: dotsP t [] else dotsP t (a ++ [c])
def dots (l : List UInt8) : List (List UInt8) := dotsP l []
def preC (t : List UInt8) : List UInt8 × Int := presL.foldl (fun a w => if w.isPrefixOf t = true then (w, udN (t.drop w.length)) else a) ([], 0)
def lastSmall (h : List UInt8) : Bool := match h.getLast? with
  | some c => isSmall c
  | none => false
def bodyH (h : List UInt8) : List UInt8 := if lastSmall h = true then h.take (h.length - 1) else h
def letH (h : List UInt8) : List UInt8 := if lastSmall h = true then h.drop (h.length - 1) else []
def candP (f : Int) (e p r : List UInt8) : Co :=
  ⟨if e = [] then 0 else udN e, (dots (bodyH (cutA p (sgnB f)))).map udN, letH (cutA p (sgnB f)), (preC (cutB p (sgnB f))).1, (preC (cutB p (sgnB f))).2, udN r⟩
def candC (f : Int) (s : List UInt8) : Co := candP f (vPart f s).1 (vPart f s).2.1 (vPart f s).2.2
/-- The core whose text that is, or none; and the error. -/
def paC (f : Int) (s : List UInt8) : Co × Int := if vErr f s = 0 then (if prC f (candC f s) = (s, 0) then (candC f s, 0) else (co0, 11)) else (co0, vErr f s)
def trC (a b : Int) (s : List UInt8) : List UInt8 × Int := if fmtOk a = true ∧ fmtOk b = true then (if (paC a s).2 = 0 then prC b (paC a s).1 else ([], (paC a s).2)) else ([], 9)
def rankC (p : List UInt8) : Int := wordFrom p presL 0
def preRank (p : List UInt8) : Int := if rankC p < 0 then 4 else rankC p
def cmpNums : List Int → List Int → Int
  | [], [] => 0
  | [], _ :: _ => -1
  | _ :: _, [] => 1
  | a :: l, b :: m => if cmpI a b = 0 then cmpNums l m else cmpI a b
end Go.Proofs.YtdfpdmddiapnmaaDoor

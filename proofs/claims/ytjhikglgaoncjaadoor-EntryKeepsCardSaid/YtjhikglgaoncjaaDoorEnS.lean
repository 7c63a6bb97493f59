/- Entries of archives, in plain words: paths, what is wrong with an entry, what is wrong with a list of them. -/
import Derived.Test.YtjhikglgaoncjaaDoorSpl
namespace Go.Proofs.YtjhikglgaoncjaaDoor
/-- An entry. -/
structure En where
  path : List UInt8
  kind : Int
  mode : Int
  uid : Int
  gid : Int
  owner : List UInt8
  group : List UInt8
  mtime : Int
  link : List UInt8
  data : List UInt8
def partOk (p : List UInt8) : Bool := !(decide (p = []) || (decide (p = [46]) || decide (p = [46, 46])))
def pathOk (s : List UInt8) : Bool := !decide (s.length < 1) && (!decide (200 < s.length) && (!s.contains 0 && (partsB 47 s).all partOk))
def ownOk (s : List UInt8) : Bool := decide (s.length ≤ 31) && !s.any fun c => decide (c = 0) || (decide (c = 10) || decide (c = 58))
def tgtOk (s : List UInt8) : Bool := decide (1 ≤ s.length) && (decide (s.length ≤ 200) && !s.any fun c => decide (c = 0) || decide (c = 10))
def numBad (e : En) : Bool := decide (e.mode < 0) || (decide (4095 < e.mode) || (decide (e.uid < 0) || (decide (2097151 < e.uid) || (decide (e.gid < 0) || (decide (2097151 < e.gid) || (decide (e.mtime < 0) || decide (8589934591 < e.mtime)))))))
/-- What is wrong with an entry. -/
def chkE (e : En) : Int :=
  if pathOk e.path = false then 10
  else if e.kind < 1 ∨ 4 < e.kind then 9
  else if numBad e = true then 1
  else if ownOk e.owner = false ∨ ownOk e.group = false then 10
  else if e.kind = 3 ∧ tgtOk e.link = false then 10
  else if e.kind = 4 ∧ (pathOk e.link = false ∨ e.link = e.path) then 10
  else if e.kind ≠ 3 ∧ e.kind ≠ 4 ∧ e.link ≠ [] then 1
  else if e.kind ≠ 1 ∧ e.data ≠ [] then 1
  else if 1048576 < e.data.length then 4
  else 0
/-- The paths that stand above one; acc is what stands ahead. -/
def upP : List UInt8 → List UInt8 → List (List UInt8)
  | _, [] => []
  | acc, c :: t => if c = 47 then acc :: upP (acc ++ [c]) t else upP (acc ++ [c]) t
def upsL (s : List UInt8) : List (List UInt8) := upP [] s
def alikeE (a b : En) : Bool := decide (a.mode = b.mode) && (decide (a.uid = b.uid) && (decide (a.gid = b.gid) && (decide (a.owner = b.owner) && (decide (a.group = b.group) && decide (a.mtime = b.mtime)))))
def hasE (l : List En) (p : List UInt8) : Bool := l.any fun x => decide (x.path = p)
def findE (l : List En) (p : List UInt8) : Option En := l.find? fun x => decide (x.path = p)
/-- What is wrong with a hard link behind those entries. -/
def linkE (a : List En) (e : En) : Int := match findE a e.link with
  | none => 15
  | some x => if x.kind = 1 then (if alikeE e x = true then 0 else 1) else 15
/-- Does it stand under what is no directory, or above one of them and is none? -/
def nestE (a : List En) (e : En) : Bool := a.any fun x => ((upsL e.path).contains x.path && !decide (x.kind = 2)) || ((upsL x.path).contains e.path && !decide (e.kind = 2))
/-- What is wrong with an entry behind those that are right. -/
def badE (a : List En) (e : En) : Int :=
  if chkE e = 0 then
    (if hasE a e.path = true then 8
    else if e.kind = 4 ∧ linkE a e ≠ 0 then linkE a e
    else if nestE a e = true then 9 else 0)
  else chkE e
def goE : List En → List En → Int × Int
  | _, [] => (0, 0)
  | a, e :: t => if badE a e = 0 then goE (a ++ [e]) t else ((a.length : Int), badE a e)
/-- Where a list isn't right, and why. -/
def chkL (l : List En) : Int × Int := if 4096 < l.length then (4096, 4) else goE [] l
end Go.Proofs.YtjhikglgaoncjaaDoor

/- What the functions of package pretty compute, as plain Lean functions: no program in sight. -/
import Derived.Lib.RuneCount
import Derived.Lib.LastIndexByte
import Derived.Lib.IndexMore
import Derived.Lib.ValidU
import Derived.Lib.Bytealg
import Derived.Lib.Repeat
namespace Go.Proofs.YtljgpcaljedhpaaDoor

/-- An operation. -/
structure Op where
  kind : Int
  text : ByteArray
  n : Int
  m : Int
  flag : Bool

/-- The column behind a text that begins in a column. -/
def colP (at_ : Int) (s : ByteArray) : Int :=
  if 0 ≤ Lib.lastIndexByte s 10 then (Lib.runeCount (s.extract (Lib.lastIndexByte s 10 + 1).toNat s.size) : Int) else at_ + (Lib.runeCount s : Int)

/-- So many spaces. -/
def spB (k : Nat) : ByteArray := ⟨(Lib.repeatL [32] k).toArray⟩

/-- How many spaces a Tab makes. -/
def spacesP (x : Op) (at_ : Int) : Int :=
  if x.flag = true then (if x.m = 0 then x.n else if (at_ + x.n) % x.m = 0 then x.n else x.n + x.m - (at_ + x.n) % x.m)
  else if at_ < x.n then x.n - at_ else if x.m = 0 then 0 else x.m - (at_ - x.n) % x.m

/-- The text of an operation that breaks no line. -/
def writtenP (x : Op) (at_ : Int) : ByteArray :=
  if x.kind = 0 then x.text else if x.kind = 2 then x.text else if x.kind = 3 then x.text else if x.kind = 5 then spB (spacesP x at_).toNat else ⟨#[]⟩

/-- Does a text hold a line feed? -/
def nlB (s : ByteArray) : Bool := Lib.contains s.data.toList [10]

def wholeP (w : Int) : List Op → Int → Bool
  | [], c => decide (c ≤ w)
  | x :: r, c => if x.kind = 1 ∧ x.n = 3 then false else if nlB x.text = true ∧ x.kind = 0 then false else wholeP w r (colP c (writtenP x c))

def fitsP (w : Int) : List Op → Int → Int → Bool
  | [], _, c => decide (c ≤ w)
  | x :: r, d, c =>
    if x.kind = 1 then (if d = 0 then decide (c ≤ w) else if x.n = 3 then false else fitsP w r d (colP c (writtenP x c)))
    else if x.kind = 2 then fitsP w r (d + 1) (colP c (writtenP x c))
    else if x.kind = 3 then fitsP w r (max (d - 1) 0) (colP c (writtenP x c))
    else if x.kind = 0 then (if nlB x.text = true then false else fitsP w r d (colP c (writtenP x c)))
    else fitsP w r d (colP c (writtenP x c))

/-- A block that is open. -/
structure Bk where
  start : Int
  indent : Int
  front : Int
  pre : ByteArray
  long : Bool
  miser : Bool
  each : Bool
  lines : Int
  slong : Bool

/-- A text that is made. -/
structure St where
  out : List UInt8
  at_ : Int
  lines : Int
  blocks : List Bk

def putRaw (s : St) (t : ByteArray) : St := { s with out := s.out ++ t.data.toList, at_ := colP s.at_ t, lines := s.lines + (Lib.countByte t.data.toList 10 : Int) }
/-- put: none where it panics. -/
def putP (s : St) (t : ByteArray) : Option St := if (putRaw s t).out.length ≤ 100000 then some (putRaw s t) else none

/-- Without the spaces at the end. -/
def trimR : List UInt8 → List UInt8 := fun l => (l.reverse.dropWhile (· == 32)).reverse

def prefixesP : List Bk → St → Option St
  | [], s => some s
  | b :: r, s => if b.each = true then (putP s (spB (max (b.front - s.at_) 0).toNat ++ b.pre)).bind (prefixesP r) else prefixesP r s

def brokenP (top : Bk) (s : St) : Option St :=
  (putP { s with out := trimR s.out } ⟨#[10]⟩).bind fun s1 => (prefixesP s1.blocks s1).bind fun s2 => putP s2 (spB (max (top.indent - s2.at_) 0).toNat)

def breaksP (w : Int) (s : St) (top : Bk) (x : Op) (rest : List Op) : Bool :=
  if x.n = 3 then true else if x.n = 0 then top.long else if x.n = 2 then (top.long && top.miser)
  else (!fitsP w rest 0 s.at_) || (top.lines != s.lines) || (top.long && top.miser)

def setTop (l : List Bk) (b : Bk) : List Bk := l.dropLast ++ [b]

def topOf (s : St) : Bk := s.blocks.getLastD ⟨0, 0, 0, ⟨#[]⟩, false, false, false, 0, false⟩

/-- One operation; rest: the operations behind it. -/
def stepP (w mi : Int) (s : St) (x : Op) (rest : List Op) : Option St :=
  if x.kind = 0 ∨ x.kind = 5 then putP s (writtenP x s.at_)
  else if x.kind = 2 then
    (putP s x.text).bind fun s1 =>
      some { s1 with blocks := s1.blocks ++ [{ start := s1.at_, indent := s1.at_, front := s.at_, pre := if x.flag = true then x.text else ⟨#[]⟩, long := (topOf s).slong, miser := decide (w - s1.at_ ≤ mi), each := x.flag, lines := s1.lines, slong := !fitsP w rest 0 s1.at_ }] }
  else if x.kind = 3 then (putP s x.text).bind fun s1 => some { s1 with blocks := s1.blocks.dropLast }
  else if x.kind = 4 then
    if (topOf s).miser = true then some s
    else some { s with blocks := setTop s.blocks { topOf s with indent := max (if x.flag = true then s.at_ + x.n else (topOf s).start + x.n) 0 } }
  else
    ((if breaksP w s (topOf s) x rest = true then brokenP (topOf s) s else some s)).bind fun s1 =>
      some { s1 with blocks := setTop s1.blocks { topOf s with lines := s1.lines, slong := !fitsP w rest 0 s1.at_ } }

def stepsP (w mi : Int) : List Op → St → Option St
  | [], s => some s
  | x :: r, s => (stepP w mi s x r).bind (stepsP w mi r)

def checkOne (x : Op) : Int :=
  if x.kind < 0 ∨ x.kind > 5 ∨ (x.kind = 1 ∧ (x.n < 0 ∨ x.n > 3)) ∨ (x.kind = 4 ∧ (x.n < -100 ∨ x.n > 100)) ∨ (x.kind = 5 ∧ (x.n < 0 ∨ x.n > 100 ∨ x.m < 0 ∨ x.m > 100)) then 1
  else if Lib.validD x.text.data.toList = false then 2 else if (x.kind = 2 ∨ x.kind = 3) ∧ nlB x.text = true then 2 else 0

def checkGo : List Op → Int → Int
  | [], d => if d > 0 then 110 else 0
  | x :: r, d =>
    if checkOne x ≠ 0 then checkOne x
    else if (if x.kind = 2 then d + 1 else if x.kind = 3 then d - 1 else d) < 0 ∨ (if x.kind = 2 then d + 1 else if x.kind = 3 then d - 1 else d) > 100 then 110
    else checkGo r (if x.kind = 2 then d + 1 else if x.kind = 3 then d - 1 else d)

def bytesSum (l : List Op) : Nat := (l.map (·.text.size)).sum

def checkP (l : List Op) : Int := if l.length > 4000 ∨ bytesSum l > 20000 then 4 else checkGo l 0

def firstBk (l : List Op) (w mi : Int) : Bk := { start := 0, indent := 0, front := 0, pre := ⟨#[]⟩, long := !wholeP w l 0, miser := decide (w ≤ mi), each := false, lines := 0, slong := !fitsP w l 0 0 }

def renderP (l : List Op) (w mi : Int) : ByteArray × Int :=
  if checkP l ≠ 0 then (⟨#[]⟩, checkP l)
  else if w < 1 ∨ w > 200 ∨ mi < 0 ∨ mi > 200 then (⟨#[]⟩, 1)
  else match stepsP w mi l { out := [], at_ := 0, lines := 0, blocks := [firstBk l w mi] } with
    | none => (⟨#[]⟩, 14)
    | some s => (⟨s.out.toArray⟩, 0)

def flatGo : List Op → List UInt8 → Int → Option (List UInt8)
  | [], out, _ => some out
  | x :: r, out, c => if (out ++ (writtenP x c).data.toList).length > 100000 then none else flatGo r (out ++ (writtenP x c).data.toList) (colP c (writtenP x c))

def flatP (l : List Op) : ByteArray × Int :=
  if checkP l ≠ 0 then (⟨#[]⟩, checkP l) else match flatGo l [] 0 with
    | none => (⟨#[]⟩, 14)
    | some o => (⟨o.toArray⟩, 0)

end Go.Proofs.YtljgpcaljedhpaaDoor

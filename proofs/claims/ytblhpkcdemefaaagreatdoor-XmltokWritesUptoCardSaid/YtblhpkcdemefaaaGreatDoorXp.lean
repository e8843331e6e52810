/- Plain words: names, and the tokens of bytes (chapter 4), as the program goes. No program stands here. -/
import Derived.Test.YtblhpkcdemefaaaGreatDoorTellp
import Derived.Lib.SlTrimSet
set_option linter.unusedVariables false
set_option linter.unusedSimpArgs false
namespace Go.Proofs.YtblhpkcdemefaaaGreatDoor

def letterB (c : Int) : Bool := decide ((97 ≤ c ∧ c ≤ 122) ∨ (65 ≤ c ∧ c ≤ 90) ∨ c = 95)
/-- May a character be a word's first one; another one of a word; of a name? -/
def firstB (c : Int) : Bool := letterB c || (decide (192 ≤ c ∧ c ≠ 215 ∧ c ≠ 247) && fineB c)
def nextB (c : Int) : Bool := firstB c || decide (48 ≤ c ∧ c ≤ 57)
def partB (c : Int) : Bool := nextB c || decide (c = 45 ∨ c = 46 ∨ c = 183)

/-- Characters that may be one behind another in a name, the first one of its own kind. -/
def madeGo (p q : Int → Bool) : Nat → List UInt8 → Bool → Bool
  | 0, _, _ => true
  | f + 1, l, b => if l = [] then true else match rune1 l with
    | none => false
    | some (c, n) => (if b = true then p c else q c) && madeGo p q f (l.drop n) false
def madeL (p q : Int → Bool) (l : List UInt8) : Bool := madeGo p q l.length l true && !l.isEmpty
def plainL (l : List UInt8) : Bool := madeL firstB partB l
/-- Is a text a name, with a prefix or without? -/
def splitB (l : List UInt8) : Bool := if (cutB 58 l).2.2 = true then plainL (cutB 58 l).1 && plainL (cutB 58 l).2.1 else plainL l
def splitR (l : List UInt8) : List UInt8 × List UInt8 := if splitB l = false then ([], []) else if (cutB 58 l).2.2 = true then ((cutB 58 l).1, (cutB 58 l).2.1) else ([], l)

/-- May a character be in what looks like a name? -/
def nameB (c : Int) : Bool := decide (c = 58) || partB c
/-- How many bytes of a text's head look like a name. -/
def nmGo : Nat → List UInt8 → Nat
  | 0, _ => 0
  | f + 1, l => if l = [] then 0 else if nameB (Lib.decodeL l).1 = true then (Lib.decodeL l).2 + nmGo f (l.drop (Lib.decodeL l).2) else 0
def nmLen (l : List UInt8) : Nat := nmGo l.length l
/-- The name at a text's head; none: the empty text. -/
def nameL (l : List UInt8) : List UInt8 :=
  if l.take (nmLen l) = [] then [] else if (((Lib.decodeL (l.take (nmLen l))).1 : Nat) : Int) = 58 ∨ firstB (Lib.decodeL (l.take (nmLen l))).1 = true then l.take (nmLen l) else []

/-- An attribute: its name, its value, its place. -/
structure PrA where
  name : List UInt8
  value : List UInt8
  at_ : Nat
  deriving DecidableEq
/-- A token: its kind, its place, its name or text, its attributes. -/
structure Tk where
  kind : Nat
  at_ : Nat
  s : List UInt8
  attrs : List PrA
  deriving DecidableEq
/-- Where one is in a text, what is wrong first and where, the tokens. -/
structure St where
  i : Nat
  bat : Nat
  be : Nat
  out : List Tk
  deriving DecidableEq

def blanksL : List UInt8 := [32, 9, 13, 10]
def xFail (st : St) (a e : Nat) : St := if st.be = 0 then ⟨st.i, a, e, st.out⟩ else st
def xTake (s : List UInt8) (st : St) (t : List UInt8) : Bool := decide (st.be = 0) && Lib.hasPrefix (s.drop st.i) t
def xMove (st : St) (n : Nat) : St := ⟨st.i + n, st.bat, st.be, st.out⟩
def xMiss (s : List UInt8) (st : St) : St := if s.drop st.i = [] then xFail st s.length 10 else xFail st st.i 5
def xNeed (s : List UInt8) (st : St) (t : List UInt8) : St := if xTake s st t = true then xMove st t.length else xMiss s st
def blankN (l : List UInt8) : Nat := l.length - (Lib.trimLeftS l blanksL).length
def xUntil (s : List UInt8) (st : St) (t : List UInt8) : St × List UInt8 :=
  if (Lib.cut (s.drop st.i) t).2.2 = true then (xMove st ((Lib.cut (s.drop st.i) t).1.length + t.length), (Lib.cut (s.drop st.i) t).1) else (xFail st s.length 10, [])

def xName (s : List UInt8) (st : St) : St × List UInt8 :=
  if st.be ≠ 0 then (st, [])
  else if nameL (s.drop st.i) = [] then (xMiss s st, [])
  else (xMove (if splitB (nameL (s.drop st.i)) = true then st else xFail st st.i 6) (nameL (s.drop st.i)).length, nameL (s.drop st.i))

/-- A value behind its quote. -/
def xValueIn (s : List UInt8) (st : St) (q : UInt8) : St × List UInt8 :=
  ((xUntil s (if (tellL true (cutB q (s.drop st.i)).1).2.2 = 0 then st else xFail st (st.i + (tellL true (cutB q (s.drop st.i)).1).2.1) (tellL true (cutB q (s.drop st.i)).1).2.2) [q]).1, (tellL true (cutB q (s.drop st.i)).1).1)

def xValue (s : List UInt8) (st : St) : St × List UInt8 :=
  if st.be ≠ 0 then (st, [])
  else if Lib.hasPrefix (s.drop st.i) [34] = true then xValueIn s (xMove st 1) 34
  else if Lib.hasPrefix (s.drop st.i) [39] = true then xValueIn s (xMove st 1) 39
  else (xMiss s st, [])

def xBlank (s : List UInt8) (st : St) : St := xMove st (blankN (s.drop st.i))

/-- The second half of an attribute. -/
def xAttrB (s : List UInt8) (st : St) : St × List UInt8 := xValue s (xBlank s (xNeed s (xBlank s st) [61]))
def xTwice (st : St) (a : Nat) (nm : List UInt8) (l : List PrA) : St := if decide (st.be = 0) && l.any (fun q => q.name == nm) then xFail st a 8 else st
def xAttr (s : List UInt8) (st : St) (l : List PrA) : St × PrA :=
  ((xAttrB s (xTwice (xName s st).1 st.i (xName s st).2 l)).1, ⟨(xName s st).2, (xAttrB s (xTwice (xName s st).1 st.i (xName s st).2 l)).2, st.i⟩)

/-- The attributes of a tag that opens. -/
def xAttrs (s : List UInt8) : Nat → St → List PrA → St × List PrA
  | 0, st, l => (st, l)
  | f + 1, st, l =>
    if st.be ≠ 0 then (st, l)
    else if Lib.hasPrefix (s.drop (xBlank s st).i) [62] = true ∨ Lib.hasPrefix (s.drop (xBlank s st).i) [47] = true then (xBlank s st, l)
    else if blankN (s.drop st.i) = 0 then (xMiss s (xBlank s st), l)
    else xAttrs s f (xAttr s (xBlank s st) l).1 (l ++ [(xAttr s (xBlank s st) l).2])

def xPush (st : St) (t : Tk) : St := ⟨st.i, st.bat, st.be, st.out ++ [t]⟩

/-- A tag's end. -/
def xOpenB (s : List UInt8) (st : St) (a : Nat) (nm : List UInt8) (l : List PrA) : St :=
  if xTake s st [47] = true then xPush (xNeed s (xMove st 1) [62]) ⟨2, a, nm, l⟩ else xPush (xNeed s st [62]) ⟨0, a, nm, l⟩
def xOpen (s : List UInt8) (st : St) (a : Nat) : St :=
  xOpenB s (xAttrs s (s.length + 1) (xName s st).1 []).1 a (xName s st).2 (xAttrs s (s.length + 1) (xName s st).1 []).2

/-- What is wrong with a text's bytes, and where. -/
def textE (raw : List UInt8) : Nat × Nat :=
  if 0 ≤ Lib.index raw [93, 93, 62] ∧ ((tellL false raw).2.2 = 0 ∨ Lib.index raw [93, 93, 62] < ((tellL false raw).2.1 : Int)) then ((Lib.index raw [93, 93, 62]).toNat, 5) else (tellL false raw).2
def xText (s : List UInt8) (st : St) (a : Nat) : St :=
  xPush (xMove (if (textE (cutB 60 (s.drop st.i)).1).2 = 0 then st else xFail st (a + (textE (cutB 60 (s.drop st.i)).1).1) (textE (cutB 60 (s.drop st.i)).1).2) (cutB 60 (s.drop st.i)).1.length) ⟨3, a, (tellL false (cutB 60 (s.drop st.i)).1).1, []⟩

/-- Ends of lines. -/
def linesL : List UInt8 → List UInt8
  | [] => []
  | 13 :: 10 :: r => 10 :: linesL r
  | 13 :: r => 10 :: linesL r
  | x :: r => x :: linesL r

def isDecl (s : List UInt8) (st : St) : Bool :=
  Lib.hasPrefix (s.drop st.i) [60, 63, 120, 109, 108] && (decide (st.i = 0) && !(Lib.trimLeftS (s.drop (st.i + 5)) blanksL == s.drop (st.i + 5)))

/-- Behind a comment's text. -/
def xComm (s : List UInt8) (st : St) : St :=
  if st.be ≠ 0 then st
  else if xTake s st [62] = true then xMove st 1
  else if s.drop st.i = [] then xFail (xMiss s st) (st.i - 2) 5 else xFail st (st.i - 2) 5
def xData (st : St) (a : Nat) (t : List UInt8) : St := if t = [] then st else xPush st ⟨3, a, t, []⟩
def xClose (s : List UInt8) (st : St) (a : Nat) : St :=
  xPush (xNeed s (xBlank s (xName s st).1) [62]) ⟨1, a, (xName s st).2, []⟩

def xOne (s : List UInt8) (st : St) : St :=
  if isDecl s st = true then (xUntil s st [63, 62]).1
  else if xTake s st [60, 33, 45, 45] = true then xComm s (xUntil s (xMove st 4) [45, 45]).1
  else if xTake s st [60, 33, 91, 67, 68, 65, 84, 65, 91] = true then xData (xUntil s (xMove st 9) [93, 93, 62]).1 st.i (linesL (xUntil s (xMove st 9) [93, 93, 62]).2)
  else if Lib.hasPrefix (s.drop st.i) [60, 33] = true ∨ Lib.hasPrefix (s.drop st.i) [60, 63] = true then xFail st st.i 5
  else if xTake s st [60, 47] = true then xClose s (xMove st 2) st.i
  else if xTake s st [60] = true then xOpen s (xMove st 1) st.i
  else xText s st st.i

def xLoop (s : List UInt8) : Nat → St → St
  | 0, st => st
  | f + 1, st => if st.be ≠ 0 ∨ s.drop st.i = [] then st else xLoop s f (xOne s st)
def xAll (s : List UInt8) : St := xLoop s (s.length + 1) ⟨0, 0, 0, []⟩

/-- The tokens, the place, the error. -/
def tokL (s : List UInt8) : List Tk × Nat × Nat :=
  if 16777216 < s.length then ([], 0, 19)
  else if (checkL s).2 = false then ([], (checkL s).1, 4)
  else if (xAll s).be ≠ 0 then ([], (xAll s).bat, (xAll s).be)
  else ((xAll s).out, s.length, 0)

theorem live_1 : tokL [60, 97, 32, 98, 61, 39, 49, 39, 62, 120, 38, 108, 116, 59, 60, 47, 97, 62] = ([⟨0, 0, [97], [⟨[98], [49], 3⟩]⟩, ⟨3, 9, [120, 60], []⟩, ⟨1, 14, [97], []⟩], 18, 0) := by decide +kernel
theorem live_2 : tokL [60, 97, 32, 98, 61, 34, 49, 34, 32, 98, 61, 34, 50, 34, 47, 62] = ([], 9, 8) := by decide +kernel
theorem live_3 : tokL [60, 33, 68, 79, 67, 84, 89, 80, 69, 32, 97, 62] = ([], 0, 5) := by decide +kernel
end Go.Proofs.YtblhpkcdemefaaaGreatDoor

/- The plain printer of expressions. No program in sight. (Begun: for RegexPrints.) -/
import Derived.Test.YtaefhfldgemcnaaP6
namespace Go.Proofs.Ytaefhfldgemcnaa

def wSign (c : UInt8) (esc : List UInt8) : List UInt8 := if esc.contains c then [92, c] else [c]
/-- The runs of a set from i on, as a class writes them. -/
def wRuns (m : List Bool) : Nat → Nat → List UInt8
  | 0, _ => []
  | f + 1, i =>
    if i < 95 then
      (if m.getD i false then
        wSign (UInt8.ofNat (32 + i)) spC ++ (if i < runEnd m i then 45 :: wSign (UInt8.ofNat (32 + runEnd m i)) spC else []) ++ wRuns m f (runEnd m i + 1)
      else wRuns m f (i + 1))
    else []
/-- The first sign of a set. -/
def firstOf (m : List Bool) : Nat := m.findIdx id
def wSet (m : List Bool) : List UInt8 :=
  if m = noneM then [91, 94, 32, 45, 126, 93]
  else if m = everyM then [46]
  else if m = singleM (32 + firstOf m) then wSign (UInt8.ofNat (32 + firstOf m)) spA
  else 91 :: (wRuns m 95 0 ++ [93])

/-- Places: 0 a whole expression, 1 in a branch, 2 an atom. -/
def inBr (l : List UInt8) : List UInt8 := 40 :: (l ++ [41])
mutual
def wr : T → Nat → List UInt8
  | .set m, _ => wSet m
  | .rep p op, _ => wr p 2 ++ [op]
  | .seq l, place => if place = 2 then inBr (wrSeq l) else wrSeq l
  | .alt l, place => if place = 0 then wrAlt l else inBr (wrAlt l)
def wrSeq : List T → List UInt8
  | [] => []
  | t :: l => wr t 1 ++ wrSeq l
def wrAlt : List T → List UInt8
  | [] => []
  | [t] => wr t 1
  | t :: l => wr t 1 ++ 124 :: wrAlt l
end
end Go.Proofs.Ytaefhfldgemcnaa

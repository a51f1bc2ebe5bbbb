/- A value's literal, in plain Lean. No program in sight. -/
import Derived.Test.YtokbdleokihdaaaGreatDoorPrintL
import Derived.Test.YtokbdleokihdaaaGreatDoorRightL
namespace Go.Proofs.YtokbdleokihdaaaGreatDoor
open Go.RowKit

/-- A decimal's literal. -/
def decL (i : Int) : List UInt8 := (if i < 0 then [45] else []) ++ (Lib.decDigits (i.natAbs / 10000) ++ (46 :: four (i.natAbs % 10000)))
/-- A value's literal. -/
def printF (d : Dt) : List UInt8 :=
  if rightD d = false then [] else if d.k = 1 then (if d.i = 1 then [84, 82, 85, 69] else [70, 65, 76, 83, 69]) else if d.k = 2 then Lib.itoa d.i else if d.k = 3 then decL d.i
  else if d.k = 4 then 39 :: (quoted d.s.data.toList ++ [39]) else if d.k = 5 then 120 :: 39 :: (hexed d.s.data.toList ++ [39]) else [78, 85, 76, 76]
def bs (l : List UInt8) : ByteArray := ⟨l.toArray⟩
theorem bs_append (a b : List UInt8) : bs a ++ bs b = bs (a ++ b) := by
  apply ByteArray.ext
  rw [ByteArray.data_append]
  simp [bs]
theorem bs_size (a : List UInt8) : (bs a).size = a.length := by simp [bs, ByteArray.size]
theorem ret_str {a b : ByteArray} (h : a = b) : Ending.returned (Value.string a) = .returned (Value.string b) := by rw [h]
end Go.Proofs.YtokbdleokihdaaaGreatDoor

/- Whether a value may be, in plain Lean. No program in sight. -/
import Derived.Test.YtokbdleokihdaaaGreatDoorG01
import Derived.Lib.ValidU
namespace Go.Proofs.YtokbdleokihdaaaGreatDoor

/-- Whether a value that is no TEXT may be. -/
def rightN (k i : Int) (s : ByteArray) : Bool :=
  if k = 0 then i == 0 && s.toList.isEmpty else if k = 1 then (i == 0 || i == 1) && s.toList.isEmpty else if k = 2 ∨ k = 3 then s.toList.isEmpty
  else if k = 5 then i == 0 && decide (s.size ≤ 1000) else false
/-- Whether a value may be. -/
def rightD (d : Dt) : Bool := if d.k = 4 then d.i == 0 && (decide (d.s.size ≤ 1000) && Lib.validD d.s.data.toList) else rightN d.k d.i d.s
end Go.Proofs.YtokbdleokihdaaaGreatDoor

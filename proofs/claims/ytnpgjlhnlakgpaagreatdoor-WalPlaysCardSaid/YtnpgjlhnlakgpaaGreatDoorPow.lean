/- The table of powers of ten. -/
import Derived.Test.YtnpgjlhnlakgpaaGreatDoorKeep
import Derived.Test.YtnpgjlhnlakgpaaGreatDoorShelf
import Derived.Lib.AppendIntMem
import Derived.Lib.ItoaMem
namespace Go.Proofs.YtnpgjlhnlakgpaaGreatDoor
open Go.RowKit

/-- The table of powers of ten is as it is laid. -/
def Pow (w : World) : Prop := Lib.TabIs Tryz.prog w "internal/strconv.uint64pow10" .u64 Lib.pow10Tab
theorem Pow.below {w w' : World} (h : Pow w) (hb : Below w.heap.size w w') : Pow w' := Lib.tabBelow_of_tabIs h w' hb
end Go.Proofs.YtnpgjlhnlakgpaaGreatDoor

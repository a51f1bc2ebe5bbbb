/- The walk of DatumSums: it answers true. -/
import Derived.Test.YtidejjjedpdbeaaDoorSumO
import Derived.Test.YtidejjjedpdbeaaDoorSumZ
import Derived.Test.YtidejjjedpdbeaaDoorSumN
import Derived.Test.YtidejjjedpdbeaaDoorSumP
namespace Go.Proofs.YtidejjjedpdbeaaDoor
open Go.RowKit

theorem sums_walk (ak ai bk bi : Int) (sa sb : ByteArray) (w : World) (hT : Tabs w) (i0 : -9223372036854775808 ≤ ai) (i1 : ai < 9223372036854775808) (j0 : -9223372036854775808 ≤ bi) (j1 : bi < 9223372036854775808) :
    Calls Tryd.prog 6 #[.agg #[.int .i64 ak, .int .i64 ai, .string sa], .agg #[.int .i64 bk, .int .i64 bi, .string sb]] w fun e w' => e = .returned (.bool true) ∧ Below w.heap.size w w' := by
  by_cases h : ak = 2 ∧ bk = 2 ∧ bi ≠ 0 ∧ room (ai.tdiv bi) = true
  · rcases (by omega : ai.tmod bi = 0 ∨ ai.tmod bi < 0 ∨ 0 < ai.tmod bi) with hs | hs | hs
    · exact sums_Z ak ai bk bi sa sb w hT ⟨h.1, h.2.1, h.2.2, hs⟩ i0 i1 j0 j1
    · exact sums_N ak ai bk bi sa sb w hT ⟨h.1, h.2.1, h.2.2, hs⟩ i0 i1 j0 j1
    · exact sums_P ak ai bk bi sa sb w hT ⟨h.1, h.2.1, h.2.2, hs⟩ i0 i1 j0 j1
  · exact sums_O ak ai bk bi sa sb w hT h i0 i1 j0 j1
end Go.Proofs.YtidejjjedpdbeaaDoor

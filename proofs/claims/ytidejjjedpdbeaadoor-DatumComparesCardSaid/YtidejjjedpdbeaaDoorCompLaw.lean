/- The walk of DatumCompares: it answers true. -/
import Derived.Test.YtidejjjedpdbeaaDoorCompN
import Derived.Test.YtidejjjedpdbeaaDoorCompM
import Derived.Test.YtidejjjedpdbeaaDoorCompC
namespace Go.Proofs.YtidejjjedpdbeaaDoor
open Go.RowKit

theorem compares_walk (ak ai bk bi : Int) (sa sb : ByteArray) (w : World) (hT : Tabs w) (i0 : -9223372036854775808 ≤ ai) (i1 : ai ≤ 9223372036854775807) (j0 : -9223372036854775808 ≤ bi) (j1 : bi ≤ 9223372036854775807) :
    Calls Tryd.prog 4 #[.agg #[.int .i64 ak, .int .i64 ai, .string sa], .agg #[.int .i64 bk, .int .i64 bi, .string sb]] w fun e w' => e = .returned (.bool true) ∧ Below w.heap.size w w' := by
  by_cases hN : ak = 0 ∨ bk = 0
  · exact compares_null ak ai bk bi sa sb w hT hN i0 i1 j0 j1
  · have ha : ak ≠ 0 := fun h => hN (.inl h)
    have hb : bk ≠ 0 := fun h => hN (.inr h)
    cases hag : agree ak bk
    · exact compares_none ak ai bk bi sa sb w hT ha hb hag i0 i1 j0 j1
    · exact compares_some ak ai bk bi sa sb w hT ha hb hag i0 i1 j0 j1
end Go.Proofs.YtidejjjedpdbeaaDoor

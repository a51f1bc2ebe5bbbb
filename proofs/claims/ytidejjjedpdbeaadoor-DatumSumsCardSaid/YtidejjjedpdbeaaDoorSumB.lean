/- Which values are numbers. -/
import Derived.Test.YtidejjjedpdbeaaDoorSumT
import Derived.Test.YtidejjjedpdbeaaDoorRefRight
namespace Go.Proofs.YtidejjjedpdbeaaDoor
open Go.RowKit

/-- Is it a number that may be? -/
def numB (k : Int) (s : ByteArray) : Bool := (k == 2 || k == 3) && s.toList.isEmpty
theorem numb_any (k i : Int) (s : ByteArray) (w : World) :
    Calls Tryd.prog 17 #[.agg #[.int .i64 k, .int .i64 i, .string s]] w fun e w' => e = .returned (.bool (numB k s)) ∧ Below w.heap.size w w' := by
  go_enter Tryd.func17, Tryd.ntmps17
  go_wp2_with fail
  all_goals
    go_ret
    refine ⟨?_, (Below.refl _ _).alloc (Nat.le_refl _) _⟩
    simp [numB, *]
theorem numb_of {k : Int} {s : ByteArray} (h : numB k s = true) : (k = 2 ∨ k = 3) ∧ s = ⟨#[]⟩ := by
  unfold numB at h
  simp only [Bool.and_eq_true, Bool.or_eq_true, beq_iff_eq] at h
  exact ⟨h.1, empty_of h.2⟩

end Go.Proofs.YtidejjjedpdbeaaDoor

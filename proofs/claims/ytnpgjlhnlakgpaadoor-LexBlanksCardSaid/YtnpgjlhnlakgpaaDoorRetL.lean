/- Results that are the same. -/
import Derived.WalkKit
namespace Go.Proofs.YtnpgjlhnlakgpaaDoor

theorem ret_int {k : IntKind} {a b : Int} (h : a = b) : Ending.returned (Value.int k a) = .returned (Value.int k b) := by rw [h]
theorem ret_bool {a b : Bool} (h : a = b) : Ending.returned (Value.bool a) = .returned (Value.bool b) := by rw [h]
end Go.Proofs.YtnpgjlhnlakgpaaDoor

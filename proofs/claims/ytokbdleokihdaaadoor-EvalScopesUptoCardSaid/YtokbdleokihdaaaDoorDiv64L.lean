/- Contract of bits.Div64: the quotient and the rest. -/
import Derived.Test.YtokbdleokihdaaaDoorDivMath
import Derived.Test.YtokbdleokihdaaaDoorG01
import Derived.Test.YtokbdleokihdaaaDoorShelf
import Derived.BigQuiet
namespace Go.Proofs.YtokbdleokihdaaaDoor
open Go.RowKit

theorem ret_uu {a b c d : Int} (h : a = b) (h' : c = d) : Ending.returned (Value.tuple #[Value.int .u64 a, .int .u64 c]) = .returned (Value.tuple #[Value.int .u64 b, .int .u64 d]) := by rw [h, h']
set_option maxRecDepth 100000 in
set_option maxHeartbeats 2000000 in
theorem div64_low (lo y : Nat) (hy : 0 < y) (hlo : lo < 18446744073709551616) (hyy : y < 18446744073709551616) (w : World) :
    Calls Tryd.prog 116 #[.int .u64 0, .int .u64 lo, .int .u64 y] w fun e w' => e = .returned (.tuple #[.int .u64 (lo / y : Nat), .int .u64 (lo % y : Nat)]) ∧ Below w.heap.size w w' := by
  have h0 : ((y : Int) == 0) = false := by simp; omega
  have h1 : ¬ (y : Int) ≤ 0 := by omega
  have h2 : decide ((y : Int) ≤ 0) = false := by simp; omega
  have h3 : (1 : Int) ≤ y := by omega
  have hq : lo / y ≤ lo := Nat.div_le_self _ _
  have HQ := Lib.hid hq
  clear hq
  go_enter Tryd.func116, Tryd.ntmps116
  go_wp2_with fail
  go_quiet (fail)
  go_wp2_with fail
  go_ret2
  exact ⟨ret_uu (by have hx := HQ.out; rw [← Int.natCast_ediv]; generalize lo / y = q at *; rw [IntKind.wrap_u64]; omega) (by rw [Int.natCast_emod]), below_drewN _⟩

end Go.Proofs.YtokbdleokihdaaaDoor

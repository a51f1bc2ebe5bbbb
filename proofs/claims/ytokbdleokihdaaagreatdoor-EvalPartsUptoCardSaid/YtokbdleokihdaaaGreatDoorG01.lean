/- A value of the program, in plain Lean. No program in sight. Results that are the same. -/
import Derived.WalkKit
namespace Go.Proofs.YtokbdleokihdaaaGreatDoor
open Go.RowKit

/-- A value of the program: its kind, its number, its bytes. -/
structure Dt where
  k : Int
  i : Int
  s : ByteArray
instance : Inhabited Dt := ⟨⟨0, 0, ⟨#[]⟩⟩⟩
abbrev Dt.v (d : Dt) : Value := .agg #[.int .i64 d.k, .int .i64 d.i, .string d.s]
def Dt.zero : Dt := ⟨0, 0, ⟨#[]⟩⟩
end Go.Proofs.YtokbdleokihdaaaGreatDoor
namespace Go.Proofs.YtokbdleokihdaaaGreatDoor

theorem ret_int {k : IntKind} {a b : Int} (h : a = b) : Ending.returned (Value.int k a) = .returned (Value.int k b) := by rw [h]
theorem ret_bool {a b : Bool} (h : a = b) : Ending.returned (Value.bool a) = .returned (Value.bool b) := by rw [h]
end Go.Proofs.YtokbdleokihdaaaGreatDoor

/- A value of the program, in plain Lean. No program in sight. -/
import Derived.WalkKit
namespace Go.Proofs.YtnpgjlhnlakgpaaDoor
open Go.RowKit

/-- A value of the program: its kind, its number, its bytes. -/
structure Dt where
  k : Int
  i : Int
  s : ByteArray
instance : Inhabited Dt := ⟨⟨0, 0, ⟨#[]⟩⟩⟩
abbrev Dt.v (d : Dt) : Value := .agg #[.int .i64 d.k, .int .i64 d.i, .string d.s]
def Dt.zero : Dt := ⟨0, 0, ⟨#[]⟩⟩
end Go.Proofs.YtnpgjlhnlakgpaaDoor

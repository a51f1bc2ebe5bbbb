/- '==' and '!=' between two values of the program, as one Bool. -/
import Derived.Test.YtnpgjlhnlakgpaaDoorProg
import Derived.Test.YtnpgjlhnlakgpaaDoorKeep
namespace Go.Proofs.YtnpgjlhnlakgpaaDoor
open Go.RowKit

/-- Whether two values are the same. -/
def eqD (ak ai : Int) (sa : ByteArray) (bk bi : Int) (sb : ByteArray) : Bool := ak == bk && (ai == bi && sa.toList == sb.toList)
theorem eqD_iff {ak ai : Int} {sa : ByteArray} {bk bi : Int} {sb : ByteArray} : eqD ak ai sa bk bi sb = true ↔ ak = bk ∧ ai = bi ∧ sa = sb := by
  have hs : sa.toList = sb.toList ↔ sa = sb := by
    constructor
    · intro h
      have h2 : sa.data.toList = sb.data.toList := by rw [← ByteArray.toList_eq, ← ByteArray.toList_eq]; exact h
      cases sa; cases sb; congr 1; exact Array.toList_inj.1 h2
    · intro h; rw [h]
  simp [eqD, hs]
theorem run_eql_dat (w : World) (ak ai : Int) (sa : ByteArray) (bk bi : Int) (sb : ByteArray) :
    (Go.binOp .eql 28 (.agg #[.int .i64 ak, .int .i64 ai, .string sa]) (.agg #[.int .i64 bk, .int .i64 bi, .string sb])).run Tryd.prog w = .ok (.bool (eqD ak ai sa bk bi sb)) w := by
  unfold eqD
  go_simp
  by_cases h1 : ak = bk <;> by_cases h2 : ai = bi <;> by_cases h3 : sa.toList = sb.toList <;> simp [h1, h2, h3]
theorem run_neq_dat (w : World) (ak ai : Int) (sa : ByteArray) (bk bi : Int) (sb : ByteArray) :
    (Go.binOp .neq 28 (.agg #[.int .i64 ak, .int .i64 ai, .string sa]) (.agg #[.int .i64 bk, .int .i64 bi, .string sb])).run Tryd.prog w = .ok (.bool (!eqD ak ai sa bk bi sb)) w := by
  unfold eqD
  go_simp
  by_cases h1 : ak = bk <;> by_cases h2 : ai = bi <;> by_cases h3 : sa.toList = sb.toList <;> simp [h1, h2, h3]
attribute [go_sem ↓] run_eql_dat run_neq_dat
end Go.Proofs.YtnpgjlhnlakgpaaDoor

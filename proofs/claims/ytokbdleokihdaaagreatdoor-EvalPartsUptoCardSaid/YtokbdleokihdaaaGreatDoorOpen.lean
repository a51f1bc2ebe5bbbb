/- Opening an argument that is a value of the program (a struct of a kind, a number, a text). -/
import Derived.Test.YtokbdleokihdaaaGreatDoorProg
import Derived.ProofKit
import Derived.Lib.SmallJoins
import Derived.OpenShut
import Derived.ShutString
namespace Go.Proofs.YtokbdleokihdaaaGreatDoor
open Go.ChangeShapes Go.WideShapes Go.ChangeAt Go.RowKit Go.Joins
open Go.ChangeMaps (open_string shut_string)

theorem own : ownKnob Tryz.prog.godebug = none := by kernel_rfl
theorem laidOut : laidOutB Tryz.prog = true := by kernel_rfl

set_option maxRecDepth 100000 in
theorem open_dat {H : Type} {enc : TypeId × Value → H} {W : World} {b0 : Nat} {v : Value} {d : DataW H} {p : List MemPlace}
    (hv : Value.okWide Tryz.prog W .any b0 27 v) (h : DataW.Trod enc Tryz.prog W 0 (fun _ => true) true 27 v d p) :
    ∃ (k i : Int) (s : ByteArray), v = .agg #[.int .i64 k, .int .i64 i, .string s] ∧ d = .agg [.lit (.int .i64 k), .lit (.int .i64 i), .lit (.string s.data.toList)] ∧ p = [] ∧ (Lit.int .i64 k).wf = true ∧ (Lit.int .i64 i).wf = true ∧ s.size ≤ maxLen := by
  obtain ⟨c0, c1, c2, y0, y1, y2, m, rfl, rfl, rfl, hy0, hy1, hy2⟩ := open_agg3 Tryz.underlying27 (by kernel_rfl) (by kernel_rfl) hv h
  obtain ⟨a, e0, e0', wa⟩ := DataW.trod_int Tryz.underlying3 hy0
  obtain ⟨b, e1, e1', wb⟩ := DataW.trod_int Tryz.underlying2 hy1
  obtain ⟨s, e2, e2', ws⟩ := DataW.trod_string Tryz.underlying9 hy2
  simp only [List.cons.injEq, and_true] at e0 e1 e2
  subst e0 e1 e2 e0' e1' e2'
  exact ⟨a, b, s, rfl, rfl, rfl, wa, wb, ws⟩
end Go.Proofs.YtokbdleokihdaaaGreatDoor

/- What datum.number answers at two values. -/
import Derived.Test.YtokbdleokihdaaaDoorG03
import Derived.Test.YtokbdleokihdaaaDoorG04
namespace Go.Proofs.YtokbdleokihdaaaDoor
open Go.RowKit

/-- What arithmetic answers. -/
def numA (ds : List Dt) (r : Dt × Bool) : Dt × Int := if ds.all (isOf [2, 3]) then (if ds.any (fun d => d.k == 0) then (Dt.zero, 0) else if r.2 then (r.1, 0) else (Dt.zero, 4)) else (Dt.zero, 5)

theorem number_two (op : Int) (hop : op = 3 ∨ op = 4 ∨ op = 5 ∨ op = 6) (d d' : Dt) (b o cap : Nat) (w : World) (hbk : b < w.heap.size) (hc : DCells w b o [d, d'])
    (x0 : -9223372036854775808 ≤ d.i) (x1 : d.i < 9223372036854775808) (y0 : -9223372036854775808 ≤ d'.i) (y1 : d'.i < 9223372036854775808) :
    Calls Tryd.prog 75 #[.int .i64 op, .slice (some ⟨b, o, none⟩) 2 cap] w fun e w' => e = .returned (.tuple #[(numR op d d').1.v, .bool (numR op d d').2]) ∧ Below w.heap.size w w' := by
  by_cases hk : d.k = 3 ∨ d'.k = 3
  · rcases hop with rfl | rfl | rfl | rfl
    · exact number3_dec d d' b o cap w hbk hc hk x0 x1 y0 y1
    · exact number4_dec d d' b o cap w hbk hc hk x0 x1 y0 y1
    · exact number5_dec d d' b o cap w hbk hc hk x0 x1 y0 y1
    · exact number6_dec d d' b o cap w hbk hc hk x0 x1 y0 y1
  · have he : numR op d d' = arith 2 op d.i d'.i 1 := if_neg hk
    have h1 : d.k ≠ 3 := fun h => hk (.inl h)
    have h2 : d'.k ≠ 3 := fun h => hk (.inr h)
    rw [he]
    rcases hop with rfl | rfl | rfl | rfl
    · exact number3_int d d' b o cap w hbk hc h1 h2 x0 x1 y0 y1
    · exact number4_int d d' b o cap w hbk hc h1 h2 x0 x1 y0 y1
    · exact number5_int d d' b o cap w hbk hc h1 h2 x0 x1 y0 y1
    · exact number6_int d d' b o cap w hbk hc h1 h2 x0 x1 y0 y1
end Go.Proofs.YtokbdleokihdaaaDoor

/- What the document's Print writes of any value. -/
import Derived.Test.YtnpgjlhnlakgpaaDoorPrintRT
namespace Go.Proofs.YtnpgjlhnlakgpaaDoor
open Go.RowKit

theorem right_kinds {d : Dt} (h : rightD d = true) : d.k = 0 ∨ d.k = 1 ∨ d.k = 2 ∨ d.k = 3 ∨ d.k = 4 ∨ d.k = 5 := by
  unfold rightD at h
  by_cases h4 : d.k = 4
  · omega
  · rw [if_neg h4] at h
    unfold rightN at h
    by_cases h0 : d.k = 0
    · omega
    · rw [if_neg h0] at h
      by_cases h1 : d.k = 1
      · omega
      · rw [if_neg h1] at h
        by_cases h2 : d.k = 2 ∨ d.k = 3
        · omega
        · rw [if_neg h2] at h
          by_cases h5 : d.k = 5
          · omega
          · rw [if_neg h5] at h; cases h
theorem rprint_all (d : Dt) (w : World) (hP : Pow w) (i0 : -9223372036854775808 ≤ d.i) (i1 : d.i ≤ 9223372036854775807) :
    Calls Tryd.prog 23 #[d.v] w fun e w' => e = .returned (.string (bs (printF d))) ∧ Below w.heap.size w w' := by
  cases hr : rightD d
  · exact rprint_bad d w hr
  · rcases right_kinds hr with h | h | h | h | h | h
    · exact rprint_null d w hr h
    · by_cases h1 : d.i = 1
      · exact rprint_true d w h1 hr h
      · exact rprint_false d w h1 hr h
    · exact rprint_int d w hP i0 i1 hr h
    · exact rprint_dec d w hP i0 i1 hr h
    · exact rprint_text d w hr h
    · exact rprint_bytes d w hr h

end Go.Proofs.YtnpgjlhnlakgpaaDoor

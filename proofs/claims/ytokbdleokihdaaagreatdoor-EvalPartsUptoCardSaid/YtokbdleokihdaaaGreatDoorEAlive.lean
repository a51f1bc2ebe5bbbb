/- The law's alive. -/
import Derived.Test.YtokbdleokihdaaaGreatDoorPrintD
import Derived.Test.YtokbdleokihdaaaGreatDoorG27
namespace Go.Proofs.YtokbdleokihdaaaGreatDoor
open Go.RowKit

theorem alive_any (w : World) (hT : Tabs w) (hP : Pow w) :
    Calls Tryz.prog 4 #[] w fun e w' => e = .returned (.bool true) ∧ Below w.heap.size w w' := by
  have HC := Lib.hid (print_int ⟨2, 7, ⟨#[]⟩⟩ w hT hP (rightD_num (.inl rfl)) rfl (by decide) (by decide))
  have hp : printF ⟨2, 7, ⟨#[]⟩⟩ = [55] := by
    unfold printF
    rw [if_neg (by rw [rightD_num (.inl rfl)]; decide), if_neg (by decide), if_pos rfl]
    show Lib.itoa 7 = [55]
    unfold Lib.itoa
    rw [if_neg (by decide)]
    show Lib.decDigits 7 = [55]
    rw [Lib.decDigits, dif_pos (by decide)]
    rfl
  rw [hp] at HC
  have HC2 : Hid (Calls Tryz.prog 11 #[.agg #[.int .i64 2, .int .i64 7, .string ⟨#[]⟩]] w fun e w' => e = .returned (.string ⟨#[55]⟩) ∧ Below w.heap.size w w') := HC.out
  clear HC hp
  go_enter Tryz.func4, Tryz.ntmps4
  go_wp2_with (first | (go_at_call 11; refine HC2.out.mono ?_; rintro e w1 ⟨rfl, hb⟩) | fail)
  go_ret
  exact ⟨rfl, hb⟩
end Go.Proofs.YtokbdleokihdaaaGreatDoor

/- The names of the log's segments: the first one. -/
import Derived.Test.YtnpgjlhnlakgpaaDoorG08
import Derived.Test.YtnpgjlhnlakgpaaDoorShelf
namespace Go.Proofs.YtnpgjlhnlakgpaaDoor
open Go.RowKit Go.Maps

/-- log.000000000001 -/
def nm1 : ByteArray := ⟨#[108, 111, 103, 46, 48, 48, 48, 48, 48, 48, 48, 48, 48, 48, 48, 49]⟩
set_option maxRecDepth 100000 in
set_option maxHeartbeats 2000000 in
theorem name_one (w : World) : Calls Tryd.prog 67 #[.int .i64 1] w fun e w' => e = .returned (.string nm1) ∧ Below w.heap.size w w' := by
  have P1 : Hid (Calls Tryd.prog 55 #[.int .i64 1] w fun e w' => e = .returned (.string ⟨#[49]⟩) ∧ w' = w) := by
    have h := Tryd.strconv_Itoa_small 1 (by decide) w
    rw [show (⟨(Lib.decDigits 1).toArray⟩ : ByteArray) = ⟨#[49]⟩ from by kernel_rfl] at h
    exact h
  have P2 : Hid (Calls Tryd.prog 98 #[.string ⟨#[48]⟩, .int .i64 11] w fun e w' => e = .returned (.string ⟨#[48, 48, 48, 48, 48, 48, 48, 48, 48, 48, 48]⟩) ∧ Below w.heap.size w w') := by
    have h := Tryd.strings_Repeat ⟨#[48]⟩ 11 w (by decide) (by decide)
    rw [show (⟨(Lib.repeatL (ByteArray.mk #[48]).data.toList 11).toArray⟩ : ByteArray) = ⟨#[48, 48, 48, 48, 48, 48, 48, 48, 48, 48, 48]⟩ from by kernel_rfl] at h
    exact h
  have hz : (ByteArray.mk #[49]).size = 1 := rfl
  have hA : (ByteArray.mk #[108, 111, 103, 46]) ++ (ByteArray.mk #[48, 48, 48, 48, 48, 48, 48, 48, 48, 48, 48]) ++ (ByteArray.mk #[49]) = nm1 := by kernel_rfl
  obtain ⟨I, hI⟩ : ∃ I : ByteArray, I = ⟨#[49]⟩ := ⟨_, rfl⟩
  obtain ⟨R, hR⟩ : ∃ R : ByteArray, R = ⟨#[48, 48, 48, 48, 48, 48, 48, 48, 48, 48, 48]⟩ := ⟨_, rfl⟩
  have hz2 : R.size = 11 := by rw [hR]; rfl
  have hz4 : (ByteArray.mk #[108, 111, 103, 46]).size = 4 := rfl
  have hz3 : (ByteArray.mk #[108, 111, 103, 46] ++ R).size = 15 := by rw [ByteArray.size_append]; omega
  rw [← hI] at P1 hz
  rw [← hR] at P2
  rw [← hI, ← hR] at hA
  clear hI hR
  go_enter Tryd.func67, Tryd.ntmps67
  go_wp2_with (first
    | (go_at_call 55; refine P1.out.mono ?_; rintro e w9 ⟨rfl, hw9⟩; rw [hw9]; clear hw9)
    | (go_at_call 98; refine P2.out.mono ?_; rintro e w2 ⟨rfl, hb⟩; have HB := Lib.hid hb; clear hb)
    | fail)
  go_ret
  exact ⟨rfl, HB.out⟩
end Go.Proofs.YtnpgjlhnlakgpaaDoor

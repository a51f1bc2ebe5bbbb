/- Contracts of the disk's step, find, named, New, On, Steps. -/
import Derived.Test.YtnpgjlhnlakgpaaDoorVfsW
import Derived.Test.YtnpgjlhnlakgpaaDoorProg
import Derived.WalkKit
import Derived.WalkSpells
import Derived.WalkLawsBesides
import Derived.Lib.Hide
import Derived.Carry
namespace Go.Proofs.YtnpgjlhnlakgpaaDoor
open Go.RowKit Go.Maps Go.ChangeMaps Go.WideMaps

/-- The disk d stands in block b, its map in block m. -/
abbrev DAt (w : World) (b m : Nat) (d : Dk) : Prop := DiskAt Tryd.prog 9 w b m d
theorem lawK : Keyed Tryd.prog 9 := string_keyed Tryd.underlying9
theorem zeroE (w : World) : (zeroValue 117).run Tryd.prog w = .ok Fl.zero.val w := by kernel_rfl
theorem hkeyS {s : ByteArray} (h : s.size ≤ maxLen) : keyOf Tryd.prog 9 (.string s) = some (.string s.data.toList) := keyOf_string_mk Tryd.underlying9 h

set_option maxHeartbeats 1000000 in
theorem step_no {d : Dk} {w : World} {b m : Nat} (h : DAt w b m d) (hr : d.refuses = true) :
    Calls Tryd.prog 97 #[.pointer (some ⟨b, 0, none⟩)] w fun e w' => e = .returned (.int .i64 143) ∧ DAt w' b m d.gone ∧ Kp b m w w' := by
  have c4 := h.c4
  have c5 := h.c5
  have c3 := h.c3
  have f3 := h.f3
  obtain ⟨ha, hl⟩ : d.armed = true ∧ d.left = 0 := by simpa [Dk.refuses] using hr
  rw [ha] at c4
  rw [hl] at c5
  have H := Lib.hid h
  clear h ha hl hr
  go_enter Tryd.func97, Tryd.ntmps97
  go_wp2_with fail
  go_ret
  exact ⟨rfl, H.out.set3 true, (Kp.refl _ _ _).setCell 3 _⟩
set_option maxHeartbeats 1000000 in
theorem step_go {d : Dk} {w : World} {b m : Nat} (h : DAt w b m d) (hr : d.refuses = false) (hl : d.left < 9223372036854775808) (hs : d.steps < 4611686018427387904) :
    Calls Tryd.prog 97 #[.pointer (some ⟨b, 0, none⟩)] w fun e w' => e = .returned (.int .i64 0) ∧ DAt w' b m d.stepped ∧ Kp b m w w' := by
  have c4 := h.c4
  have c5 := h.c5
  have c6 := h.c6
  have f5 := h.f5
  have f6 := h.f6
  by_cases ha : d.armed = true
  · have hne : d.left ≠ 0 := by simpa [Dk.refuses, ha] using hr
    rw [ha] at c4
    have HS : Hid (d.stepped = { d with left := d.left - 1, steps := d.steps + 1 }) := by show _ = _; simp [Dk.stepped, ha]
    have hpos : 0 < d.left := by omega
    have hb0 : decide (d.left = 0) = false := by simp [hne]
    have H := Lib.hid h
    clear h ha hr hne
    go_enter Tryd.func97, Tryd.ntmps97
    go_wp2_with fail
    go_ret
    refine ⟨rfl, ?_, ((Kp.refl _ _ _).setCell 5 _).setCell 6 _⟩
    rw [HS.out]
    have h1 := (H.out.set5 ((d.left : Int) - 1)).set6 ((d.steps : Int) + 1)
    have e1 : ((d.left - 1 : Nat) : Int) = (d.left : Int) - 1 := by omega
    have e2 : ((d.steps + 1 : Nat) : Int) = (d.steps : Int) + 1 := by omega
    show DC _ _ _ _ _ _ _ _ _ ((d.left - 1 : Nat) : Int) ((d.steps + 1 : Nat) : Int) _
    rw [e1, e2]
    exact h1
  · have ha' : d.armed = false := by simpa using ha
    rw [ha'] at c4
    have HS : Hid (d.stepped = { d with steps := d.steps + 1 }) := by show _ = _; simp [Dk.stepped, ha']
    have H := Lib.hid h
    clear h ha ha' hr
    go_enter Tryd.func97, Tryd.ntmps97
    go_wp2_with fail
    go_ret
    refine ⟨rfl, ?_, (Kp.refl _ _ _).setCell 6 _⟩
    rw [HS.out]
    have h1 := H.out.set6 ((d.steps : Int) + 1)
    have e2 : ((d.steps + 1 : Nat) : Int) = (d.steps : Int) + 1 := by omega
    show DC _ _ _ _ _ _ _ _ _ _ ((d.steps + 1 : Nat) : Int) _
    rw [e2]
    exact h1
theorem named_any (nm : ByteArray) (w : World) (hn : nm.size ≤ maxLen) :
    Calls Tryd.prog 96 #[.string nm] w fun e w' => e = .returned (.bool (namedB nm)) ∧ w = w' := by
  unfold maxLen at hn
  by_cases h1 : 1 ≤ nm.size
  · have e : namedB nm = decide ((nm.size : Int) ≤ 20) := by simp [namedB, h1]; omega
    rw [e]; clear e
    go_enter Tryd.func96, Tryd.ntmps96
    go_wp2_with fail
    go_ret
    exact ⟨rfl, rfl⟩
  · have e : namedB nm = false := by simp [namedB, h1]
    rw [e]; clear e
    go_enter Tryd.func96, Tryd.ntmps96
    go_wp2_with fail
    go_ret
    exact ⟨rfl, rfl⟩
end Go.Proofs.YtnpgjlhnlakgpaaDoor

/- Contract of datum.Right for all kinds but TEXT: whether a value may be. -/
import Derived.Test.YtidejjjedpdbeaaDoorDatSmall
import Derived.Test.YtidejjjedpdbeaaDoorShelf
import Derived.Shelf.Unicode.DecodeSlow
import Derived.Lib.ValidU
namespace Go.Proofs.YtidejjjedpdbeaaDoor
open Go.RowKit

/-- Whether a value that is no TEXT may be. -/
def rightN (k i : Int) (s : ByteArray) : Bool :=
  if k = 0 then i == 0 && s.toList.isEmpty else if k = 1 then (i == 0 || i == 1) && s.toList.isEmpty else if k = 2 ∨ k = 3 then s.toList.isEmpty
  else if k = 5 then i == 0 && decide (s.size ≤ 1000) else false
/-- Whether a value may be. -/
def rightD (d : Dt) : Bool := if d.k = 4 then d.i == 0 && (decide (d.s.size ≤ 1000) && Lib.validD d.s.data.toList) else rightN d.k d.i d.s
/-- The tables of unicode/utf8 are as they are laid. -/
def Tabs (w : World) : Prop := Lib.Utf8Tabs 0 1 w
theorem Tabs.below {w w' : World} (h : Tabs w) (hb : Below w.heap.size w w') : Tabs w' := Utf8Tabs_below h hb

set_option maxHeartbeats 1000000 in
theorem right_not (k i : Int) (s : ByteArray) (w : World) (h4 : k ≠ 4) :
    Calls Tryd.prog 18 #[.agg #[.int .i64 k, .int .i64 i, .string s]] w fun e w' => e = .returned (.bool (rightN k i s)) ∧ Below w.heap.size w w' := by
  have hk : k = 0 ∨ k = 1 ∨ k = 2 ∨ k = 3 ∨ k = 5 ∨ (¬ k = 0 ∧ ¬ k = 1 ∧ ¬ k = 2 ∧ ¬ k = 3 ∧ ¬ k = 5) := by omega
  rcases hk with rfl | rfl | rfl | rfl | rfl | ⟨n0, n1, n2, n3, n5⟩
  iterate 5
    · clear h4
      go_enter Tryd.func18, Tryd.ntmps18
      go_wp2_with fail
      all_goals
        go_ret
        exact ⟨ret_bool (by simp [rightN, *] <;> omega), (Below.refl _ _).alloc (Nat.le_refl _) _⟩
  · have b0 : (k == 0) = false := by simpa using n0
    have b1 : (k == 1) = false := by simpa using n1
    have b2 : (k == 2) = false := by simpa using n2
    have b3 : (k == 3) = false := by simpa using n3
    have b4 : (k == 4) = false := by simpa using h4
    have b5 : (k == 5) = false := by simpa using n5
    have HE : Hid (rightN k i s = false) := by show rightN k i s = false; simp [rightN, n0, n1, n2, n3, n5]
    clear n0 n1 n2 n3 h4 n5
    go_enter Tryd.func18, Tryd.ntmps18
    go_wp2_with fail
    go_ret
    exact ⟨ret_bool (by rw [HE.out]), (Below.refl _ _).alloc (Nat.le_refl _) _⟩

set_option maxHeartbeats 1000000 in
theorem right_any (k i : Int) (s : ByteArray) (w : World) (hT : Tabs w) :
    Calls Tryd.prog 18 #[.agg #[.int .i64 k, .int .i64 i, .string s]] w fun e w' => e = .returned (.bool (rightD ⟨k, i, s⟩)) ∧ Below w.heap.size w w' := by
  by_cases h4 : k = 4
  · subst h4
    have HE : rightD ⟨4, i, s⟩ = (i == 0 && (decide (s.size ≤ 1000) && Lib.validD s.data.toList)) := by simp [rightD]
    rw [HE]
    clear HE
    by_cases h0 : i = 0
    · subst h0
      by_cases hs : s.size ≤ 1000
      · have hT1 := Lib.hid (hT.below ((Below.refl w.heap.size w).alloc (Nat.le_refl _) (.cells #[.int .i64 4, .int .i64 0, .string s] 24)))
        have hsz : (s.size : Int) ≤ 1000 := by omega
        have hd : decide (s.size ≤ 1000) = true := by simpa using hs
        rw [hd]
        clear hd hT
        go_enter Tryd.func18, Tryd.ntmps18
        go_wp2_with fail
        refine (Tryd.utf8_ValidString s _ (by omega) hT1.out).mono ?_
        rintro e w1 ⟨rfl, hb⟩
        have HB := Lib.hid (((Below.refl w.heap.size w).alloc (Nat.le_refl _) (.cells #[.int .i64 4, .int .i64 0, .string s] 24)).trans (hb.mono (by simp)))
        clear hb
        go_wp2_with fail
        go_ret
        exact ⟨by simp, HB.out⟩
      · have hsz : ¬ (s.size : Int) ≤ 1000 := by omega
        have hd : decide (s.size ≤ 1000) = false := by simpa using hs
        rw [hd]
        clear hd hT
        go_enter Tryd.func18, Tryd.ntmps18
        go_wp2_with fail
        go_ret
        exact ⟨by simp, (Below.refl _ _).alloc (Nat.le_refl _) _⟩
    · have h0' : (i == 0) = false := by simpa using h0
      rw [h0']
      clear h0 hT
      go_enter Tryd.func18, Tryd.ntmps18
      go_wp2_with fail
      go_ret
      exact ⟨by simp, (Below.refl _ _).alloc (Nat.le_refl _) _⟩
  · have : rightD ⟨k, i, s⟩ = rightN k i s := by simp [rightD, h4]
    rw [this]
    exact right_not k i s w h4
end Go.Proofs.YtidejjjedpdbeaaDoor

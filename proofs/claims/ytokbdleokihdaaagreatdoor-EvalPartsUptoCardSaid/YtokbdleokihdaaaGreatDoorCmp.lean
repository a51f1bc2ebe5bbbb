/- Contracts of cmp.Compare, cmp.Or, strings.Compare and datum.Compare: what each call returns, for every input. -/
import Derived.Test.YtokbdleokihdaaaGreatDoorProg
import Derived.WalkKit
import Derived.WalkSpells
import Derived.WalkLawsBesides
import Derived.Lib.Hide
namespace Go.Proofs.YtokbdleokihdaaaGreatDoor
open Go.RowKit

theorem ret_int {k : IntKind} {a b : Int} (h : a = b) : Ending.returned (Value.int k a) = .returned (Value.int k b) := by rw [h]
def cmpI (a b : Int) : Int := if a < b then -1 else if b < a then 1 else 0

theorem nan_int (a : Int) (w : World) : Calls Tryz.prog 112 #[.int .i64 a] w fun e w' => e = .returned (.bool false) ∧ w = w' := by
  go_enter Tryz.func112, Tryz.ntmps112
  go_wp2
  go_ret
  exact ⟨by simp, rfl⟩

theorem nan_int64 (a : Int) (w : World) : Calls Tryz.prog 113 #[.int .i64 a] w fun e w' => e = .returned (.bool false) ∧ w = w' := by
  go_enter Tryz.func113, Tryz.ntmps113
  go_wp2
  go_ret
  exact ⟨by simp, rfl⟩

theorem cmp_int (a b : Int) (w : World) : Calls Tryz.prog 106 #[.int .i64 a, .int .i64 b] w fun e w' => e = .returned (.int .i64 (cmpI a b)) ∧ w = w' := by
  by_cases h1 : a < b
  · have e : cmpI a b = -1 := by unfold cmpI; rw [if_pos h1]
    rw [e]; clear e
    go_enter Tryz.func106, Tryz.ntmps106
    go_wp2_with (first | (go_at_call 112; refine (nan_int _ _).mono ?_; rintro e w' ⟨rfl, rfl⟩))
    go_ret
    exact ⟨rfl, rfl⟩
  · by_cases h2 : b < a
    · have e : cmpI a b = 1 := by unfold cmpI; rw [if_neg h1, if_pos h2]
      rw [e]; clear e
      go_enter Tryz.func106, Tryz.ntmps106
      go_wp2_with (first | (go_at_call 112; refine (nan_int _ _).mono ?_; rintro e w' ⟨rfl, rfl⟩))
      go_ret
      exact ⟨rfl, rfl⟩
    · have e : cmpI a b = 0 := by unfold cmpI; rw [if_neg h1, if_neg h2]
      rw [e]; clear e
      go_enter Tryz.func106, Tryz.ntmps106
      go_wp2_with (first | (go_at_call 112; refine (nan_int _ _).mono ?_; rintro e w' ⟨rfl, rfl⟩))
      go_ret
      exact ⟨rfl, rfl⟩

theorem cmp_int64 (a b : Int) (w : World) : Calls Tryz.prog 107 #[.int .i64 a, .int .i64 b] w fun e w' => e = .returned (.int .i64 (cmpI a b)) ∧ w = w' := by
  by_cases h1 : a < b
  · have e : cmpI a b = -1 := by unfold cmpI; rw [if_pos h1]
    rw [e]; clear e
    go_enter Tryz.func107, Tryz.ntmps107
    go_wp2_with (first | (go_at_call 113; refine (nan_int64 _ _).mono ?_; rintro e w' ⟨rfl, rfl⟩))
    go_ret
    exact ⟨rfl, rfl⟩
  · by_cases h2 : b < a
    · have e : cmpI a b = 1 := by unfold cmpI; rw [if_neg h1, if_pos h2]
      rw [e]; clear e
      go_enter Tryz.func107, Tryz.ntmps107
      go_wp2_with (first | (go_at_call 113; refine (nan_int64 _ _).mono ?_; rintro e w' ⟨rfl, rfl⟩))
      go_ret
      exact ⟨rfl, rfl⟩
    · have e : cmpI a b = 0 := by unfold cmpI; rw [if_neg h1, if_neg h2]
      rw [e]; clear e
      go_enter Tryz.func107, Tryz.ntmps107
      go_wp2_with (first | (go_at_call 113; refine (nan_int64 _ _).mono ?_; rintro e w' ⟨rfl, rfl⟩))
      go_ret
      exact ⟨rfl, rfl⟩

/-- The k-th of some numbers. -/
def nth (xs : List Int) (k : Nat) : Int := xs.getD k 0
/-- The first of the numbers that is not 0, or 0. -/
def orL : List Int → Int
  | [] => 0
  | x :: r => if x = 0 then orL r else x

theorem orL_skip : ∀ (xs : List Int) (k : Nat), (∀ j, j < k → nth xs j = 0) → orL xs = orL (xs.drop k)
  | [], k, _ => by simp
  | x :: r, 0, _ => by simp
  | x :: r, k + 1, h => by
    have hx : x = 0 := by simpa [nth] using h 0 (by omega)
    have := orL_skip r k (fun j hj => by simpa [nth] using h (j + 1) (by omega))
    simp only [List.drop_succ_cons]
    rw [← this]; simp [orL, hx]
theorem orL_all (xs : List Int) (h : ∀ j, j < xs.length → nth xs j = 0) : orL xs = 0 := by
  rw [orL_skip xs xs.length h]; simp [orL]
theorem orL_at (xs : List Int) (k : Nat) (hk : k < xs.length) (h : ∀ j, j < k → nth xs j = 0) (hx : nth xs k ≠ 0) : orL xs = nth xs k := by
  rw [orL_skip xs k h]
  rw [List.drop_eq_getElem_cons hk]
  have e : nth xs k = xs[k] := by simp [nth, hk]
  rw [e] at hx ⊢
  simp [orL, hx]

theorem or_ints (xs : List Int) (b : Nat) (cap : Nat) (w : World) (hn : xs.length ≤ 9223372036854775807)
    (hc : ∀ i, i < xs.length → w.cell? ⟨b, i, none⟩ = some (.int .i64 (nth xs i))) :
    Calls Tryz.prog 104 #[.slice (some ⟨b, 0, none⟩) xs.length cap] w fun e w' => e = .returned (.int .i64 (orL xs)) ∧ w = w' := by
  have Hc := Lib.hid hc
  clear hc
  go_enter Tryz.func104, Tryz.ntmps104
  go_wp2
  go_loop [5, 8] (fun _ i => ∃ k : Nat, k ≤ xs.length ∧ i = .int .i64 k ∧ (∀ j, j < k → nth xs j = 0)) (fun _ i => xs.length - (intOf i).toNat)
  case atStart => exact ⟨0, Nat.zero_le _, rfl, fun j hj => by omega⟩
  case round =>
    obtain ⟨k, hk, rfl, hz⟩ := hrel
    have Hz := Lib.hid hz
    clear hz
    by_cases hlt : k < xs.length
    · have hcell := Hc.out k hlt
      have hzero : (0 : Int) ≤ k := by omega
      by_cases hx : nth xs k = 0
      · have hx2 : (nth xs k != 0) = false := by rw [hx]; rfl
        have HX := Lib.hid hx
        clear hx
        go_wp2
        go_round
        case rel => exact ⟨k + 1, by omega, by go_num, fun j hj => by
          rcases Nat.lt_succ_iff_lt_or_eq.1 hj with h | h
          · exact Hz.out j h
          · rw [h]; exact HX.out⟩
        case measure => simp [intOf]; omega
      · have hx2 : (nth xs k != 0) = true := by simpa using hx
        have HX := Lib.hid hx
        clear hx
        go_wp2
        go_ret
        exact ⟨ret_int (orL_at xs k hlt Hz.out HX.out).symm, rfl⟩
    · have HE : Hid (orL xs = 0) := by
        have : k = xs.length := by omega
        subst this
        exact orL_all xs Hz.out
      go_wp2
      go_ret
      exact ⟨ret_int HE.out.symm, rfl⟩
end Go.Proofs.YtokbdleokihdaaaGreatDoor

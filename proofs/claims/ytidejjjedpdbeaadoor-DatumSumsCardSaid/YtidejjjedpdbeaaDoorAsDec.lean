/- Contracts of datum.sum and datum.asDec. -/
import Derived.Test.YtidejjjedpdbeaaDoorOver
import Derived.Test.YtidejjjedpdbeaaDoorDatSmall
namespace Go.Proofs.YtidejjjedpdbeaaDoor
open Go.RowKit

/-- Has a number room? -/
def room (z : Int) : Bool := decide (-9223372036854775808 ≤ z) && decide (z < 9223372036854775808)

set_option maxHeartbeats 1000000 in
theorem sum_any (a b : Int) (w : World) (h0 : -9223372036854775808 ≤ a) (h1 : a < 9223372036854775808) (h2 : -9223372036854775808 ≤ b) (h3 : b < 9223372036854775808) :
    Calls Tryd.prog 51 #[.int .i64 a, .int .i64 b] w fun e w' => e = .returned (.tuple #[.int .i64 (wrap64 (a + b)), .bool (room (a + b))]) ∧ Below w.heap.size w w' := by
  obtain ⟨s, hs⟩ : ∃ s, s = wrap64 (a + b) := ⟨_, rfl⟩
  have HS := Lib.hid hs
  have HR : Hid (room (a + b) = ((decide (a < s) == decide (0 < b)) || (b == 0))) := by
    show room (a + b) = _
    rw [hs]
    unfold wrap64 room
    rw [Bool.eq_iff_iff]
    simp only [Bool.and_eq_true, Bool.or_eq_true, decide_eq_true_eq, beq_iff_eq, decide_eq_decide]
    omega
  clear hs h0 h1 h2 h3
  rw [← HS.out]
  generalize room (a + b) = r at *
  go_enter Tryd.func51, Tryd.ntmps51
  go_wp2_with fail
  all_goals
    go_ret2
    refine ⟨ret_ib HS.out.symm ?_, ?_⟩
    · first | (rw [HR.out, HS.out]; done) | (rw [HR.out, HS.out]; simp [*]; done)
    · first | exact Below.refl _ _ | exact below_drewN _ | exact (Below.refl _ _).drew

/-- An amount as one of the DEC, if it has room. -/
def decI (i : Int) : Int × Bool := if room (i * 10000) then (i * 10000, true) else (0, false)
theorem decI_over (i : Int) (h0 : -9223372036854775808 ≤ i) (h1 : i < 9223372036854775808) :
    overR (mulNeg i 10000) (i.natAbs * (10000 : Int).natAbs / 18446744073709551616) (i.natAbs * (10000 : Int).natAbs % 18446744073709551616) 1 = decI i := by
  have hm : mulNeg i 10000 = decide (i < 0) := by
    have ht : (10000 : Int).natAbs = 10000 := rfl
    unfold mulNeg mulHi mulLo
    rw [ht]
    by_cases hn : i < 0
    · have e1 : decide (i < 0) = true := by simpa using hn
      have e2 : (((i.natAbs * 10000 / 18446744073709551616 : Nat) : Int) == 0 && ((i.natAbs * 10000 % 18446744073709551616 : Nat) : Int) == 0) = false := by
        rw [Bool.and_eq_false_iff, beq_eq_false_iff_ne, beq_eq_false_iff_ne]; omega
      rw [e1, e2]; rfl
    · have e1 : decide (i < 0) = false := by simpa using hn
      rw [e1]; rfl
  rw [hm]
  have hr : room (i * 10000) = true ↔ (-9223372036854775808 ≤ i * 10000 ∧ i * 10000 < 9223372036854775808) := by
    unfold room; simp only [Bool.and_eq_true, decide_eq_true_eq]
  have hz : i.natAbs * (10000 : Int).natAbs / 18446744073709551616 * 18446744073709551616 + i.natAbs * (10000 : Int).natAbs % 18446744073709551616 = i.natAbs * 10000 := by
    rw [Nat.mul_comm _ 18446744073709551616, Nat.div_add_mod]; rfl
  have hh : i.natAbs * (10000 : Int).natAbs / 18446744073709551616 = i.natAbs * 10000 / 18446744073709551616 := rfl
  unfold overR decI
  rw [hz, hh]
  have hb : (decide (i < 0) != decide ((1 : Int) < 0)) = decide (i < 0) := by simp
  rw [hb]
  have h1' : (1 : Int).natAbs = 1 := rfl
  rw [h1', Nat.div_one]
  by_cases hn : i < 0
  · by_cases hq : i.natAbs * 10000 ≤ 9223372036854775808
    · rw [if_neg (by omega), if_pos (by simpa using hn), if_pos hq, if_pos (hr.mpr (by omega))]
      refine Prod.ext ?_ rfl
      show -((i.natAbs * 10000 : Nat) : Int) = i * 10000
      omega
    · rw [if_pos (c := decide (i < 0) = true) (by simpa using hn), if_neg hq, if_neg (c := room (i * 10000) = true) (by rw [hr]; omega)]
      simp
  · by_cases hq : i.natAbs * 10000 < 9223372036854775808
    · rw [if_neg (by omega), if_neg (by simpa using hn), if_pos hq, if_pos (hr.mpr (by omega))]
      refine Prod.ext ?_ rfl
      show ((i.natAbs * 10000 : Nat) : Int) = i * 10000
      omega
    · rw [if_neg (c := decide (i < 0) = true) (by simpa using hn), if_neg hq, if_neg (c := room (i * 10000) = true) (by rw [hr]; omega)]
      simp

def asDecR (d : Dt) : Dt × Bool := if d.k = 3 then (d, true) else (⟨3, (decI d.i).1, ⟨#[]⟩⟩, (decI d.i).2)
end Go.Proofs.YtidejjjedpdbeaaDoor

/- Contract of (datum.wide).over. -/
import Derived.Test.YtidejjjedpdbeaaDoorDiv64A
import Derived.Test.YtidejjjedpdbeaaDoorWide
namespace Go.Proofs.YtidejjjedpdbeaaDoor
open Go.RowKit

/-- A quotient towards 0, if it has room. -/
def overR (m : Bool) (hi lo : Nat) (n : Int) : Int × Bool :=
  if n.natAbs ≤ hi then (0, false)
  else if (m != decide (n < 0)) = true then
    (if (hi * 18446744073709551616 + lo) / n.natAbs ≤ 9223372036854775808 then (-(((hi * 18446744073709551616 + lo) / n.natAbs : Nat) : Int), true) else (0, false))
  else (if (hi * 18446744073709551616 + lo) / n.natAbs < 9223372036854775808 then ((((hi * 18446744073709551616 + lo) / n.natAbs : Nat) : Int), true) else (0, false))

theorem ret_ib {a b : Int} {c d : Bool} (h : a = b) (h2 : c = d) : Ending.returned (.tuple #[.int .i64 a, .bool c]) = .returned (.tuple #[.int .i64 b, .bool d]) := by rw [h, h2]
set_option maxHeartbeats 1000000 in
theorem over_any (m : Bool) (hi lo : Nat) (n : Int) (w : World) (hlo : lo < 18446744073709551616) (n0 : -9223372036854775808 ≤ n) (n1 : n ≤ 9223372036854775807) :
    Calls Tryd.prog 53 #[.agg #[.bool m, .int .u64 (hi : Int), .int .u64 (lo : Int)], .int .i64 n] w fun e w' => e = .returned (.tuple #[.int .i64 (overR m hi lo n).1, .bool (overR m hi lo n).2]) ∧ Below w.heap.size w w' := by
  have HA := Lib.hid (fun w => amount_any n w n0 n1)
  obtain ⟨hB, hz, c0⟩ := boxes1 w #[.bool m, .int .u64 (hi : Int), .int .u64 (lo : Int)] 69
  have hdn : decide (n < 0) = false ∨ decide (n < 0) = true := by cases decide (n < 0) <;> simp
  have HO := Lib.hid (show overR m hi lo n = _ from rfl)
  have hD : n.natAbs < 18446744073709551616 := by omega
  by_cases hd : n.natAbs ≤ hi
  · have HE := Lib.hid (show overR m hi lo n = (0, false) by rw [overR, if_pos hd])
    have d1 : decide (n.natAbs ≤ hi) = true := by simpa using hd
    rw [HE.out]
    clear HO HE n0 n1
    go_enter Tryd.func53, Tryd.ntmps53
    go_wp2_with (first | (go_at_call 44; refine (HA.out _).mono ?_; rintro e w' ⟨rfl, rfl⟩))
    all_goals first | (exfalso; omega) | skip
    go_ret2
    exact ⟨rfl, hB⟩
  · have HQ := Lib.hid (fun w => div64_any hi lo n.natAbs (by omega) hlo hD w)
    have hdl : decide ((n.natAbs : Int) ≤ (hi : Int)) = false := by simp; omega
    have hq0 : (0 : Int) ≤ (((hi * 18446744073709551616 + lo) / n.natAbs : Nat) : Int) := Int.natCast_nonneg _
    have HV : Hid (overR m hi lo n = if (m != decide (n < 0)) = true then (if (((hi * 18446744073709551616 + lo) / n.natAbs : Nat) : Int) ≤ 9223372036854775808 then (-(((hi * 18446744073709551616 + lo) / n.natAbs : Nat) : Int), true) else (0, false)) else (if (((hi * 18446744073709551616 + lo) / n.natAbs : Nat) : Int) < 9223372036854775808 then ((((hi * 18446744073709551616 + lo) / n.natAbs : Nat) : Int), true) else (0, false))) := by
      show overR m hi lo n = _
      rw [overR, if_neg hd]
      generalize (hi * 18446744073709551616 + lo) / n.natAbs = z
      have e1 : ((z : Int) ≤ 9223372036854775808) = (z ≤ 9223372036854775808) := by simp only [eq_iff_iff]; omega
      have e2 : ((z : Int) < 9223372036854775808) = (z < 9223372036854775808) := by simp only [eq_iff_iff]; omega
      simp only [e1, e2]
    clear HO hd hlo n0 n1 hD
    generalize (((hi * 18446744073709551616 + lo) / n.natAbs : Nat) : Int) = q at *
    generalize (n.natAbs : Int) = D at *
    generalize hRe : overR m hi lo n = R at *
    clear hRe
    generalize (hi : Int) = H at *
    generalize (lo : Int) = L at *
    have hw1 : q ≤ 9223372036854775808 → wrap64 (IntKind.u64.wrap (-q)) = -q := by
      intro h; rw [IntKind.wrap_u64]; unfold wrap64; omega
    have hw2 : q < 9223372036854775808 → wrap64 q = q := by
      intro h; unfold wrap64; omega
    have HW1 := Lib.hid hw1
    have HW2 := Lib.hid hw2
    clear hw1 hw2 hz c0
    have HB := Lib.hid hB
    clear hB
    by_cases ha : q ≤ 9223372036854775808 <;> by_cases hb : q < 9223372036854775808
    all_goals first | (exfalso; omega) | skip
    all_goals
      have Ha := Lib.hid ha
      have Hb := Lib.hid hb
      obtain ⟨ta, hta⟩ : ∃ t, t = decide (q ≤ 9223372036854775808) := ⟨_, rfl⟩
      obtain ⟨tb, htb⟩ : ∃ t, t = decide (q < 9223372036854775808) := ⟨_, rfl⟩
      simp only [ha, hb, decide_true, decide_false] at hta htb
    all_goals
      cases m <;> rcases hdn with hs | hs
    all_goals
      go_enter Tryd.func53, Tryd.ntmps53
      go_wp2_with (first | (go_at_call 44; refine (HA.out _).mono ?_; rintro e w' ⟨rfl, rfl⟩))
    all_goals
      refine (HQ.out _).mono ?_
      rintro e w' ⟨q', r', rfl, hqq, hb'⟩
      subst hqq
      obtain ⟨⟨k0, k1, k2⟩, ⟨f0, f1, f2⟩, hBB, hsz⟩ := box_new (by rw [World.size_alloc] at hb'; exact hb')
      have HBB := Lib.hid hBB
      clear hb' hBB HB HQ HA hta htb hq0 Ha Hb
      have ta : decide (q' ≤ 9223372036854775808) = decide (q' ≤ 9223372036854775808) := rfl
      go_wp2_with fail
    all_goals first | (exfalso; omega) | skip
    all_goals
      go_ret2
      refine ⟨?_, HBB.out⟩
      rw [HV.out, hs]
      refine ret_ib ?_ ?_ <;> first
        | (rw [if_neg (by decide), if_neg (by omega)])
        | (rw [if_neg (by decide), if_pos (by omega)]; first | done | exact HW2.out (by omega))
        | (rw [if_pos (by decide), if_neg (by omega)])
        | (rw [if_pos (by decide), if_pos (by omega)]; first | done | exact HW1.out (by omega))
end Go.Proofs.YtidejjjedpdbeaaDoor

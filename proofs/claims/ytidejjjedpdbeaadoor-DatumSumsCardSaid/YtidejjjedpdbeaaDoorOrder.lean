/- Contracts of datum.scaled, cmp.Compare of uint64, datum.order. -/
import Derived.Test.YtidejjjedpdbeaaDoorWide
import Derived.Test.YtidejjjedpdbeaaDoorDatCmp
import Derived.Deep.CutRange
import Derived.Deep.DeepCutAuto
namespace Go.Proofs.YtidejjjedpdbeaaDoor
open Go.RowKit

theorem nan_u64 (a : Int) (w : World) : Calls Tryd.prog 90 #[.int .u64 a] w fun e w' => e = .returned (.bool false) ∧ w = w' := by
  go_enter Tryd.func90, Tryd.ntmps90
  go_wp2
  go_ret
  exact ⟨by simp, rfl⟩

theorem cmp_u64 (a b : Int) (w : World) : Calls Tryd.prog 71 #[.int .u64 a, .int .u64 b] w fun e w' => e = .returned (.int .i64 (cmpI a b)) ∧ w = w' := by
  by_cases h1 : a < b
  · have e : cmpI a b = -1 := by unfold cmpI; rw [if_pos h1]
    rw [e]; clear e
    go_enter Tryd.func71, Tryd.ntmps71
    go_wp2_with (first | (go_at_call 90; refine (nan_u64 _ _).mono ?_; rintro e w' ⟨rfl, rfl⟩))
    go_ret
    exact ⟨rfl, rfl⟩
  · by_cases h2 : b < a
    · have e : cmpI a b = 1 := by unfold cmpI; rw [if_neg h1, if_pos h2]
      rw [e]; clear e
      go_enter Tryd.func71, Tryd.ntmps71
      go_wp2_with (first | (go_at_call 90; refine (nan_u64 _ _).mono ?_; rintro e w' ⟨rfl, rfl⟩))
      go_ret
      exact ⟨rfl, rfl⟩
    · have e : cmpI a b = 0 := by unfold cmpI; rw [if_neg h1, if_neg h2]
      rw [e]; clear e
      go_enter Tryd.func71, Tryd.ntmps71
      go_wp2_with (first | (go_at_call 90; refine (nan_u64 _ _).mono ?_; rintro e w' ⟨rfl, rfl⟩))
      go_ret
      exact ⟨rfl, rfl⟩

/-- What a number is a multiple of: an INT of ten thousand. -/
def unitOf (k : Int) : Int := if k = 2 then 10000 else 1

set_option maxHeartbeats 1000000 in
theorem scaled_any (k i : Int) (s : ByteArray) (w : World) (h0 : -9223372036854775808 ≤ i) (h1 : i ≤ 9223372036854775807) :
    Calls Tryd.prog 70 #[.agg #[.int .i64 k, .int .i64 i, .string s]] w fun e w' => e = .returned (.agg #[.bool (mulNeg i (unitOf k)), .int .u64 (mulHi i (unitOf k)), .int .u64 (mulLo i (unitOf k))]) ∧ Below w.heap.size w w' := by
  have HT := Lib.hid (fun (f : Int) (hf : f = 1 ∨ f = 10000) w => times_any i f w h0 h1 (by omega) (by omega))
  clear h0 h1
  by_cases hk : k = 2
  · subst hk
    have HU := Lib.hid (show unitOf 2 = 10000 from rfl)
    rw [HU.out]
    clear HU
    go_enter Tryd.func70, Tryd.ntmps70
    go_wp2_with fail
    refine (HT.out 10000 (by simp) _).mono ?_
    rintro e w1 ⟨rfl, hb⟩
    obtain ⟨⟨b1, b2, b3⟩, ⟨f1, f2, f3⟩, hB, hz, -⟩ := boxes2_res hb
    have HB := Lib.hid hB
    clear hb hB HT
    generalize hm : mulNeg i 10000 = m
    generalize hh : mulHi i 10000 = hi
    generalize hl : mulLo i 10000 = lo
    have HM := Lib.hid hm
    have HH := Lib.hid hh
    have HL := Lib.hid hl
    clear hm hh hl
    go_wp2_with fail
    refine bodyPost_ret (v := .agg #[.bool m, .int .u64 hi, .int .u64 lo]) (by simp [results, Tryd.results70, go_sem, b1, b2, b3]) rfl ⟨by rw [HM.out, HH.out, HL.out], ?_⟩
    exact ((HB.out.setCell (by simp) _).setCell (by simp) _).setCell (by simp) _
  · have HU := Lib.hid (show unitOf k = 1 by unfold unitOf; rw [if_neg hk])
    have hk2 : (k == 2) = false := by simpa using hk
    rw [HU.out]
    clear HU hk
    go_enter Tryd.func70, Tryd.ntmps70
    go_wp2_with fail
    refine (HT.out 1 (by simp) _).mono ?_
    rintro e w1 ⟨rfl, hb⟩
    obtain ⟨⟨b1, b2, b3⟩, ⟨f1, f2, f3⟩, hB, hz, -⟩ := boxes2_res hb
    have HB := Lib.hid hB
    clear hb hB HT
    generalize hm : mulNeg i 1 = m
    generalize hh : mulHi i 1 = hi
    generalize hl : mulLo i 1 = lo
    have HM := Lib.hid hm
    have HH := Lib.hid hh
    have HL := Lib.hid hl
    clear hm hh hl
    go_wp2_with fail
    refine bodyPost_ret (v := .agg #[.bool m, .int .u64 hi, .int .u64 lo]) (by simp [results, Tryd.results70, go_sem, b1, b2, b3]) rfl ⟨by rw [HM.out, HH.out, HL.out], ?_⟩
    exact ((HB.out.setCell (by simp) _).setCell (by simp) _).setCell (by simp) _

theorem or2 (a b : Int) : orL [a, b] = if a = 0 then b else a := by
  simp only [orL]
  by_cases h : b = 0
  · simp [h]
  · simp [h]
/-- How two numbers stand, by what they are. -/
def ordN (ak ai : Int) (sa : ByteArray) (bk bi : Int) (sb : ByteArray) : Int := if ak = bk then dco ak ai sa bk bi sb else cmpI (ai * unitOf ak) (bi * unitOf bk)
theorem mul_parts (a b : Int) : a * b = (if mulNeg a b then -1 else 1) * (mulHi a b * 18446744073709551616 + mulLo a b) ∧ (mulNeg a b = true → 0 < mulHi a b * 18446744073709551616 + mulLo a b) ∧ 0 ≤ mulLo a b ∧ mulLo a b < 18446744073709551616 ∧ 0 ≤ mulHi a b := by
  have h1 : mulHi a b * 18446744073709551616 + mulLo a b = ((a.natAbs * b.natAbs : Nat) : Int) := by unfold mulHi mulLo; omega
  have hl : 0 ≤ mulLo a b ∧ mulLo a b < 18446744073709551616 := by unfold mulLo; omega
  have hh : 0 ≤ mulHi a b := by unfold mulHi; omega
  have h2 : ((a.natAbs * b.natAbs : Nat) : Int) = (a.natAbs : Int) * (b.natAbs : Int) := by simp
  refine ⟨?_, ?_, hl.1, hl.2, hh⟩
  · by_cases hz : mulHi a b = 0 ∧ mulLo a b = 0
    · have hn : mulNeg a b = false := by unfold mulNeg; simp [hz]
      rw [h1, hn, h2]
      have h0 : ((a.natAbs : Int)) * (b.natAbs : Int) = 0 := by rw [← h2, ← h1]; omega
      rw [h0]
      have : a = 0 ∨ b = 0 := by
        rcases Int.mul_eq_zero.1 h0 with h | h <;> omega
      rcases this with rfl | rfl <;> simp
    · have hn : mulNeg a b = (decide (a < 0) != decide (b < 0)) := by
        unfold mulNeg
        have : (mulHi a b == 0 && mulLo a b == 0) = false := by
          rw [Bool.and_eq_false_iff, beq_eq_false_iff_ne, beq_eq_false_iff_ne]; omega
        rw [this]; simp
      rw [h1, h2, hn]
      by_cases ha : a < 0 <;> by_cases hb : b < 0
      · have e1 : (a.natAbs : Int) = -a := by omega
        have e2 : (b.natAbs : Int) = -b := by omega
        simp [ha, hb, e1, e2, Int.neg_mul_neg]
      · have e1 : (a.natAbs : Int) = -a := by omega
        have e2 : (b.natAbs : Int) = b := by omega
        simp [ha, hb, e1, e2, Int.neg_mul]
      · have e1 : (a.natAbs : Int) = a := by omega
        have e2 : (b.natAbs : Int) = -b := by omega
        simp [ha, hb, e1, e2, Int.mul_neg]
      · have e1 : (a.natAbs : Int) = a := by omega
        have e2 : (b.natAbs : Int) = b := by omega
        simp [ha, hb, e1, e2]
  · intro hn
    unfold mulNeg at hn
    simp only [Bool.and_eq_true, Bool.not_eq_true', Bool.and_eq_false_iff, beq_eq_false_iff_ne] at hn
    omega
/-- The comparison of two wide numbers is that of what they are. -/
theorem wide_cmp {m1 m2 : Bool} {h1 l1 h2 l2 x y : Int} (ex : x = (if m1 then -1 else 1) * (h1 * 18446744073709551616 + l1)) (ey : y = (if m2 then -1 else 1) * (h2 * 18446744073709551616 + l2))
    (p1 : m1 = true → 0 < h1 * 18446744073709551616 + l1) (p2 : m2 = true → 0 < h2 * 18446744073709551616 + l2) (a1 : 0 ≤ l1) (a2 : l1 < 18446744073709551616) (a3 : 0 ≤ h1) (b1 : 0 ≤ l2) (b2 : l2 < 18446744073709551616) (b3 : 0 ≤ h2) :
    cmpI x y = if m1 != m2 then (if m1 then -1 else 1) else if m1 then -(orL [cmpI h1 h2, cmpI l1 l2]) else orL [cmpI h1 h2, cmpI l1 l2] := by
  rw [or2]
  cases m1 <;> cases m2 <;> simp at ex ey p1 p2 ⊢ <;> unfold cmpI <;> repeat' split
  all_goals omega
end Go.Proofs.YtidejjjedpdbeaaDoor

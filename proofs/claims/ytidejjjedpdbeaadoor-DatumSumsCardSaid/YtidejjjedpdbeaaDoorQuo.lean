/- The plain law of (datum.wide).over: a quotient towards 0, where there is one that has room. -/
import Derived.Test.YtidejjjedpdbeaaDoorAsDec
namespace Go.Proofs.YtidejjjedpdbeaaDoor
open Go.RowKit

/-- A quotient towards 0, where there is one that has room. -/
def quo (z n : Int) : Int × Bool := if n ≠ 0 ∧ room (z.tdiv n) = true then (z.tdiv n, true) else (0, false)
theorem mulNeg_prod (a b : Int) : a * b = (if mulNeg a b = true then -((a.natAbs * b.natAbs : Nat) : Int) else ((a.natAbs * b.natAbs : Nat) : Int)) ∧ (mulNeg a b = true → 0 < a.natAbs * b.natAbs) := by
  have hz : (mulHi a b == 0 && mulLo a b == 0) = decide (a.natAbs * b.natAbs = 0) := by
    unfold mulHi mulLo
    rw [Bool.eq_iff_iff]
    simp only [Bool.and_eq_true, beq_iff_eq, decide_eq_true_eq]
    omega
  unfold mulNeg
  rw [hz]
  have e1 := Int.natAbs_mul a b
  rw [← e1]
  by_cases ha : a < 0 <;> by_cases hb : b < 0
  · have h : 0 ≤ a * b := Int.mul_nonneg_of_nonpos_of_nonpos (by omega) (by omega)
    simp [ha, hb]; omega
  · have h : a * b ≤ 0 := Int.mul_nonpos_of_nonpos_of_nonneg (by omega) (by omega)
    generalize a * b = z at *
    by_cases hz0 : z = 0 <;> simp [ha, hb, hz0] <;> omega
  · have h : a * b ≤ 0 := Int.mul_nonpos_of_nonneg_of_nonpos (by omega) (by omega)
    generalize a * b = z at *
    by_cases hz0 : z = 0 <;> simp [ha, hb, hz0] <;> omega
  · have h : 0 ≤ a * b := Int.mul_nonneg (by omega) (by omega)
    simp [ha, hb]; omega
theorem tdiv_signed (m : Bool) (P : Nat) (n : Int) : (if m = true then -(P : Int) else (P : Int)).tdiv n = if (m != decide (n < 0)) = true then -((P / n.natAbs : Nat) : Int) else ((P / n.natAbs : Nat) : Int) := by
  by_cases hn : n < 0
  · obtain ⟨k, hk⟩ : ∃ k : Nat, n = -(k : Int) := ⟨n.natAbs, by omega⟩
    subst hk
    have h0 : k ≠ 0 := by omega
    cases m <;> simp [Int.neg_tdiv, Int.tdiv_neg] <;> omega
  · obtain ⟨k, hk⟩ : ∃ k : Nat, n = (k : Int) := ⟨n.natAbs, by omega⟩
    subst hk
    cases m <;> simp [hn, Int.neg_tdiv]
theorem over_quo (a b n : Int) : overR (mulNeg a b) (a.natAbs * b.natAbs / 18446744073709551616) (a.natAbs * b.natAbs % 18446744073709551616) n = quo (a * b) n := by
  obtain ⟨h1, h2⟩ := mulNeg_prod a b
  have hz : a.natAbs * b.natAbs / 18446744073709551616 * 18446744073709551616 + a.natAbs * b.natAbs % 18446744073709551616 = a.natAbs * b.natAbs := by
    rw [Nat.mul_comm _ 18446744073709551616, Nat.div_add_mod]
  unfold overR quo
  rw [hz, h1, tdiv_signed]
  generalize mulNeg a b = m at *
  generalize hP : a.natAbs * b.natAbs = P at *
  clear h1 hz
  have hroom : ∀ z, room z = true ↔ (-9223372036854775808 ≤ z ∧ z < 9223372036854775808) := fun z => by unfold room; simp only [Bool.and_eq_true, decide_eq_true_eq]
  by_cases hc : n.natAbs ≤ P / 18446744073709551616
  · rw [if_pos hc]
    by_cases h0 : n = 0
    · rw [if_neg (by simp [h0])]
    · have hq : 18446744073709551616 ≤ P / n.natAbs := by
        rw [Nat.le_div_iff_mul_le (by omega)]
        have : n.natAbs * 18446744073709551616 ≤ P := by
          exact (Nat.le_div_iff_mul_le (k := 18446744073709551616) (by decide)).1 hc
        omega
      rw [if_neg]
      rintro ⟨-, hxy⟩
      obtain ⟨hx, hy⟩ := (hroom _).1 hxy
      generalize P / n.natAbs = q at *
      by_cases hm : (m != decide (n < 0)) = true
      · rw [if_pos hm] at hx hy; omega
      · rw [if_neg hm] at hx hy; omega
  · rw [if_neg hc]
    have h0 : n ≠ 0 := by omega
    generalize P / n.natAbs = q
    by_cases hm : (m != decide (n < 0)) = true
    · rw [if_pos hm, if_pos hm]
      by_cases hq : q ≤ 9223372036854775808
      · rw [if_pos hq, if_pos ⟨h0, (hroom _).2 ⟨by omega, by omega⟩⟩]
      · rw [if_neg hq, if_neg (fun h => by have := (hroom _).1 h.2; omega)]
    · rw [if_neg hm, if_neg hm]
      by_cases hq : q < 9223372036854775808
      · rw [if_pos hq, if_pos ⟨h0, (hroom _).2 ⟨by omega, by omega⟩⟩]
      · rw [if_neg hq, if_neg (fun h => by have := (hroom _).1 h.2; omega)]

/-- What arithmetic on two amounts makes. -/
def arI (op a b one : Int) : Int × Bool := if op = 3 then (wrap64 (a + b), room (a + b)) else if op = 4 then (wrap64 (a - b), room (a - b)) else if op = 5 then quo (a * b) one else quo (a * one) b
def arith (k op a b one : Int) : Dt × Bool := (⟨k, (arI op a b one).1, ⟨#[]⟩⟩, (arI op a b one).2)
def numR (op : Int) (d d' : Dt) : Dt × Bool :=
  if d.k = 3 ∨ d'.k = 3 then (if (asDecR d).2 = true ∧ (asDecR d').2 = true then arith 3 op (asDecR d).1.i (asDecR d').1.i 10000 else (Dt.zero, false)) else arith 2 op d.i d'.i 1
theorem times_over (a b n : Int) (w : World) (n0 : -9223372036854775808 ≤ n) (n1 : n ≤ 9223372036854775807) :
    Calls Tryd.prog 53 #[.agg #[.bool (mulNeg a b), .int .u64 (mulHi a b), .int .u64 (mulLo a b)], .int .i64 n] w fun e w' => e = .returned (.tuple #[.int .i64 (quo (a * b) n).1, .bool (quo (a * b) n).2]) ∧ Below w.heap.size w w' := by
  have := over_any (mulNeg a b) (a.natAbs * b.natAbs / 18446744073709551616) (a.natAbs * b.natAbs % 18446744073709551616) n w (Nat.mod_lt _ (by omega)) n0 n1
  rw [over_quo] at this
  exact this
end Go.Proofs.YtidejjjedpdbeaaDoor

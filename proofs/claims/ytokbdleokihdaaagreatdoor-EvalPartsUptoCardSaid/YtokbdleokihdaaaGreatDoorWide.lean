/- Contracts of datum.amount, datum.times, datum.scaled, cmp.Compare of uint64, datum.order. -/
import Derived.Test.YtokbdleokihdaaaGreatDoorG02
import Derived.Test.YtokbdleokihdaaaGreatDoorShelf
import Derived.PlainAid
namespace Go.Proofs.YtokbdleokihdaaaGreatDoor
open Go.RowKit

theorem amount_any (i : Int) (w : World) (h0 : -9223372036854775808 ≤ i) (h1 : i ≤ 9223372036854775807) :
    Calls Tryz.prog 25 #[.int .i64 i] w fun e w' => e = .returned (.int .u64 (i.natAbs : Int)) ∧ w = w' := by
  by_cases hn : i < 0
  · have h2 : IntKind.u64.wrap i = i + 18446744073709551616 := by rw [IntKind.wrap_u64]; omega
    have h3 : IntKind.u64.wrap (-(IntKind.u64.wrap i)) = (i.natAbs : Int) := by rw [h2, IntKind.wrap_u64]; omega
    have H3 := Lib.hid h3
    clear h2 h3 h0 h1
    go_enter Tryz.func25, Tryz.ntmps25
    go_wp2_with fail
    go_ret
    exact ⟨ret_int H3.out, rfl⟩
  · have h3 : IntKind.u64.wrap i = (i.natAbs : Int) := by rw [IntKind.wrap_u64]; omega
    have H3 := Lib.hid h3
    have H4 : Hid (i = IntKind.u64.wrap i) := by show _ = _; rw [IntKind.wrap_u64]; omega
    clear h3 h0
    go_enter Tryz.func25, Tryz.ntmps25
    go_wp2_with fail
    go_ret
    exact ⟨ret_int (H4.out.trans H3.out), rfl⟩

/-- The amount of a product, its high and its low half. -/
def mulHi (a b : Int) : Int := ((a.natAbs * b.natAbs / 18446744073709551616 : Nat) : Int)
def mulLo (a b : Int) : Int := ((a.natAbs * b.natAbs % 18446744073709551616 : Nat) : Int)
def mulNeg (a b : Int) : Bool := (decide (a < 0) != decide (b < 0)) && !(mulHi a b == 0 && mulLo a b == 0)

theorem or_zero {hi lo : Int} (h0 : 0 ≤ hi) (h1 : hi < 18446744073709551616) (l0 : 0 ≤ lo) (l1 : lo < 18446744073709551616) : (!(hi == 0 && lo == 0)) = (bits .or .u64 hi lo != 0) := by
  rw [u64_or hi lo h0 h1 l0 l1]
  obtain ⟨x, rfl⟩ := Int.eq_ofNat_of_zero_le h0
  obtain ⟨y, rfl⟩ := Int.eq_ofNat_of_zero_le l0
  have e : (x ||| y = 0) ↔ x = 0 ∧ y = 0 := Nat.or_eq_zero_iff
  rw [Bool.eq_iff_iff]
  simp only [Bool.not_eq_true', Bool.and_eq_false_iff, beq_eq_false_iff_ne, bne_iff_ne, ne_eq, Int.toNat_natCast]
  omega
set_option maxHeartbeats 1000000 in
theorem times_any (a b : Int) (w : World) (h0 : -9223372036854775808 ≤ a) (h1 : a ≤ 9223372036854775807) (h2 : -9223372036854775808 ≤ b) (h3 : b ≤ 9223372036854775807) :
    Calls Tryz.prog 99 #[.int .i64 a, .int .i64 b] w fun e w' => e = .returned (.agg #[.bool (mulNeg a b), .int .u64 (mulHi a b), .int .u64 (mulLo a b)]) ∧ Below w.heap.size w w' := by
  have HA := Lib.hid (fun w => amount_any a w h0 h1)
  have HB := Lib.hid (fun w => amount_any b w h2 h3)
  have hA : a.natAbs < 18446744073709551616 := by omega
  have hB : b.natAbs < 18446744073709551616 := by omega
  have HM := Lib.hid (fun w => Tryz.bits_Mul64 a.natAbs b.natAbs hA hB w)
  have HN := Lib.hid (show mulNeg a b = ((decide (a < 0) != decide (b < 0)) && !(mulHi a b == 0 && mulLo a b == 0)) from rfl)
  have hhi := Lib.hid (show mulHi a b = ((a.natAbs * b.natAbs / 18446744073709551616 : Nat) : Int) from rfl)
  have hlo := Lib.hid (show mulLo a b = ((a.natAbs * b.natAbs % 18446744073709551616 : Nat) : Int) from rfl)
  clear h0 h1 h2 h3
  go_enter Tryz.func99, Tryz.ntmps99
  go_wp2_with fail
  refine (HA.out _).mono ?_
  rintro e w1 ⟨rfl, rfl⟩
  go_wp2_with fail
  refine (HB.out _).mono ?_
  rintro e w1 ⟨rfl, rfl⟩
  go_wp2_with fail
  refine (HM.out _).mono ?_
  rintro e w1 ⟨rfl, rfl⟩
  rw [← hhi.out, ← hlo.out]
  clear HA HB HM
  have hl0 : 0 ≤ mulLo a b := by rw [hlo.out]; omega
  have hh0 : 0 ≤ mulHi a b := by rw [hhi.out]; omega
  have hl1 : mulLo a b < 18446744073709551616 := by rw [hlo.out]; omega
  have hh1 : mulHi a b < 18446744073709551616 := by
    rw [hhi.out]
    have : a.natAbs * b.natAbs / 18446744073709551616 < 18446744073709551616 := by
      apply Nat.div_lt_of_lt_mul
      exact Nat.mul_lt_mul'' hA hB
    omega
  have Hor := Lib.hid (or_zero hh0 hh1 hl0 hl1)
  clear hA hB hl0 hl1 hh0 hh1
  generalize hH : mulHi a b = hi at *
  generalize hL : mulLo a b = lo at *
  have HH := Lib.hid hH
  have HL := Lib.hid hL
  clear hhi hlo hH hL
  by_cases ha : a < 0 <;> by_cases hb : b < 0
  · have da : decide (a < 0) = true := by simpa using ha
    have db : decide (b < 0) = true := by simpa using hb
    have HE := Lib.hid (show mulNeg a b = false by rw [HN.out, da, db]; simp)
    clear HN ha hb
    go_wp2_with fail
    refine bodyPost_ret (v := .agg #[.bool false, .int .u64 hi, .int .u64 lo]) (by simp [results, Tryz.results99, go_sem]) rfl ⟨by rw [HE.out, HH.out, HL.out], (Below.refl _ _).alloc (Nat.le_refl _) _⟩
  · have da : decide (a < 0) = true := by simpa using ha
    have db : decide (b < 0) = false := by simpa using hb
    have HE := Lib.hid (show mulNeg a b = (bits .or .u64 hi lo != 0) by rw [HN.out, Hor.out, da, db]; simp)
    clear HN ha hb
    go_wp2_with fail
    refine bodyPost_ret (v := .agg #[.bool (bits .or .u64 hi lo != 0), .int .u64 hi, .int .u64 lo]) (by simp [results, Tryz.results99, go_sem]) rfl ⟨by rw [HE.out, HH.out, HL.out], (Below.refl _ _).alloc (Nat.le_refl _) _⟩
  · have da : decide (a < 0) = false := by simpa using ha
    have db : decide (b < 0) = true := by simpa using hb
    have HE := Lib.hid (show mulNeg a b = (bits .or .u64 hi lo != 0) by rw [HN.out, Hor.out, da, db]; simp)
    clear HN ha hb
    go_wp2_with fail
    refine bodyPost_ret (v := .agg #[.bool (bits .or .u64 hi lo != 0), .int .u64 hi, .int .u64 lo]) (by simp [results, Tryz.results99, go_sem]) rfl ⟨by rw [HE.out, HH.out, HL.out], (Below.refl _ _).alloc (Nat.le_refl _) _⟩
  · have da : decide (a < 0) = false := by simpa using ha
    have db : decide (b < 0) = false := by simpa using hb
    have HE := Lib.hid (show mulNeg a b = false by rw [HN.out, da, db]; simp)
    clear HN ha hb
    go_wp2_with fail
    refine bodyPost_ret (v := .agg #[.bool false, .int .u64 hi, .int .u64 lo]) (by simp [results, Tryz.results99, go_sem]) rfl ⟨by rw [HE.out, HH.out, HL.out], (Below.refl _ _).alloc (Nat.le_refl _) _⟩

end Go.Proofs.YtokbdleokihdaaaGreatDoor

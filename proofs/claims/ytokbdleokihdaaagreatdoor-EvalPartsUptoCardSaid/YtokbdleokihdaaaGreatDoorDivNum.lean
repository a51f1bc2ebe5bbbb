/- Numbers behind bits.Div64: the divisor's leading noughts, the halves shifted. No program in sight. -/
import Derived.Lib.BitFns
import Derived.Laws.BitsAllLaws
import Derived.Laws.BitsLemmas
import Derived.IntWalk
namespace Go.Proofs.YtokbdleokihdaaaGreatDoor

theorem bla_bd : ∀ (f x : Nat), x < 2 ^ f → x ≠ 0 → 2 ^ (Lib.bitLenAux f x - 1) ≤ x ∧ x < 2 ^ Lib.bitLenAux f x ∧ Lib.bitLenAux f x ≤ f ∧ 1 ≤ Lib.bitLenAux f x
  | 0, x, h, h0 => by simp at h; omega
  | f + 1, x, h, h0 => by
    unfold Lib.bitLenAux
    rw [if_neg h0]
    by_cases h1 : x / 2 = 0
    · have hx : x = 1 := by omega
      have hb : Lib.bitLenAux f (x / 2) = 0 := by
        rw [h1]; cases f <;> simp [Lib.bitLenAux]
      rw [hb, hx]; simp
    · have ih := bla_bd f (x / 2) (by rw [Nat.pow_succ] at h; omega) h1
      obtain ⟨a, b, c, d⟩ := ih
      obtain ⟨k, hk⟩ : ∃ k, Lib.bitLenAux f (x / 2) = k + 1 := ⟨_, (Nat.sub_add_cancel d).symm⟩
      rw [hk] at a b c ⊢
      rw [show 1 + (k + 1) - 1 = k + 1 by omega, show 1 + (k + 1) = (k + 1) + 1 by omega, Nat.pow_succ 2 (k + 1)]
      rw [Nat.add_sub_cancel] at a
      rw [Nat.pow_succ] at b
      rw [Nat.pow_succ]
      omega
theorem lz_bd {y : Nat} (h0 : 0 < y) (h : y < 18446744073709551616) : ∃ s : Nat, s < 64 ∧ Lib.bitLen y + s = 64 ∧ 9223372036854775808 ≤ y * 2 ^ s ∧ y * 2 ^ s < 18446744073709551616 := by
  obtain ⟨a, b, c, d⟩ := bla_bd 64 y (by simpa using h) (by omega)
  refine ⟨64 - Lib.bitLen y, ?_, ?_, ?_, ?_⟩
  · unfold Lib.bitLen; omega
  · unfold Lib.bitLen; omega
  · unfold Lib.bitLen
    calc 9223372036854775808 = 2 ^ 63 := by decide
      _ = 2 ^ (Lib.bitLenAux 64 y - 1) * 2 ^ (64 - Lib.bitLenAux 64 y) := by rw [← Nat.pow_add]; congr 1; omega
      _ ≤ y * 2 ^ (64 - Lib.bitLenAux 64 y) := Nat.mul_le_mul_right _ a
  · unfold Lib.bitLen
    calc y * 2 ^ (64 - Lib.bitLenAux 64 y) < 2 ^ Lib.bitLenAux 64 y * 2 ^ (64 - Lib.bitLenAux 64 y) := Nat.mul_lt_mul_of_pos_right b (Nat.two_pow_pos _)
      _ = 2 ^ 64 := by rw [← Nat.pow_add]; congr 1; omega
      _ = 18446744073709551616 := by decide
theorem and_low (n : Nat) (h : n < 18446744073709551616) : bits .and .u64 (n : Int) 4294967295 = ((n % 4294967296 : Nat) : Int) := by
  rw [show (4294967295 : Int) = ((4294967295 : Nat) : Int) from rfl, u64_and_nat n 4294967295 h (by decide)]
  congr 1
  exact Nat.and_two_pow_sub_one_eq_mod n 32
theorem or_parts (a b s : Nat) (hb : b < 2 ^ s) (ha : a * 2 ^ s + b < 18446744073709551616) : bits .or .u64 ((a * 2 ^ s : Nat) : Int) (b : Int) = ((a * 2 ^ s + b : Nat) : Int) := by
  rw [u64_or_nat _ _ (by omega) (by omega)]
  congr 1
  rw [Nat.mul_comm, ← Nat.two_pow_add_eq_or_of_lt hb]
end Go.Proofs.YtokbdleokihdaaaGreatDoor

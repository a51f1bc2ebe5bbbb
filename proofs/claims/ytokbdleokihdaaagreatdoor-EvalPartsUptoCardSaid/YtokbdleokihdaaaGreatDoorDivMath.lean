/- The plain law behind bits.Div64: one step of the long division in halves of 64 bits. No program in sight. -/
namespace Go.Proofs.YtokbdleokihdaaaGreatDoor

/-- The highest first digit: by the high half of the divisor, at most two too great. -/
theorem qhat_le {u1 y yn1 yn0 : Nat} (hy : y = yn1 * 4294967296 + yn0) (h0 : yn0 < 4294967296) (h1 : 2147483648 ≤ yn1) (hu : u1 < y) : u1 / yn1 ≤ 4294967297 := by
  have h2 : u1 < (4294967297 + 1) * yn1 := by
    have : y < yn1 * 4294967296 + 4294967296 := by omega
    omega
  have := Nat.div_lt_of_lt_mul (m := u1) (n := yn1) (k := 4294967297 + 1) (by rw [Nat.mul_comm]; exact h2)
  omega
/-- The true digit. -/
def dig (u1 u0 y : Nat) : Nat := (u1 * 4294967296 + u0) / y
theorem dig_lt {u1 u0 y : Nat} (hu : u1 < y) (h0 : u0 < 4294967296) : dig u1 u0 y < 4294967296 := by
  unfold dig
  apply Nat.div_lt_of_lt_mul
  have : u1 + 1 ≤ y := hu
  have := Nat.mul_le_mul_right 4294967296 this
  omega
/-- The digit is at most the guess. -/
theorem dig_le_guess {u1 u0 y yn1 yn0 : Nat} (hy : y = yn1 * 4294967296 + yn0) (h1 : 0 < yn1) (h0 : u0 < 4294967296) : dig u1 u0 y ≤ u1 / yn1 := by
  unfold dig
  have h2 : yn1 * 4294967296 ≤ y := by omega
  have h3 : (u1 * 4294967296 + u0) / y ≤ (u1 * 4294967296 + u0) / (yn1 * 4294967296) := Nat.div_le_div_left h2 (by omega)
  have h4 : (u1 * 4294967296 + u0) / (yn1 * 4294967296) = u1 / yn1 := by
    rw [Nat.mul_comm yn1, ← Nat.div_div_eq_div_mul]
    congr 1
    omega
  omega
/-- A guess that is refused is too great. -/
theorem guess_down {q rhat u1 u0 y yn1 yn0 : Nat} (hy : y = yn1 * 4294967296 + yn0) (_hy0 : 0 < y) (hq : u1 = q * yn1 + rhat) (h0 : u0 < 4294967296) (hd : dig u1 u0 y ≤ q) (hu : u1 < y)
    (hc : 4294967296 ≤ q ∨ 4294967296 * rhat + u0 < q * yn0) : dig u1 u0 y ≤ q - 1 ∧ 1 ≤ q := by
  have hl := dig_lt hu h0
  rcases hc with hc | hc
  · omega
  · have h5 : u1 * 4294967296 + u0 < q * y := by
      rw [hy, hq, Nat.mul_add, ← Nat.mul_assoc, Nat.add_mul]; omega
    have : dig u1 u0 y < q := by
      unfold dig
      exact Nat.div_lt_of_lt_mul (show u1 * 4294967296 + u0 < y * q by rw [Nat.mul_comm y q]; exact h5)
    omega
/-- A guess that is kept is the digit. -/
theorem guess_kept {q rhat u1 u0 y yn1 yn0 : Nat} (hy : y = yn1 * 4294967296 + yn0) (hy0 : 0 < y) (hq : u1 = q * yn1 + rhat) (hd : dig u1 u0 y ≤ q) (hc : q * yn0 ≤ 4294967296 * rhat + u0) : q = dig u1 u0 y := by
  have h5 : q * y ≤ u1 * 4294967296 + u0 := by
    rw [hy, hq, Nat.mul_add, ← Nat.mul_assoc, Nat.add_mul]; omega
  have : q ≤ dig u1 u0 y := by
    unfold dig
    exact (Nat.le_div_iff_mul_le hy0).2 h5
  omega
/-- A guess whose rest has grown past its half is the digit. -/
theorem guess_over {q rhat u1 u0 y yn1 yn0 : Nat} (hy : y = yn1 * 4294967296 + yn0) (hy0 : 0 < y) (h0 : yn0 < 4294967296) (hq : u1 = q * yn1 + rhat) (hd : dig u1 u0 y ≤ q) (hq2 : q ≤ 4294967297) (hr : 4294967296 ≤ rhat) : q = dig u1 u0 y := by
  refine guess_kept hy hy0 hq hd ?_
  have h1 : q * yn0 ≤ 4294967297 * 4294967295 := Nat.mul_le_mul hq2 (by omega)
  omega
/-- The rest behind the digit. -/
theorem dig_rest {u1 u0 y : Nat} (hy : 0 < y) : u1 * 4294967296 + u0 - dig u1 u0 y * y = (u1 * 4294967296 + u0) % y ∧ dig u1 u0 y * y ≤ u1 * 4294967296 + u0 ∧ (u1 * 4294967296 + u0) % y < y := by
  unfold dig
  have h1 := Nat.div_add_mod (u1 * 4294967296 + u0) y
  have h2 := Nat.mod_lt (u1 * 4294967296 + u0) hy
  rw [Nat.mul_comm] at h1
  omega
theorem two_digs_any (B u un1 un0 y : Nat) (hy : 0 < y) :
    ((u * B + un1) / y) * B + ((u * B + un1) % y * B + un0) / y = (u * (B * B) + un1 * B + un0) / y := by
  have a := Nat.div_add_mod (u * B + un1) y
  have b := Nat.div_add_mod ((u * B + un1) % y * B + un0) y
  have c := Nat.mod_lt ((u * B + un1) % y * B + un0) hy
  generalize (u * B + un1) / y = d1 at *
  generalize (u * B + un1) % y = r1 at *
  generalize (r1 * B + un0) / y = d0 at *
  generalize (r1 * B + un0) % y = r0 at *
  have e : u * (B * B) + un1 * B + un0 = y * (d1 * B + d0) + r0 := by
    calc u * (B * B) + un1 * B + un0 = (u * B + un1) * B + un0 := by rw [Nat.add_mul, Nat.mul_assoc]
      _ = (y * d1 + r1) * B + un0 := by rw [a]
      _ = y * d1 * B + (r1 * B + un0) := by rw [Nat.add_mul]; omega
      _ = y * d1 * B + (y * d0 + r0) := by rw [b]
      _ = y * (d1 * B + d0) + r0 := by rw [Nat.mul_add, ← Nat.mul_assoc]; omega
  rw [e, Nat.mul_add_div hy, Nat.div_eq_of_lt c]
  omega
/-- Two digits are the quotient. -/
theorem two_digs {u un1 un0 y : Nat} (hy : 0 < y) :
    dig u un1 y * 4294967296 + dig ((u * 4294967296 + un1) % y) un0 y = (u * (4294967296 * 4294967296) + un1 * 4294967296 + un0) / y :=
  two_digs_any 4294967296 u un1 un0 y hy
/-- Shifted, the quotient is the same. -/
theorem shl_div (n y p : Nat) (hp : 0 < p) : n * p / (y * p) = n / y := Nat.mul_div_mul_right n y hp
end Go.Proofs.YtokbdleokihdaaaGreatDoor

/- Contract of bits.Div64 wherever it does not panic: the quotient. -/
import Derived.Test.YtokbdleokihdaaaGreatDoorDiv64
import Derived.Test.YtokbdleokihdaaaGreatDoorDivNum
import Derived.Test.YtokbdleokihdaaaGreatDoorG02
namespace Go.Proofs.YtokbdleokihdaaaGreatDoor
open Go.RowKit

theorem halves (n : Nat) : n / 4294967296 * 4294967296 + n % 4294967296 = n := by omega
set_option maxRecDepth 100000 in
theorem div64_any (hi lo y : Nat) (hy : hi < y) (hlo : lo < 18446744073709551616) (hyy : y < 18446744073709551616) (w : World) :
    Calls Tryz.prog 110 #[.int .u64 hi, .int .u64 lo, .int .u64 y] w fun e w' => ∃ q r : Int, e = .returned (.tuple #[.int .u64 q, .int .u64 r]) ∧ q = ((hi * 18446744073709551616 + lo) / y : Nat) ∧ Below w.heap.size w w' := by
  by_cases hh : hi = 0
  · subst hh
    refine (div64_low lo y (by omega) hlo hyy w).mono ?_
    rintro e w' ⟨rfl, hb⟩
    exact ⟨_, _, rfl, by simp, hb⟩
  · obtain ⟨s, hs, hls, hY0, hY1⟩ := lz_bd (y := y) (by omega) hyy
    obtain ⟨P, hP⟩ : ∃ P : Nat, P = 2 ^ s := ⟨_, rfl⟩
    obtain ⟨R, hR⟩ : ∃ R : Nat, R = 2 ^ (64 - s) := ⟨_, rfl⟩
    have hPR : P * R = 18446744073709551616 := by rw [hP, hR, ← Nat.pow_add, show s + (64 - s) = 64 by omega]
    have hPi : ((2 : Int) ^ s) = (P : Int) := by rw [hP]; simp
    have hRi : ((2 : Int) ^ (64 - s)) = (R : Int) := by rw [hR]; simp
    have hP0 : 0 < P := by rw [hP]; exact Nat.two_pow_pos _
    have hR0 : 0 < R := by rw [hR]; exact Nat.two_pow_pos _
    rw [← hP] at hY0 hY1
    have hhP : hi * P + P ≤ y * P := by
      have := Nat.mul_le_mul_right P (show hi + 1 ≤ y from hy)
      rw [Nat.add_mul] at this; omega
    -- the low half's high part
    have hloR : lo / R < P := Nat.div_lt_of_lt_mul (by rw [Nat.mul_comm, hPR]; exact hlo)
    have hlow : lo * P = lo / R * 18446744073709551616 + lo % R * P := by
      have := Nat.div_add_mod lo R
      calc lo * P = (R * (lo / R) + lo % R) * P := by rw [this]
        _ = lo / R * (P * R) + lo % R * P := by rw [Nat.add_mul, Nat.mul_comm R, Nat.mul_assoc, Nat.mul_comm R]
        _ = _ := by rw [hPR]
    have hlm : lo % R * P < 18446744073709551616 := by
      rw [← hPR, Nat.mul_comm P R]; exact Nat.mul_lt_mul_of_pos_right (Nat.mod_lt _ hR0) hP0
    obtain ⟨un10, hun⟩ : ∃ u : Nat, u = lo % R * P := ⟨_, rfl⟩
    rw [← hun] at hlow hlm
    obtain ⟨u32, hu32⟩ : ∃ u : Nat, u = hi * P + lo / R := ⟨_, rfl⟩
    have hbig : (hi * 18446744073709551616 + lo) * P = u32 * 18446744073709551616 + un10 := by
      rw [Nat.add_mul, hlow, hu32, Nat.add_mul, Nat.mul_right_comm]; omega
    have E4 : bits .or .u64 (IntKind.u64.wrap ((hi : Int) * 2 ^ s)) ((lo : Int) / 2 ^ (64 - s)) = (u32 : Int) := by
      rw [hPi, hRi, ← Int.natCast_mul, ← Int.natCast_ediv]
      have hw : IntKind.u64.wrap ((hi * P : Nat) : Int) = ((hi * P : Nat) : Int) := by rw [IntKind.wrap_u64]; omega
      rw [hw, hP, or_parts hi (lo / R) s (by rw [← hP]; exact hloR) (by rw [← hP]; omega), hu32, hP]
    refine (div64_core hi lo y s (y * P) (y * P / 4294967296) (y * P % 4294967296) u32 un10 (un10 / 4294967296) (un10 % 4294967296) w (fun w => ?_) (by omega) hy hs (by omega) hY1 (by omega) (by omega) (by omega) (by omega) (by omega) ?_ ?_ ?_ E4 ?_ ?_ ?_).mono ?_
    · refine (Tryz.bits_LeadingZeros64 (y : Int) w (by omega) (by omega)).mono ?_
      rintro e w' ⟨rfl, rfl⟩
      refine ⟨ret_int ?_, rfl⟩
      simp only [Int.toNat_natCast]
      omega
    · rw [hPi, ← Int.natCast_mul, IntKind.wrap_u64]; omega
    · omega
    · exact and_low _ hY1
    · rw [hPi, ← Int.natCast_mul, hlow, IntKind.wrap_u64]; omega
    · omega
    · exact and_low _ hlm
    · rintro e w' ⟨q, r, rfl, hq, hb⟩
      refine ⟨q, r, rfl, ?_, hb⟩
      rw [hq, ← shl_div (hi * 18446744073709551616 + lo) y P hP0, hbig]
      have h2 := halves un10
      have : u32 * (4294967296 * 4294967296) + un10 / 4294967296 * 4294967296 + un10 % 4294967296 = u32 * 18446744073709551616 + un10 := by
        rw [Nat.add_assoc, h2]
      rw [← this]
end Go.Proofs.YtokbdleokihdaaaGreatDoor

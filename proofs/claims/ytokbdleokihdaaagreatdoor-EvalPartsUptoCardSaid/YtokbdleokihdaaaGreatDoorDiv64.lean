/- Contract of bits.Div64 where the high half is not 0: the quotient and the rest. -/
import Derived.Test.YtokbdleokihdaaaGreatDoorG06
import Derived.Deep.CutRange
import Derived.Deep.CutBlock
import Derived.Deep.DeepCutAuto
import Derived.Deep.LoopGhost
namespace Go.Proofs.YtokbdleokihdaaaGreatDoor
open Go.RowKit

set_option maxRecDepth 100000 in
set_option maxHeartbeats 4000000 in
/-- The walk, over the shifted halves under names of their own. -/
theorem div64_core (hi lo y s Y yn1 yn0 u32 un10 un1 un0 : Nat) (w : World) (HL : ∀ w, Calls Tryz.prog 115 #[.int .u64 (y : Int)] w fun e w' => e = .returned (.int .i64 (s : Int)) ∧ w' = w)
    (hh : 0 < hi) (hy : hi < y) (hs : s < 64) (hY : Y = yn1 * 4294967296 + yn0) (hY1 : Y < 18446744073709551616) (hn1 : 2147483648 ≤ yn1) (hn0 : yn0 < 4294967296) (hu : u32 < Y) (h1 : un1 < 4294967296) (h0 : un0 < 4294967296)
    (e1 : IntKind.u64.wrap ((y : Int) * 2 ^ s) = (Y : Int)) (e2 : (Y : Int) / 4294967296 = (yn1 : Int)) (e3 : bits .and .u64 (Y : Int) 4294967295 = (yn0 : Int))
    (e4 : bits .or .u64 (IntKind.u64.wrap ((hi : Int) * 2 ^ s)) ((lo : Int) / 2 ^ (64 - s)) = (u32 : Int)) (e5 : IntKind.u64.wrap ((lo : Int) * 2 ^ s) = (un10 : Int)) (e6 : (un10 : Int) / 4294967296 = (un1 : Int)) (e7 : bits .and .u64 (un10 : Int) 4294967295 = (un0 : Int)) :
    Calls Tryz.prog 110 #[.int .u64 hi, .int .u64 lo, .int .u64 y] w fun e w' => ∃ q r : Int, e = .returned (.tuple #[.int .u64 q, .int .u64 r]) ∧ q = ((u32 * (4294967296 * 4294967296) + un1 * 4294967296 + un0) / Y : Nat) ∧ Below w.heap.size w w' := by
  have b0 : ((y : Int) == 0) = false := by simp; omega
  have b2 : decide ((y : Int) ≤ (hi : Int)) = false := by simp; omega
  have b3 : ((hi : Int) == 0) = false := by simp; omega
  have hs64 : (s : Int) < 64 := by omega
  have hn1' : (1 : Int) ≤ (yn1 : Int) := by omega
  have HLL := Lib.hid HL
  have HY := Lib.hid hY
  have hy32 : yn1 < 4294967296 := by omega
  have hY0 : 0 < Y := by omega
  -- the first guess
  obtain ⟨q1, hq1⟩ : ∃ q : Nat, q = u32 / yn1 := ⟨_, rfl⟩
  obtain ⟨p1, hp1⟩ : ∃ p : Nat, p = q1 * yn1 := ⟨_, rfl⟩
  have hq1le : q1 ≤ 4294967297 := by rw [hq1]; exact qhat_le hY hn0 hn1 hu
  have hdm := Nat.div_add_mod u32 yn1
  have hml := Nat.mod_lt u32 (show 0 < yn1 by omega)
  rw [← hq1, Nat.mul_comm, ← hp1] at hdm
  obtain ⟨r1, hr1⟩ : ∃ r : Nat, r = u32 % yn1 := ⟨_, rfl⟩
  rw [← hr1] at hdm hml
  have e8 : IntKind.u64.wrap ((u32 : Int) / (yn1 : Int)) = (q1 : Int) := by rw [← Int.natCast_ediv, ← hq1, IntKind.wrap_u64]; omega
  have e9 : IntKind.u64.wrap ((q1 : Int) * (yn1 : Int)) = (p1 : Int) := by rw [← Int.natCast_mul, ← hp1, IntKind.wrap_u64]; omega
  have e10 : (u32 : Int) - (p1 : Int) = (r1 : Int) := by omega
  have hpu : p1 ≤ u32 := by omega
  have HD1 := Lib.hid (show dig u32 un1 Y ≤ q1 by rw [hq1]; exact dig_le_guess hY (by omega) h1)
  have HQ1 := Lib.hid (show u32 = q1 * yn1 + r1 by rw [← hp1]; omega)
  have hr1lt : r1 < 4294967296 := by omega
  clear HL hY hdm hml hr1 hq1 hp1
  go_enter Tryz.func110, Tryz.ntmps110
  go_wp2_with fail
  refine (HLL.out _).mono ?_
  rintro e w1 ⟨rfl, rfl⟩
  clear HLL
  go_upto_block 0 with fail
  go_cut [15, 16] from 67 to 85 (fun q _ wx => q = .int .u64 (dig u32 un1 Y) ∧ w1 = wx)
  case first =>
    clear e1 e2 e3 e4 e5 e6 e7 e8 e9 e10 hpu b0 b2 b3
    go_wp2_with fail
    go_loopg [15, 16] q1 (fun g q r wx => ∃ (qn rn : Nat), g = qn ∧ q = .int .u64 qn ∧ r = .int .u64 rn ∧ Hid (u32 = qn * yn1 + rn) ∧ Hid (dig u32 un1 Y ≤ qn) ∧ qn ≤ 4294967297 ∧ rn < 4294967296 ∧ w1 = wx)
    case atStart => exact ⟨q1, r1, rfl, rfl, rfl, HQ1, HD1, hq1le, hr1lt, rfl⟩
    case round =>
      obtain ⟨qn, rn, hgq, rfl, rfl, HQ, HD, hq, hr, rfl⟩ := hrel
      obtain rfl : qn = gk := hgq.symm
      obtain ⟨m, hm⟩ : ∃ m : Nat, m = qn * yn0 := ⟨_, rfl⟩
      have hmb : m ≤ 4294967297 * 4294967295 := by rw [hm]; exact Nat.mul_le_mul hq (by omega)
      have em : IntKind.u64.wrap ((qn : Int) * (yn0 : Int)) = (m : Int) := by rw [← Int.natCast_mul, ← hm, IntKind.wrap_u64]; omega
      have HM := Lib.hid hm
      clear hm
      by_cases c1 : 4294967296 ≤ qn
      · have c1' : (4294967296 : Int) ≤ (qn : Int) := by omega
        have c1b : decide ((4294967296 : Int) ≤ (qn : Int)) = true := by simpa using c1'
        have HC : Hid (4294967296 ≤ qn ∨ 4294967296 * rn + un1 < qn * yn0) := Or.inl c1
        have hdn := guess_down HY.out hY0 HQ.out h1 HD.out hu HC.out
        have HDN := Lib.hid hdn.1
        have hq1' : 1 ≤ qn := hdn.2
        obtain ⟨qs, hqs⟩ : ∃ qs : Nat, qs = qn - 1 := ⟨_, rfl⟩
        obtain ⟨rs, hrs⟩ : ∃ rs : Nat, rs = rn + yn1 := ⟨_, rfl⟩
        have em1 : (qn : Int) - 1 = (qs : Int) := by omega
        have er1 : (rn : Int) + (yn1 : Int) = (rs : Int) := by omega
        have HQN := Lib.hid (show u32 = qs * yn1 + rs by
          have hx := HQ.out
          obtain ⟨k, rfl⟩ : ∃ k, qn = k + 1 := ⟨qn - 1, by omega⟩
          rw [hx, hqs, hrs, Nat.add_mul]; simp; omega)
        rw [← hqs] at HDN
        have hqs1 : qs < qn := by omega
        have hqs2 : qs ≤ 4294967297 := by omega
        have hrb : rs < 18446744073709551616 := by omega
        clear hdn hqs hrs
        by_cases c2 : 4294967296 ≤ rs
        · have c2' : (4294967296 : Int) ≤ (rs : Int) := by omega
          go_wp2_with fail
          go_meet
          case rel => exact ⟨by rw [guess_over HY.out hY0 hn0 HQN.out HDN.out hqs2 c2], rfl⟩
        · have c2' : ¬ (4294967296 : Int) ≤ (rs : Int) := by omega
          go_wp2_with fail
          go_roundg qs
          case measure => omega
          case rel => exact ⟨qs, rs, rfl, rfl, rfl, HQN.out, HDN.out, hqs2, by omega, rfl⟩
      · have c1' : ¬ (4294967296 : Int) ≤ (qn : Int) := by omega
        have c1b : decide ((4294967296 : Int) ≤ (qn : Int)) = false := by simpa using c1'
        by_cases c3 : 4294967296 * rn + un1 < m
        · have c3' : (4294967296 : Int) * (rn : Int) + (un1 : Int) < (m : Int) := by omega
          have HC : Hid (4294967296 ≤ qn ∨ 4294967296 * rn + un1 < qn * yn0) := Or.inr (by rw [← HM.out]; exact c3)
          have hdn := guess_down HY.out hY0 HQ.out h1 HD.out hu HC.out
          have HDN := Lib.hid hdn.1
          have hq1' : 1 ≤ qn := hdn.2
          obtain ⟨qs, hqs⟩ : ∃ qs : Nat, qs = qn - 1 := ⟨_, rfl⟩
          obtain ⟨rs, hrs⟩ : ∃ rs : Nat, rs = rn + yn1 := ⟨_, rfl⟩
          have em1 : (qn : Int) - 1 = (qs : Int) := by omega
          have er1 : (rn : Int) + (yn1 : Int) = (rs : Int) := by omega
          have HQN := Lib.hid (show u32 = qs * yn1 + rs by
            have hx := HQ.out
            obtain ⟨k, rfl⟩ : ∃ k, qn = k + 1 := ⟨qn - 1, by omega⟩
            rw [hx, hqs, hrs, Nat.add_mul]; simp; omega)
          rw [← hqs] at HDN
          have hqs1 : qs < qn := by omega
          have hqs2 : qs ≤ 4294967297 := by omega
          have hrb : rs < 18446744073709551616 := by omega
          clear hdn hqs hrs
          by_cases c2 : 4294967296 ≤ rs
          · have c2' : (4294967296 : Int) ≤ (rs : Int) := by omega
            go_wp2_with fail
            go_meet
            case rel => exact ⟨by rw [guess_over HY.out hY0 hn0 HQN.out HDN.out hqs2 c2], rfl⟩
          · have c2' : ¬ (4294967296 : Int) ≤ (rs : Int) := by omega
            go_wp2_with fail
            go_roundg qs
            case measure => omega
            case rel => exact ⟨qs, rs, rfl, rfl, rfl, HQN.out, HDN.out, hqs2, by omega, rfl⟩
        · have c3' : ¬ (4294967296 : Int) * (rn : Int) + (un1 : Int) < (m : Int) := by omega
          go_wp2_with fail
          go_meet
          case rel => exact ⟨by rw [guess_kept HY.out hY0 HQ.out HD.out (by have := HM.out; omega)], rfl⟩
  case rest =>
    obtain ⟨rfl, rfl⟩ := hcut
    clear e8 e9 e10 hpu HD1 HQ1 hr1lt hq1le
    have DR := dig_rest (u1 := u32) (u0 := un1) hY0
    have HT := Lib.hid (two_digs (u := u32) (un1 := un1) (un0 := un0) hY0)
    generalize hd1 : dig u32 un1 Y = d1 at *
    obtain ⟨u21, hu21⟩ : ∃ u : Nat, u = (u32 * 4294967296 + un1) % Y := ⟨_, rfl⟩
    rw [← hu21] at DR HT
    obtain ⟨P1, hP1⟩ : ∃ p : Nat, p = d1 * Y := ⟨_, rfl⟩
    rw [← hP1] at DR
    obtain ⟨dr1, dr2, dr3⟩ := DR
    have hd1lt : d1 < 4294967296 := by rw [← hd1]; exact dig_lt hu h1
    -- the arithmetic of the second half, modulo 2^64
    have f1 : IntKind.u64.wrap (IntKind.u64.wrap (IntKind.u64.wrap ((u32 : Int) * 4294967296) + (un1 : Int)) - IntKind.u64.wrap ((d1 : Int) * (Y : Int))) = (u21 : Int) := by
      rw [← Int.natCast_mul d1 Y, ← hP1]
      simp only [IntKind.wrap_u64]
      omega
    clear dr1 dr2 hd1 hu21 hP1
    obtain ⟨q2, hq2⟩ : ∃ q : Nat, q = u21 / yn1 := ⟨_, rfl⟩
    obtain ⟨p2, hp2⟩ : ∃ p : Nat, p = q2 * yn1 := ⟨_, rfl⟩
    have hq2le : q2 ≤ 4294967297 := by rw [hq2]; exact qhat_le HY.out hn0 hn1 dr3
    have hdm := Nat.div_add_mod u21 yn1
    have hml := Nat.mod_lt u21 (show 0 < yn1 by omega)
    rw [← hq2, Nat.mul_comm, ← hp2] at hdm
    obtain ⟨r2, hr2⟩ : ∃ r : Nat, r = u21 % yn1 := ⟨_, rfl⟩
    rw [← hr2] at hdm hml
    have f8 : IntKind.u64.wrap ((u21 : Int) / (yn1 : Int)) = (q2 : Int) := by rw [← Int.natCast_ediv, ← hq2, IntKind.wrap_u64]; omega
    have f9 : IntKind.u64.wrap ((q2 : Int) * (yn1 : Int)) = (p2 : Int) := by rw [← Int.natCast_mul, ← hp2, IntKind.wrap_u64]; omega
    have f10 : (u21 : Int) - (p2 : Int) = (r2 : Int) := by omega
    have hpu2 : p2 ≤ u21 := by omega
    have HD2 := Lib.hid (show dig u21 un0 Y ≤ q2 by rw [hq2]; exact dig_le_guess HY.out (by omega) h0)
    have HQ2 := Lib.hid (show u21 = q2 * yn1 + r2 by rw [← hp2]; omega)
    have hr2lt : r2 < 4294967296 := by omega
    clear hdm hml hr2 hq2 hp2
    go_upto_block 2 with fail
    go_cut [16, 18] from 102 to 120 (fun _ q wx => q = .int .u64 (dig u21 un0 Y) ∧ w1 = wx)
    case first =>
      clear e1 e2 e3 e4 e5 e6 e7 f1 f8 f9 f10 hpu2 b0 b2 b3
      go_wp2_with fail
      go_loopg [16, 18] q2 (fun g r q wx => ∃ (qn rn : Nat), g = qn ∧ q = .int .u64 qn ∧ r = .int .u64 rn ∧ Hid (u21 = qn * yn1 + rn) ∧ Hid (dig u21 un0 Y ≤ qn) ∧ qn ≤ 4294967297 ∧ rn < 4294967296 ∧ w1 = wx)
      case atStart => exact ⟨q2, r2, rfl, rfl, rfl, HQ2, HD2, hq2le, hr2lt, rfl⟩
      case round =>
        obtain ⟨qn, rn, hgq, rfl, rfl, HQ, HD, hq, hr, rfl⟩ := hrel
        obtain rfl : qn = gk := hgq.symm
        obtain ⟨m, hm⟩ : ∃ m : Nat, m = qn * yn0 := ⟨_, rfl⟩
        have hmb : m ≤ 4294967297 * 4294967295 := by rw [hm]; exact Nat.mul_le_mul hq (by omega)
        have em : IntKind.u64.wrap ((qn : Int) * (yn0 : Int)) = (m : Int) := by rw [← Int.natCast_mul, ← hm, IntKind.wrap_u64]; omega
        have HM := Lib.hid hm
        clear hm
        by_cases c1 : 4294967296 ≤ qn
        · have c1' : (4294967296 : Int) ≤ (qn : Int) := by omega
          have c1b : decide ((4294967296 : Int) ≤ (qn : Int)) = true := by simpa using c1'
          have HC : Hid (4294967296 ≤ qn ∨ 4294967296 * rn + un0 < qn * yn0) := Or.inl c1
          have hdn := guess_down HY.out hY0 HQ.out h0 HD.out dr3 HC.out
          have HDN := Lib.hid hdn.1
          have hq1' : 1 ≤ qn := hdn.2
          obtain ⟨qs, hqs⟩ : ∃ qs : Nat, qs = qn - 1 := ⟨_, rfl⟩
          obtain ⟨rs, hrs⟩ : ∃ rs : Nat, rs = rn + yn1 := ⟨_, rfl⟩
          have em1 : (qn : Int) - 1 = (qs : Int) := by omega
          have er1 : (rn : Int) + (yn1 : Int) = (rs : Int) := by omega
          have HQN := Lib.hid (show u21 = qs * yn1 + rs by
            have hx := HQ.out
            obtain ⟨k, rfl⟩ : ∃ k, qn = k + 1 := ⟨qn - 1, by omega⟩
            rw [hx, hqs, hrs, Nat.add_mul]; simp; omega)
          rw [← hqs] at HDN
          have hqs1 : qs < qn := by omega
          have hqs2 : qs ≤ 4294967297 := by omega
          have hrb : rs < 18446744073709551616 := by omega
          clear hdn hqs hrs
          by_cases c2 : 4294967296 ≤ rs
          · have c2' : (4294967296 : Int) ≤ (rs : Int) := by omega
            go_wp2_with fail
            go_meet
            case rel => exact ⟨by rw [guess_over HY.out hY0 hn0 HQN.out HDN.out hqs2 c2], rfl⟩
          · have c2' : ¬ (4294967296 : Int) ≤ (rs : Int) := by omega
            go_wp2_with fail
            go_roundg qs
            case measure => omega
            case rel => exact ⟨qs, rs, rfl, rfl, rfl, HQN.out, HDN.out, hqs2, by omega, rfl⟩
        · have c1' : ¬ (4294967296 : Int) ≤ (qn : Int) := by omega
          have c1b : decide ((4294967296 : Int) ≤ (qn : Int)) = false := by simpa using c1'
          by_cases c3 : 4294967296 * rn + un0 < m
          · have c3' : (4294967296 : Int) * (rn : Int) + (un0 : Int) < (m : Int) := by omega
            have HC : Hid (4294967296 ≤ qn ∨ 4294967296 * rn + un0 < qn * yn0) := Or.inr (by rw [← HM.out]; exact c3)
            have hdn := guess_down HY.out hY0 HQ.out h0 HD.out dr3 HC.out
            have HDN := Lib.hid hdn.1
            have hq1' : 1 ≤ qn := hdn.2
            obtain ⟨qs, hqs⟩ : ∃ qs : Nat, qs = qn - 1 := ⟨_, rfl⟩
            obtain ⟨rs, hrs⟩ : ∃ rs : Nat, rs = rn + yn1 := ⟨_, rfl⟩
            have em1 : (qn : Int) - 1 = (qs : Int) := by omega
            have er1 : (rn : Int) + (yn1 : Int) = (rs : Int) := by omega
            have HQN := Lib.hid (show u21 = qs * yn1 + rs by
              have hx := HQ.out
              obtain ⟨k, rfl⟩ : ∃ k, qn = k + 1 := ⟨qn - 1, by omega⟩
              rw [hx, hqs, hrs, Nat.add_mul]; simp; omega)
            rw [← hqs] at HDN
            have hqs1 : qs < qn := by omega
            have hqs2 : qs ≤ 4294967297 := by omega
            have hrb : rs < 18446744073709551616 := by omega
            clear hdn hqs hrs
            by_cases c2 : 4294967296 ≤ rs
            · have c2' : (4294967296 : Int) ≤ (rs : Int) := by omega
              go_wp2_with fail
              go_meet
              case rel => exact ⟨by rw [guess_over HY.out hY0 hn0 HQN.out HDN.out hqs2 c2], rfl⟩
            · have c2' : ¬ (4294967296 : Int) ≤ (rs : Int) := by omega
              go_wp2_with fail
              go_roundg qs
              case measure => omega
              case rel => exact ⟨qs, rs, rfl, rfl, rfl, HQN.out, HDN.out, hqs2, by omega, rfl⟩
          · have c3' : ¬ (4294967296 : Int) * (rn : Int) + (un0 : Int) < (m : Int) := by omega
            go_wp2_with fail
            go_meet
            case rel => exact ⟨by rw [guess_kept HY.out hY0 HQ.out HD.out (by have := HM.out; omega)], rfl⟩
    case rest =>
      obtain ⟨rfl, rfl⟩ := hcut
      clear f1 f8 f9 f10 hpu2 HD2 HQ2 hr2lt hq2le
      have hd0lt : dig u21 un0 Y < 4294967296 := dig_lt dr3 h0
      generalize dig u21 un0 Y = d0 at *
      clear e1 e2 e3 e4 e5 e6 e7 b0 b2 b3
      go_wp2_with fail
      go_ret2
      exact ⟨_, _, rfl, by rw [← HT.out]; simp, Below.refl _ _⟩
end Go.Proofs.YtokbdleokihdaaaGreatDoor

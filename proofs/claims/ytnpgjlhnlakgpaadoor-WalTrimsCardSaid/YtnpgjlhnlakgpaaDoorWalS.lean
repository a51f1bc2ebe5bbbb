/- The log's Sum, put, get, Frame. -/
import Derived.Test.YtnpgjlhnlakgpaaDoorG06
import Derived.Test.YtnpgjlhnlakgpaaDoorKeep
import Derived.Test.YtnpgjlhnlakgpaaDoorU8
import Derived.Test.YtnpgjlhnlakgpaaDoorProg
import Derived.Laws.BitsAllLaws
import Derived.Laws.Bits64b
namespace Go.Proofs.YtnpgjlhnlakgpaaDoor
open Go.RowKit

theorem bits_xor_u32_nat (a b : Nat) (ha : a < 4294967296) (hb : b < 4294967296) : bits .xor .u32 (a : Int) (b : Int) = ((a ^^^ b : Nat) : Int) := by
  have hx : a ^^^ b < 2 ^ 32 := Nat.xor_lt_two_pow (by omega) (by omega)
  have h1 : (BitVec.ofInt 32 (a : Int)).toNat = a := by
    rw [BitVec.ofInt_natCast, BitVec.toNat_ofNat]; exact Nat.mod_eq_of_lt (by omega)
  have h2 : (BitVec.ofInt 32 (b : Int)).toNat = b := by
    rw [BitVec.ofInt_natCast, BitVec.toNat_ofNat]; exact Nat.mod_eq_of_lt (by omega)
  show IntKind.u32.wrap ((BitVec.ofInt 32 (a : Int) ^^^ BitVec.ofInt 32 (b : Int)).toNat : Int) = _
  rw [BitVec.toNat_xor, h1, h2, IntKind.wrap_u32]
  omega
theorem bits_and_u32_nat (a b : Nat) (ha : a < 4294967296) (hb : b < 4294967296) : bits .and .u32 (a : Int) (b : Int) = ((a &&& b : Nat) : Int) := by
  have hx : a &&& b < 2 ^ 32 := Nat.and_lt_two_pow _ (by omega)
  have h1 : (BitVec.ofInt 32 (a : Int)).toNat = a := by
    rw [BitVec.ofInt_natCast, BitVec.toNat_ofNat]; exact Nat.mod_eq_of_lt (by omega)
  have h2 : (BitVec.ofInt 32 (b : Int)).toNat = b := by
    rw [BitVec.ofInt_natCast, BitVec.toNat_ofNat]; exact Nat.mod_eq_of_lt (by omega)
  show IntKind.u32.wrap ((BitVec.ofInt 32 (a : Int) &&& BitVec.ofInt 32 (b : Int)).toNat : Int) = _
  rw [BitVec.toNat_and, h1, h2, IntKind.wrap_u32]
  omega
theorem xor_all {b : Nat} (hb : b < 4294967296) : 4294967295 ^^^ b = 4294967295 - b := by
  have h := BitVec.toNat_not (x := BitVec.ofNat 32 b)
  rw [BitVec.not_def, BitVec.toNat_xor, BitVec.toNat_allOnes, BitVec.toNat_ofNat, Nat.mod_eq_of_lt (show b < 2 ^ 32 by omega)] at h
  exact h
def stepIt : Nat → Nat → Nat
  | 0, r => r
  | j + 1, r => stepN (stepIt j r)
theorem stepIt_eight (r : Nat) : stepIt 8 r = steps8 r := rfl
theorem regN_take (s : ByteArray) (k : Nat) (h : k < s.size) : regN 4294967295 (s.data.toList.take (k + 1)) = steps8 (regN 4294967295 (s.data.toList.take k) ^^^ s[k].toNat) := by
  rw [List.take_succ_eq_append_getElem (by simpa using h), regN_app]
  rfl

set_option maxHeartbeats 4000000 in
theorem sum_any (s : ByteArray) (w : World) (hs : s.size ≤ 140737488351232) : Calls Tryd.prog 31 #[.string s] w fun e w' => e = .returned (.int .u32 (sumN s.data.toList : Int)) ∧ w' = w := by
  go_enter Tryd.func31, Tryd.ntmps31
  go_wp2_with fail
  go_loopw [7, 3, 4, 16] (fun iv rv _ _ wr => ∃ (k r : Nat), k ≤ s.size ∧ iv = .int .i64 (k : Int) ∧ rv = .int .u32 (r : Int) ∧ r < 4294967296 ∧ Hid (r = regN 4294967295 (s.data.toList.take k)) ∧ wr = w) (fun iv _ _ _ _ => s.size - (intOf iv).toNat)
  case atStart => exact ⟨0, 4294967295, Nat.zero_le _, rfl, rfl, by decide, rfl, rfl⟩
  case round =>
    obtain ⟨k, r, hk, rfl, rfl, hr, HR, rfl⟩ := hrel
    by_cases hlt : k < s.size
    · have hlti : (k : Int) < (s.size : Int) := by omega
      have HN := Lib.hid (regN_take s k hlt)
      obtain ⟨c, hc⟩ : ∃ c, s[k] = c := ⟨_, rfl⟩
      have hcn := c.toNat_lt
      rw [hc, ← HR.out] at HN
      obtain ⟨r0, hr0⟩ : ∃ r0, r ^^^ c.toNat = r0 := ⟨_, rfl⟩
      have hr0l : r0 < 4294967296 := by rw [← hr0]; exact xor_lt32 hr (by omega)
      have hx : bits .xor .u32 (r : Int) ((c.toNat : Int) % 4294967296) = (r0 : Int) := by
        rw [show (c.toNat : Int) % 4294967296 = (c.toNat : Int) by omega, bits_xor_u32_nat _ _ hr (by omega), hr0]
      have hx2 : bits .xor .u32 (r : Int) (c.toNat : Int) = (r0 : Int) := by rw [bits_xor_u32_nat _ _ hr (by omega), hr0]
      rw [hr0] at HN
      clear hr0
      go_wp2_with fail
      go_loopw [16, 3] (fun jv xv w2 => ∃ (j x : Nat), j ≤ 8 ∧ jv = .int .i64 (j : Int) ∧ xv = .int .u32 (x : Int) ∧ x < 4294967296 ∧ Hid (x = stepIt j r0) ∧ w2 = wr) (fun jv _ _ => 8 - (intOf jv).toNat)
      case atStart => exact ⟨0, r0, by omega, rfl, rfl, hr0l, rfl, rfl⟩
      case round =>
        obtain ⟨j, x, hj, rfl, rfl, hx32, HX, rfl⟩ := hrel
        by_cases hj8 : j < 8
        · have hj8i : (j : Int) < 8 := by omega
          have HXn : Hid (stepN x = stepIt (j + 1) r0) := by show _ = _; rw [HX.out]; rfl
          have hxs := stepN_lt hx32
          rcases Nat.mod_two_eq_zero_or_one x with hp | hp
          · have HS : Hid (stepN x = x / 2) := by
              show _ = _
              unfold stepN
              rw [if_neg (by omega), Nat.xor_zero, Nat.shiftRight_eq_div_pow]
            have a1 : bits .and .u32 (x : Int) 1 = 0 := by
              rw [show (1 : Int) = ((1 : Nat) : Int) from rfl, bits_and_u32_nat _ _ hx32 (by decide), Nat.and_one_is_mod, hp]; rfl
            have a2 : bits .and .u32 3988292384 0 = 0 := by decide
            have a3 : bits .xor .u32 ((x : Int) / 2) 0 = ((x / 2 : Nat) : Int) := by
              rw [show ((x : Int) / 2) = ((x / 2 : Nat) : Int) by omega, show (0 : Int) = ((0 : Nat) : Int) from rfl, bits_xor_u32_nat _ _ (by omega) (by decide), Nat.xor_zero]
            go_wp2_with fail
            go_roundw
            case rel => exact ⟨j + 1, stepN x, by omega, by go_num, congrArg (Value.int .u32) (by rw [HS.out]; omega), hxs, HXn, trivial⟩
            case measure => simp [intOf]; omega
          · have HS : Hid (stepN x = (x / 2) ^^^ 3988292384) := by
              show _ = _
              unfold stepN polyN
              rw [if_pos hp, Nat.shiftRight_eq_div_pow]
            have a1 : bits .and .u32 (x : Int) 1 = 1 := by
              rw [show (1 : Int) = ((1 : Nat) : Int) from rfl, bits_and_u32_nat _ _ hx32 (by decide), Nat.and_one_is_mod, hp]
            have a2 : bits .and .u32 3988292384 4294967295 = 3988292384 := by decide
            have a3 : bits .xor .u32 ((x : Int) / 2) 3988292384 = ((stepN x : Nat) : Int) := by
              rw [show ((x : Int) / 2) = ((x / 2 : Nat) : Int) by omega, show (3988292384 : Int) = ((3988292384 : Nat) : Int) from rfl, bits_xor_u32_nat _ _ (by omega) (by decide), HS.out]
            generalize stepN x = y at *
            go_wp2_with fail
            go_roundw
            case rel => exact ⟨j + 1, y, by omega, by go_num, rfl, hxs, HXn, trivial⟩
            case measure => simp [intOf]; omega
        · have hj8i : ¬ (j : Int) < 8 := by omega
          have HE : Hid (x = regN 4294967295 (s.data.toList.take (k + 1))) := by
            show _ = _
            rw [HX.out, HN.out, show j = 8 by omega]
            rfl
          go_wp2_with fail
          go_roundw
          case rel => exact ⟨k + 1, x, by omega, by go_num, rfl, hx32, HE, trivial⟩
          case measure => simp [intOf]; omega
    · obtain rfl : k = s.size := by omega
      have hlti : ¬ (s.size : Int) < (s.size : Int) := by omega
      have HE : Hid (sumN s.data.toList = 4294967295 - r) := by
        show _ = _
        unfold sumN
        rw [HR.out, List.take_of_length_le (by simp)]
      have hfin : bits .xor .u32 IntKind.u32.max (r : Int) = ((4294967295 - r : Nat) : Int) := by
        rw [show IntKind.u32.max = ((4294967295 : Nat) : Int) from rfl, bits_xor_u32_nat _ _ (by decide) hr, xor_all hr]
      obtain ⟨z, hz⟩ : ∃ z : Nat, 4294967295 - r = z := ⟨_, rfl⟩
      rw [hz] at hfin HE
      clear hz
      go_wp2_with fail
      go_ret
      exact ⟨by rw [HE.out]; rfl, rfl⟩

theorem rbits_go {n x c q : Nat} (h : rbits (n + 1) x c = q) : rbits n (rbit x c) (c >>> 1) = q := h
set_option maxHeartbeats 4000000 in
theorem rsum_any (s : ByteArray) (w : World) (hs : s.size ≤ 140737488351232) : Calls Tryd.prog 32 #[.string s] w fun e w' => e = .returned (.int .u32 (sumN s.data.toList : Int)) ∧ w' = w := by
  go_enter Tryd.func32, Tryd.ntmps32
  go_wp2_with fail
  go_loopw [4, 3, 5, 6, 7] (fun iv rv _ _ _ wr => ∃ (k r : Nat), k ≤ s.size ∧ iv = .int .i64 (k : Int) ∧ rv = .int .u32 (r : Int) ∧ r < 4294967296 ∧ Hid (r = regN 4294967295 (s.data.toList.take k)) ∧ wr = w) (fun iv _ _ _ _ _ => s.size - (intOf iv).toNat)
  case atStart => exact ⟨0, 4294967295, Nat.zero_le _, rfl, rfl, by decide, rfl, rfl⟩
  case round =>
    obtain ⟨k, r, hk, rfl, rfl, hr, HR, rfl⟩ := hrel
    by_cases hlt : k < s.size
    · have hlti : (k : Int) < (s.size : Int) := by omega
      have HN := Lib.hid (regN_take s k hlt)
      obtain ⟨c, hc⟩ : ∃ c, s[k] = c := ⟨_, rfl⟩
      have hcn := c.toNat_lt
      rw [hc, ← HR.out, ← rbits_eight _ _ hcn] at HN
      go_wp2_with fail
      go_loopw [5, 3, 6, 7] (fun jv xv _ _ w2 => ∃ (j x : Nat), j ≤ 8 ∧ jv = .int .i64 (j : Int) ∧ xv = .int .u32 (x : Int) ∧ x < 4294967296 ∧ Hid (rbits (8 - j) x (c.toNat >>> j) = rbits 8 r c.toNat) ∧ w2 = wr) (fun jv _ _ _ _ => 8 - (intOf jv).toNat)
      case atStart => exact ⟨0, r, by omega, rfl, rfl, hr, rfl, rfl⟩
      case round =>
        obtain ⟨j, x, hj, rfl, rfl, hx32, HX, rfl⟩ := hrel
        by_cases hj8 : j < 8
        · have hj8i : (j : Int) < 8 := by omega
          obtain ⟨m, hm⟩ : ∃ m, 8 - j = m + 1 := ⟨7 - j, by omega⟩
          have HXn : Hid (rbits (8 - (j + 1)) (rbit x (c.toNat >>> j)) (c.toNat >>> (j + 1)) = rbits 8 r c.toNat) := by
            have h := HX.out
            rw [hm] at h
            have := rbits_go h
            rw [show 8 - (j + 1) = m by omega, Nat.shiftRight_succ]
            rwa [Nat.shiftRight_eq_div_pow] at this
          obtain ⟨y, hy⟩ : ∃ y, c.toNat >>> j = y := ⟨_, rfl⟩
          have hy2 : (c.toNat : Int) / 2 ^ j % 4294967296 = (y : Int) := by
            rw [← hy, Nat.shiftRight_eq_div_pow]
            have h1 : ((c.toNat : Int) / 2 ^ j) = ((c.toNat / 2 ^ j : Nat) : Int) := by push_cast; rfl
            have h2 : c.toNat / 2 ^ j ≤ c.toNat := Nat.div_le_self _ _
            rw [h1]; omega
          have hyl : y < 4294967296 := by
            rw [← hy, Nat.shiftRight_eq_div_pow]
            have h2 : c.toNat / 2 ^ j ≤ c.toNat := Nat.div_le_self _ _
            omega
          have hxs := rbit_lt (b := y) hx32
          rw [hy] at HXn
          have a1 : bits .and .u32 (x : Int) 1 = ((x % 2 : Nat) : Int) := by
            rw [show (1 : Int) = ((1 : Nat) : Int) from rfl, bits_and_u32_nat _ _ hx32 (by decide), Nat.and_one_is_mod]
          have a2 : bits .and .u32 (y : Int) 1 = ((y % 2 : Nat) : Int) := by
            rw [show (1 : Int) = ((1 : Nat) : Int) from rfl, bits_and_u32_nat _ _ hyl (by decide), Nat.and_one_is_mod]
          have hx2 : (x : Int) / 2 = ((x / 2 : Nat) : Int) := by omega
          have a3 : bits .xor .u32 (((x / 2 : Nat) : Int)) 3988292384 = (((x / 2) ^^^ 3988292384 : Nat) : Int) := by
            rw [show (3988292384 : Int) = ((3988292384 : Nat) : Int) from rfl, bits_xor_u32_nat _ _ (by omega) (by decide)]
          have HRb : Hid (rbit x y = (x / 2) ^^^ (if x % 2 = y % 2 then 0 else 3988292384)) := by
            show _ = _
            unfold rbit polyN
            rw [Nat.shiftRight_eq_div_pow]
          obtain ⟨xp, hxp⟩ : ∃ xp, x % 2 = xp := ⟨_, rfl⟩
          obtain ⟨yp, hyp⟩ : ∃ yp, y % 2 = yp := ⟨_, rfl⟩
          obtain ⟨xh, hxh⟩ : ∃ xh, x / 2 = xh := ⟨_, rfl⟩
          obtain ⟨xx, hxx⟩ : ∃ xx, xh ^^^ 3988292384 = xx := ⟨_, rfl⟩
          rw [hxp] at a1 HRb
          rw [hyp] at a2 HRb
          rw [hxh] at hx2 a3 HRb
          rw [hxx] at a3
          clear hxp hyp hxh hy hm
          by_cases hpb : xp = yp
          · subst hpb
            have HE : Hid (rbit x y = xh) := by show _ = _; rw [HRb.out, if_pos rfl, Nat.xor_zero]
            go_wp2_with fail
            go_roundw
            case rel => exact ⟨j + 1, rbit x y, by omega, by go_num, by rw [HE.out], hxs, HXn, trivial⟩
            case measure => simp [intOf]; omega
          · have hpi : ((xp : Int) != (yp : Int)) = true := by simp; omega
            have hpi2 : ¬ (xp : Int) = (yp : Int) := by omega
            have HE : Hid (rbit x y = xx) := by show _ = _; rw [HRb.out, if_neg hpb, hxx]
            go_wp2_with fail
            go_roundw
            case rel => exact ⟨j + 1, rbit x y, by omega, by go_num, by rw [HE.out], hxs, HXn, trivial⟩
            case measure => simp [intOf]; omega
        · have hj8i : ¬ (j : Int) < 8 := by omega
          have HE : Hid (x = regN 4294967295 (s.data.toList.take (k + 1))) := by
            show _ = _
            rw [HN.out, ← HX.out, show 8 - j = 0 by omega]
            rfl
          go_wp2_with fail
          go_roundw
          case rel => exact ⟨k + 1, x, by omega, by go_num, rfl, hx32, HE, trivial⟩
          case measure => simp [intOf]; omega
    · obtain rfl : k = s.size := by omega
      have hlti : ¬ (s.size : Int) < (s.size : Int) := by omega
      have HE : Hid (sumN s.data.toList = 4294967295 - r) := by
        show _ = _
        unfold sumN
        rw [HR.out, List.take_of_length_le (by simp)]
      have hfin : bits .xor .u32 IntKind.u32.max (r : Int) = ((4294967295 - r : Nat) : Int) := by
        rw [show IntKind.u32.max = ((4294967295 : Nat) : Int) from rfl, bits_xor_u32_nat _ _ (by decide) hr, xor_all hr]
      obtain ⟨z, hz⟩ : ∃ z : Nat, 4294967295 - r = z := ⟨_, rfl⟩
      rw [hz] at hfin HE
      clear hz
      go_wp2_with fail
      go_ret
      exact ⟨by rw [HE.out]; rfl, rfl⟩
end Go.Proofs.YtnpgjlhnlakgpaaDoor

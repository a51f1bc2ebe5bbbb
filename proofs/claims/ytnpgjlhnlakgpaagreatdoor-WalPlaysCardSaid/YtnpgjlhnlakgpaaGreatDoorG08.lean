/- The log's Sum, put, get, Frame. The log's put, get, Frame; the document's four, Frame. The document's one and Scan. The document's Scan. The document's name of a segment. -/
import Derived.Test.YtnpgjlhnlakgpaaGreatDoorG07
import Derived.Test.YtnpgjlhnlakgpaaGreatDoorKeep
import Derived.Test.YtnpgjlhnlakgpaaGreatDoorU8
import Derived.Test.YtnpgjlhnlakgpaaGreatDoorProg
import Derived.Laws.BitsAllLaws
import Derived.Laws.Bits64b
import Derived.Deep.RegionHeld3
import Derived.BigQuiet
import Derived.Laws.OwnMore
import Derived.Maps.AppendAt
import Derived.Test.YtnpgjlhnlakgpaaGreatDoorWalNm
import Derived.Laws.IdiomStrings
namespace Go.Proofs.YtnpgjlhnlakgpaaGreatDoor
open Go.RowKit

theorem bits_xor_u32_nat (a b : Nat) (ha : a < 4294967296) (hb : b < 4294967296) : bits .xor .u32 (a : Int) (b : Int) = ((a ^^^ b : Nat) : Int) := by
  have hx : a ^^^ b < 2 ^ 32 := Nat.xor_lt_two_pow (by omega) (by omega)
  have h1 : (BitVec.ofInt 32 (a : Int)).toNat = a := by
    rw [BitVec.ofInt_natCast, BitVec.toNat_ofNat]; exact Nat.mod_eq_of_lt (by omega)
  have h2 : (BitVec.ofInt 32 (b : Int)).toNat = b := by
    rw [BitVec.ofInt_natCast, BitVec.toNat_ofNat]; exact Nat.mod_eq_of_lt (by omega)
  show IntKind.u32.wrap ((BitVec.ofInt 32 (a : Int) ^^^ BitVec.ofInt 32 (b : Int)).toNat : Int) = _
  rw [BitVec.toNat_xor, h1, h2, IntKind.wrap_u32]
  omega
theorem bits_and_u32_nat (a b : Nat) (ha : a < 4294967296) (hb : b < 4294967296) : bits .and .u32 (a : Int) (b : Int) = ((a &&& b : Nat) : Int) := by
  have hx : a &&& b < 2 ^ 32 := Nat.and_lt_two_pow _ (by omega)
  have h1 : (BitVec.ofInt 32 (a : Int)).toNat = a := by
    rw [BitVec.ofInt_natCast, BitVec.toNat_ofNat]; exact Nat.mod_eq_of_lt (by omega)
  have h2 : (BitVec.ofInt 32 (b : Int)).toNat = b := by
    rw [BitVec.ofInt_natCast, BitVec.toNat_ofNat]; exact Nat.mod_eq_of_lt (by omega)
  show IntKind.u32.wrap ((BitVec.ofInt 32 (a : Int) &&& BitVec.ofInt 32 (b : Int)).toNat : Int) = _
  rw [BitVec.toNat_and, h1, h2, IntKind.wrap_u32]
  omega
theorem xor_all {b : Nat} (hb : b < 4294967296) : 4294967295 ^^^ b = 4294967295 - b := by
  have h := BitVec.toNat_not (x := BitVec.ofNat 32 b)
  rw [BitVec.not_def, BitVec.toNat_xor, BitVec.toNat_allOnes, BitVec.toNat_ofNat, Nat.mod_eq_of_lt (show b < 2 ^ 32 by omega)] at h
  exact h
def stepIt : Nat → Nat → Nat
  | 0, r => r
  | j + 1, r => stepN (stepIt j r)
theorem stepIt_eight (r : Nat) : stepIt 8 r = steps8 r := rfl
theorem regN_take (s : ByteArray) (k : Nat) (h : k < s.size) : regN 4294967295 (s.data.toList.take (k + 1)) = steps8 (regN 4294967295 (s.data.toList.take k) ^^^ s[k].toNat) := by
  rw [List.take_succ_eq_append_getElem (by simpa using h), regN_app]
  rfl

set_option maxHeartbeats 4000000 in
theorem sum_any (s : ByteArray) (w : World) (hs : s.size ≤ 140737488351232) : Calls Tryz.prog 16 #[.string s] w fun e w' => e = .returned (.int .u32 (sumN s.data.toList : Int)) ∧ w' = w := by
  go_enter Tryz.func16, Tryz.ntmps16
  go_wp2_with fail
  go_loopw [7, 3, 4, 16] (fun iv rv _ _ wr => ∃ (k r : Nat), k ≤ s.size ∧ iv = .int .i64 (k : Int) ∧ rv = .int .u32 (r : Int) ∧ r < 4294967296 ∧ Hid (r = regN 4294967295 (s.data.toList.take k)) ∧ wr = w) (fun iv _ _ _ _ => s.size - (intOf iv).toNat)
  case atStart => exact ⟨0, 4294967295, Nat.zero_le _, rfl, rfl, by decide, rfl, rfl⟩
  case round =>
    obtain ⟨k, r, hk, rfl, rfl, hr, HR, rfl⟩ := hrel
    by_cases hlt : k < s.size
    · have hlti : (k : Int) < (s.size : Int) := by omega
      have HN := Lib.hid (regN_take s k hlt)
      obtain ⟨c, hc⟩ : ∃ c, s[k] = c := ⟨_, rfl⟩
      have hcn := c.toNat_lt
      rw [hc, ← HR.out] at HN
      obtain ⟨r0, hr0⟩ : ∃ r0, r ^^^ c.toNat = r0 := ⟨_, rfl⟩
      have hr0l : r0 < 4294967296 := by rw [← hr0]; exact xor_lt32 hr (by omega)
      have hx : bits .xor .u32 (r : Int) ((c.toNat : Int) % 4294967296) = (r0 : Int) := by
        rw [show (c.toNat : Int) % 4294967296 = (c.toNat : Int) by omega, bits_xor_u32_nat _ _ hr (by omega), hr0]
      have hx2 : bits .xor .u32 (r : Int) (c.toNat : Int) = (r0 : Int) := by rw [bits_xor_u32_nat _ _ hr (by omega), hr0]
      rw [hr0] at HN
      clear hr0
      go_wp2_with fail
      go_loopw [16, 3] (fun jv xv w2 => ∃ (j x : Nat), j ≤ 8 ∧ jv = .int .i64 (j : Int) ∧ xv = .int .u32 (x : Int) ∧ x < 4294967296 ∧ Hid (x = stepIt j r0) ∧ w2 = wr) (fun jv _ _ => 8 - (intOf jv).toNat)
      case atStart => exact ⟨0, r0, by omega, rfl, rfl, hr0l, rfl, rfl⟩
      case round =>
        obtain ⟨j, x, hj, rfl, rfl, hx32, HX, rfl⟩ := hrel
        by_cases hj8 : j < 8
        · have hj8i : (j : Int) < 8 := by omega
          have HXn : Hid (stepN x = stepIt (j + 1) r0) := by show _ = _; rw [HX.out]; rfl
          have hxs := stepN_lt hx32
          rcases Nat.mod_two_eq_zero_or_one x with hp | hp
          · have HS : Hid (stepN x = x / 2) := by
              show _ = _
              unfold stepN
              rw [if_neg (by omega), Nat.xor_zero, Nat.shiftRight_eq_div_pow]
            have a1 : bits .and .u32 (x : Int) 1 = 0 := by
              rw [show (1 : Int) = ((1 : Nat) : Int) from rfl, bits_and_u32_nat _ _ hx32 (by decide), Nat.and_one_is_mod, hp]; rfl
            have a2 : bits .and .u32 3988292384 0 = 0 := by decide
            have a3 : bits .xor .u32 ((x : Int) / 2) 0 = ((x / 2 : Nat) : Int) := by
              rw [show ((x : Int) / 2) = ((x / 2 : Nat) : Int) by omega, show (0 : Int) = ((0 : Nat) : Int) from rfl, bits_xor_u32_nat _ _ (by omega) (by decide), Nat.xor_zero]
            go_wp2_with fail
            go_roundw
            case rel => exact ⟨j + 1, stepN x, by omega, by go_num, congrArg (Value.int .u32) (by rw [HS.out]; omega), hxs, HXn, trivial⟩
            case measure => simp [intOf]; omega
          · have HS : Hid (stepN x = (x / 2) ^^^ 3988292384) := by
              show _ = _
              unfold stepN polyN
              rw [if_pos hp, Nat.shiftRight_eq_div_pow]
            have a1 : bits .and .u32 (x : Int) 1 = 1 := by
              rw [show (1 : Int) = ((1 : Nat) : Int) from rfl, bits_and_u32_nat _ _ hx32 (by decide), Nat.and_one_is_mod, hp]
            have a2 : bits .and .u32 3988292384 4294967295 = 3988292384 := by decide
            have a3 : bits .xor .u32 ((x : Int) / 2) 3988292384 = ((stepN x : Nat) : Int) := by
              rw [show ((x : Int) / 2) = ((x / 2 : Nat) : Int) by omega, show (3988292384 : Int) = ((3988292384 : Nat) : Int) from rfl, bits_xor_u32_nat _ _ (by omega) (by decide), HS.out]
            generalize stepN x = y at *
            go_wp2_with fail
            go_roundw
            case rel => exact ⟨j + 1, y, by omega, by go_num, rfl, hxs, HXn, trivial⟩
            case measure => simp [intOf]; omega
        · have hj8i : ¬ (j : Int) < 8 := by omega
          have HE : Hid (x = regN 4294967295 (s.data.toList.take (k + 1))) := by
            show _ = _
            rw [HX.out, HN.out, show j = 8 by omega]
            rfl
          go_wp2_with fail
          go_roundw
          case rel => exact ⟨k + 1, x, by omega, by go_num, rfl, hx32, HE, trivial⟩
          case measure => simp [intOf]; omega
    · obtain rfl : k = s.size := by omega
      have hlti : ¬ (s.size : Int) < (s.size : Int) := by omega
      have HE : Hid (sumN s.data.toList = 4294967295 - r) := by
        show _ = _
        unfold sumN
        rw [HR.out, List.take_of_length_le (by simp)]
      have hfin : bits .xor .u32 IntKind.u32.max (r : Int) = ((4294967295 - r : Nat) : Int) := by
        rw [show IntKind.u32.max = ((4294967295 : Nat) : Int) from rfl, bits_xor_u32_nat _ _ (by decide) hr, xor_all hr]
      obtain ⟨z, hz⟩ : ∃ z : Nat, 4294967295 - r = z := ⟨_, rfl⟩
      rw [hz] at hfin HE
      clear hz
      go_wp2_with fail
      go_ret
      exact ⟨by rw [HE.out]; rfl, rfl⟩

theorem rbits_go {n x c q : Nat} (h : rbits (n + 1) x c = q) : rbits n (rbit x c) (c >>> 1) = q := h
set_option maxHeartbeats 4000000 in
theorem rsum_any (s : ByteArray) (w : World) (hs : s.size ≤ 140737488351232) : Calls Tryz.prog 83 #[.string s] w fun e w' => e = .returned (.int .u32 (sumN s.data.toList : Int)) ∧ w' = w := by
  go_enter Tryz.func83, Tryz.ntmps83
  go_wp2_with fail
  go_loopw [4, 3, 5, 6, 7] (fun iv rv _ _ _ wr => ∃ (k r : Nat), k ≤ s.size ∧ iv = .int .i64 (k : Int) ∧ rv = .int .u32 (r : Int) ∧ r < 4294967296 ∧ Hid (r = regN 4294967295 (s.data.toList.take k)) ∧ wr = w) (fun iv _ _ _ _ _ => s.size - (intOf iv).toNat)
  case atStart => exact ⟨0, 4294967295, Nat.zero_le _, rfl, rfl, by decide, rfl, rfl⟩
  case round =>
    obtain ⟨k, r, hk, rfl, rfl, hr, HR, rfl⟩ := hrel
    by_cases hlt : k < s.size
    · have hlti : (k : Int) < (s.size : Int) := by omega
      have HN := Lib.hid (regN_take s k hlt)
      obtain ⟨c, hc⟩ : ∃ c, s[k] = c := ⟨_, rfl⟩
      have hcn := c.toNat_lt
      rw [hc, ← HR.out, ← rbits_eight _ _ hcn] at HN
      go_wp2_with fail
      go_loopw [5, 3, 6, 7] (fun jv xv _ _ w2 => ∃ (j x : Nat), j ≤ 8 ∧ jv = .int .i64 (j : Int) ∧ xv = .int .u32 (x : Int) ∧ x < 4294967296 ∧ Hid (rbits (8 - j) x (c.toNat >>> j) = rbits 8 r c.toNat) ∧ w2 = wr) (fun jv _ _ _ _ => 8 - (intOf jv).toNat)
      case atStart => exact ⟨0, r, by omega, rfl, rfl, hr, rfl, rfl⟩
      case round =>
        obtain ⟨j, x, hj, rfl, rfl, hx32, HX, rfl⟩ := hrel
        by_cases hj8 : j < 8
        · have hj8i : (j : Int) < 8 := by omega
          obtain ⟨m, hm⟩ : ∃ m, 8 - j = m + 1 := ⟨7 - j, by omega⟩
          have HXn : Hid (rbits (8 - (j + 1)) (rbit x (c.toNat >>> j)) (c.toNat >>> (j + 1)) = rbits 8 r c.toNat) := by
            have h := HX.out
            rw [hm] at h
            have := rbits_go h
            rw [show 8 - (j + 1) = m by omega, Nat.shiftRight_succ]
            rwa [Nat.shiftRight_eq_div_pow] at this
          obtain ⟨y, hy⟩ : ∃ y, c.toNat >>> j = y := ⟨_, rfl⟩
          have hy2 : (c.toNat : Int) / 2 ^ j % 4294967296 = (y : Int) := by
            rw [← hy, Nat.shiftRight_eq_div_pow]
            have h1 : ((c.toNat : Int) / 2 ^ j) = ((c.toNat / 2 ^ j : Nat) : Int) := by push_cast; rfl
            have h2 : c.toNat / 2 ^ j ≤ c.toNat := Nat.div_le_self _ _
            rw [h1]; omega
          have hyl : y < 4294967296 := by
            rw [← hy, Nat.shiftRight_eq_div_pow]
            have h2 : c.toNat / 2 ^ j ≤ c.toNat := Nat.div_le_self _ _
            omega
          have hxs := rbit_lt (b := y) hx32
          rw [hy] at HXn
          have a1 : bits .and .u32 (x : Int) 1 = ((x % 2 : Nat) : Int) := by
            rw [show (1 : Int) = ((1 : Nat) : Int) from rfl, bits_and_u32_nat _ _ hx32 (by decide), Nat.and_one_is_mod]
          have a2 : bits .and .u32 (y : Int) 1 = ((y % 2 : Nat) : Int) := by
            rw [show (1 : Int) = ((1 : Nat) : Int) from rfl, bits_and_u32_nat _ _ hyl (by decide), Nat.and_one_is_mod]
          have hx2 : (x : Int) / 2 = ((x / 2 : Nat) : Int) := by omega
          have a3 : bits .xor .u32 (((x / 2 : Nat) : Int)) 3988292384 = (((x / 2) ^^^ 3988292384 : Nat) : Int) := by
            rw [show (3988292384 : Int) = ((3988292384 : Nat) : Int) from rfl, bits_xor_u32_nat _ _ (by omega) (by decide)]
          have HRb : Hid (rbit x y = (x / 2) ^^^ (if x % 2 = y % 2 then 0 else 3988292384)) := by
            show _ = _
            unfold rbit polyN
            rw [Nat.shiftRight_eq_div_pow]
          obtain ⟨xp, hxp⟩ : ∃ xp, x % 2 = xp := ⟨_, rfl⟩
          obtain ⟨yp, hyp⟩ : ∃ yp, y % 2 = yp := ⟨_, rfl⟩
          obtain ⟨xh, hxh⟩ : ∃ xh, x / 2 = xh := ⟨_, rfl⟩
          obtain ⟨xx, hxx⟩ : ∃ xx, xh ^^^ 3988292384 = xx := ⟨_, rfl⟩
          rw [hxp] at a1 HRb
          rw [hyp] at a2 HRb
          rw [hxh] at hx2 a3 HRb
          rw [hxx] at a3
          clear hxp hyp hxh hy hm
          by_cases hpb : xp = yp
          · subst hpb
            have HE : Hid (rbit x y = xh) := by show _ = _; rw [HRb.out, if_pos rfl, Nat.xor_zero]
            go_wp2_with fail
            go_roundw
            case rel => exact ⟨j + 1, rbit x y, by omega, by go_num, by rw [HE.out], hxs, HXn, trivial⟩
            case measure => simp [intOf]; omega
          · have hpi : ((xp : Int) != (yp : Int)) = true := by simp; omega
            have hpi2 : ¬ (xp : Int) = (yp : Int) := by omega
            have HE : Hid (rbit x y = xx) := by show _ = _; rw [HRb.out, if_neg hpb, hxx]
            go_wp2_with fail
            go_roundw
            case rel => exact ⟨j + 1, rbit x y, by omega, by go_num, by rw [HE.out], hxs, HXn, trivial⟩
            case measure => simp [intOf]; omega
        · have hj8i : ¬ (j : Int) < 8 := by omega
          have HE : Hid (x = regN 4294967295 (s.data.toList.take (k + 1))) := by
            show _ = _
            rw [HN.out, ← HX.out, show 8 - j = 0 by omega]
            rfl
          go_wp2_with fail
          go_roundw
          case rel => exact ⟨k + 1, x, by omega, by go_num, rfl, hx32, HE, trivial⟩
          case measure => simp [intOf]; omega
    · obtain rfl : k = s.size := by omega
      have hlti : ¬ (s.size : Int) < (s.size : Int) := by omega
      have HE : Hid (sumN s.data.toList = 4294967295 - r) := by
        show _ = _
        unfold sumN
        rw [HR.out, List.take_of_length_le (by simp)]
      have hfin : bits .xor .u32 IntKind.u32.max (r : Int) = ((4294967295 - r : Nat) : Int) := by
        rw [show IntKind.u32.max = ((4294967295 : Nat) : Int) from rfl, bits_xor_u32_nat _ _ (by decide) hr, xor_all hr]
      obtain ⟨z, hz⟩ : ∃ z : Nat, 4294967295 - r = z := ⟨_, rfl⟩
      rw [hz] at hfin HE
      clear hz
      go_wp2_with fail
      go_ret
      exact ⟨by rw [HE.out]; rfl, rfl⟩
end Go.Proofs.YtnpgjlhnlakgpaaGreatDoor
namespace Go.Proofs.YtnpgjlhnlakgpaaGreatDoor
open Go.RowKit

theorem drN' {B : Nat} {a w : World} (h : Below B a w) (n : Nat) : Below B a (w.drewN n) := h.trans ⟨rfl, rfl, rfl, Nat.le_refl _, fun _ _ => rfl⟩
theorem conv_four (w : World) (a b c d : UInt8) : (convert 98 9 (.slice (some ⟨w.heap.size, 0, none⟩) 4 4)).run Tryz.prog (w.alloc (.cells #[.int .u8 (a.toNat : Int), .int .u8 (b.toNat : Int), .int .u8 (c.toNat : Int), .int .u8 (d.toNat : Int)] 5)) = .ok (.string (bs [a, b, c, d])) (w.alloc (.cells #[.int .u8 (a.toNat : Int), .int .u8 (b.toNat : Int), .int .u8 (c.toNat : Int), .int .u8 (d.toNat : Int)] 5)) := by
  refine run_convert_bytes_back (P := Tryz.prog) _ 98 9 5 ⟨w.heap.size, 0, none⟩ 4 [a, b, c, d] Tryz.underlying98 Tryz.underlying5 Tryz.underlying9 fun j hj => ?_
  rw [Lib.add_plain, Nat.zero_add, World.cell?_alloc_new]
  match j, hj with
  | 0, _ => rfl
  | 1, _ => rfl
  | 2, _ => rfl
  | 3, _ => rfl
theorem fourN_eq (n : Nat) : fourN n = [UInt8.ofNat (n / 16777216 % 256), UInt8.ofNat (n / 65536 % 256), UInt8.ofNat (n / 256 % 256), UInt8.ofNat (n % 256)] := rfl

set_option maxRecDepth 100000 in
set_option maxHeartbeats 2000000 in
theorem put_any (n : Nat) (hn : n < 4294967296) (w : World) : Calls Tryz.prog 43 #[.int .u32 (n : Int)] w fun e w' => e = .returned (.string (bs (fourN n))) ∧ Below w.heap.size w w' := by
  have e1 : (n : Int) / 16777216 % 256 = ((UInt8.ofNat (n / 16777216 % 256)).toNat : Int) := by rw [UInt8.toNat_ofNat']; omega
  have e2 : (n : Int) / 65536 % 256 = ((UInt8.ofNat (n / 65536 % 256)).toNat : Int) := by rw [UInt8.toNat_ofNat']; omega
  have e3 : (n : Int) / 256 % 256 = ((UInt8.ofNat (n / 256 % 256)).toNat : Int) := by rw [UInt8.toNat_ofNat']; omega
  have e1b : (n : Int) / 16777216 = ((UInt8.ofNat (n / 16777216 % 256)).toNat : Int) := by rw [UInt8.toNat_ofNat']; omega
  have e4 : (n : Int) % 256 = ((UInt8.ofNat (n % 256)).toNat : Int) := by rw [UInt8.toNat_ofNat']; omega
  have HE := Lib.hid (fourN_eq n)
  generalize UInt8.ofNat (n / 16777216 % 256) = y1 at *
  generalize UInt8.ofNat (n / 65536 % 256) = y2 at *
  generalize UInt8.ofNat (n / 256 % 256) = y3 at *
  generalize UInt8.ofNat (n % 256) = y4 at *
  have hcv := conv_four w y1 y2 y3 y4
  go_enter Tryz.func43, Tryz.ntmps43
  go_wp2_with fail
  go_ret
  exact ⟨by rw [HE.out]; rfl, (Below.refl _ _).alloc (Nat.le_refl _) _⟩

set_option maxRecDepth 100000 in
set_option maxHeartbeats 2000000 in
theorem four_any (n : Nat) (hn : n < 4294967296) (w : World) : Calls Tryz.prog 82 #[.int .u32 (n : Int)] w fun e w' => e = .returned (.string (bs (fourN n))) ∧ Below w.heap.size w w' := by
  have e1 : (n : Int) / 16777216 % 256 = ((UInt8.ofNat (n / 16777216 % 256)).toNat : Int) := by rw [UInt8.toNat_ofNat']; omega
  have e2 : (n : Int) / 65536 % 256 = ((UInt8.ofNat (n / 65536 % 256)).toNat : Int) := by rw [UInt8.toNat_ofNat']; omega
  have e3 : (n : Int) / 256 % 256 = ((UInt8.ofNat (n / 256 % 256)).toNat : Int) := by rw [UInt8.toNat_ofNat']; omega
  have e1b : (n : Int) / 16777216 = ((UInt8.ofNat (n / 16777216 % 256)).toNat : Int) := by rw [UInt8.toNat_ofNat']; omega
  have e4 : (n : Int) % 256 = ((UInt8.ofNat (n % 256)).toNat : Int) := by rw [UInt8.toNat_ofNat']; omega
  have HE := Lib.hid (fourN_eq n)
  generalize UInt8.ofNat (n / 16777216 % 256) = y1 at *
  generalize UInt8.ofNat (n / 65536 % 256) = y2 at *
  generalize UInt8.ofNat (n / 256 % 256) = y3 at *
  generalize UInt8.ofNat (n % 256) = y4 at *
  have hcv := conv_four w y1 y2 y3 y4
  go_enter Tryz.func82, Tryz.ntmps82
  go_wp2_with fail
  go_ret
  exact ⟨by rw [HE.out]; rfl, (Below.refl _ _).alloc (Nat.le_refl _) _⟩

theorem bits_or_u32_nat (a b : Nat) (ha : a < 4294967296) (hb : b < 4294967296) : bits .or .u32 (a : Int) (b : Int) = ((a ||| b : Nat) : Int) := by
  have hx : a ||| b < 2 ^ 32 := Nat.or_lt_two_pow (by omega) (by omega)
  have h1 : (BitVec.ofInt 32 (a : Int)).toNat = a := by
    rw [BitVec.ofInt_natCast, BitVec.toNat_ofNat]; exact Nat.mod_eq_of_lt (by omega)
  have h2 : (BitVec.ofInt 32 (b : Int)).toNat = b := by
    rw [BitVec.ofInt_natCast, BitVec.toNat_ofNat]; exact Nat.mod_eq_of_lt (by omega)
  show IntKind.u32.wrap ((BitVec.ofInt 32 (a : Int) ||| BitVec.ofInt 32 (b : Int)).toNat : Int) = _
  rw [BitVec.toNat_or, h1, h2, IntKind.wrap_u32]
  omega
theorem or_add (a b i : Nat) (hb : b < 2 ^ i) : (2 ^ i * a) ||| b = 2 ^ i * a + b := (Nat.two_pow_add_eq_or_of_lt hb a).symm
set_option maxHeartbeats 2000000 in
theorem get_any (s : ByteArray) (w : World) (hs : 4 ≤ s.size) : Calls Tryz.prog 75 #[.string s] w fun e w' => e = .returned (.int .u32 (getN s.data.toList : Int)) ∧ Below w.heap.size w w' := by
  have hz0 : (0 : Int) < (s.size : Int) := by omega
  have hz1 : (1 : Int) < (s.size : Int) := by omega
  have hz2 : (2 : Int) < (s.size : Int) := by omega
  have hz3 : (3 : Int) < (s.size : Int) := by omega
  have hn0 : 0 < s.size := by omega
  have hn1 : 1 < s.size := by omega
  have hn2 : 2 < s.size := by omega
  have hn3 : 3 < s.size := by omega
  have gd : ∀ (k : Nat) (h : k < s.size), s.data.toList.getD k 0 = s[k] := fun k h => by
    rw [List.getD_eq_getElem?_getD, List.getElem?_eq_getElem (by simpa using h)]
    show s.data.toList[k] = s.data[k]
    simp
  have HG : Hid (getN s.data.toList = 16777216 * s[0].toNat + 65536 * s[1].toNat + 256 * s[2].toNat + s[3].toNat) := by
    show _ = _
    unfold getN
    rw [gd 0 hn0, gd 1 hn1, gd 2 hn2, gd 3 hn3]
  have HO : Hid (bits .or .u32 (bits .or .u32 (bits .or .u32 ((s[0].toNat : Int) * 16777216) ((s[1].toNat : Int) * 65536)) ((s[2].toNat : Int) * 256)) (s[3].toNat : Int) = ((16777216 * s[0].toNat + 65536 * s[1].toNat + 256 * s[2].toNat + s[3].toNat : Nat) : Int)) := by
    show _ = _
    have k0 := s[0].toNat_lt
    have k1 := s[1].toNat_lt
    have k2 := s[2].toNat_lt
    have k3 := s[3].toNat_lt
    generalize s[0].toNat = a at *
    generalize s[1].toNat = b at *
    generalize s[2].toNat = c at *
    generalize s[3].toNat = d at *
    have h1 : ((a : Int) * 16777216) = ((16777216 * a : Nat) : Int) := by omega
    have h2 : ((b : Int) * 65536) = ((65536 * b : Nat) : Int) := by omega
    have h3 : ((c : Int) * 256) = ((256 * c : Nat) : Int) := by omega
    rw [h1, h2, h3, bits_or_u32_nat _ _ (by omega) (by omega)]
    have o1 : 16777216 * a ||| 65536 * b = 16777216 * a + 65536 * b := or_add a (65536 * b) 24 (by omega)
    rw [o1, bits_or_u32_nat _ _ (by omega) (by omega)]
    have o2 : (16777216 * a + 65536 * b) ||| 256 * c = 16777216 * a + 65536 * b + 256 * c := by
      have := or_add (256 * a + b) (256 * c) 16 (by omega)
      rw [show 2 ^ 16 * (256 * a + b) = 16777216 * a + 65536 * b by omega] at this
      exact this
    rw [o2, bits_or_u32_nat _ _ (by omega) (by omega)]
    have o3 : (16777216 * a + 65536 * b + 256 * c) ||| d = 16777216 * a + 65536 * b + 256 * c + d := by
      have := or_add (65536 * a + 256 * b + c) d 8 (by omega)
      rw [show 2 ^ 8 * (65536 * a + 256 * b + c) = 16777216 * a + 65536 * b + 256 * c by omega] at this
      exact this
    rw [o3]
  clear gd
  have k0 := s[0].toNat_lt
  have k1 := s[1].toNat_lt
  have k2 := s[2].toNat_lt
  have k3 := s[3].toNat_lt
  go_enter Tryz.func75, Tryz.ntmps75
  go_wp2_with fail
  go_quiet (fail)
  go_wp2_with fail
  go_ret
  exact ⟨by rw [HG.out, ← HO.out]; rfl, drN' (Below.refl _ _) _⟩

/-- A record's frame, as bytes. -/
theorem frame_bs (r : ByteArray) : bs (fourN r.size) ++ bs (fourN (sumN (fourN r.size))) ++ r ++ bs (fourN (sumN r.data.toList)) = bs (frameN r.data.toList) := by
  have e : r = bs r.data.toList := rfl
  have hl : r.data.toList.length = r.size := by simp
  conv => lhs; rw [show bs (fourN r.size) ++ bs (fourN (sumN (fourN r.size))) ++ r = bs (fourN r.size) ++ bs (fourN (sumN (fourN r.size))) ++ bs r.data.toList from rfl]
  rw [bs_append, bs_append, bs_append]
  unfold frameN
  rw [hl]

set_option maxHeartbeats 4000000 in
theorem frame_any (r : ByteArray) (w : World) (hr : r.size ≤ 140737488351232) : Calls Tryz.prog 14 #[.string r] w fun e w' => (e = if 65536 < r.size then .returned (.tuple #[.string ⟨#[]⟩, .int .i64 2]) else .returned (.tuple #[.string (bs (frameN r.data.toList)), .int .i64 0])) ∧ Below w.heap.size w w' := by
  by_cases h : 65536 < r.size
  · rw [if_pos h]
    have hi : (65536 : Int) < (r.size : Int) := by omega
    go_enter Tryz.func14, Tryz.ntmps14
    go_wp2_with fail
    go_ret2
    exact ⟨rfl, Below.refl _ _⟩
  · rw [if_neg h]
    have hi : ¬ (65536 : Int) < (r.size : Int) := by omega
    have HE := Lib.hid (frame_bs r)
    obtain ⟨A, hA⟩ : ∃ A, bs (fourN r.size) = A := ⟨_, rfl⟩
    have hAz : A.size = 4 := by rw [← hA, bs_size]; rfl
    have HAd : Hid (A.data.toList = fourN r.size) := by show _ = _; rw [← hA]; rfl
    obtain ⟨n1, hn1⟩ : ∃ n1, sumN (fourN r.size) = n1 := ⟨_, rfl⟩
    obtain ⟨n2, hn2⟩ : ∃ n2, sumN r.data.toList = n2 := ⟨_, rfl⟩
    have l1 : n1 < 4294967296 := by rw [← hn1]; exact sumN_lt _
    have l2 : n2 < 4294967296 := by rw [← hn2]; exact sumN_lt _
    obtain ⟨B, hB⟩ : ∃ B, bs (fourN n1) = B := ⟨_, rfl⟩
    obtain ⟨C, hC⟩ : ∃ C, bs (fourN n2) = C := ⟨_, rfl⟩
    have hBz : B.size = 4 := by rw [← hB, bs_size]; rfl
    have hCz : C.size = 4 := by rw [← hC, bs_size]; rfl
    have P0 := Lib.hid (fun W => put_any r.size (by omega) W)
    have P1 := Lib.hid (fun W => put_any n1 l1 W)
    have P2 := Lib.hid (fun W => put_any n2 l2 W)
    have S1 := Lib.hid (fun W => sum_any A W (by omega))
    have S2 := Lib.hid (fun W => sum_any r W hr)
    rw [HAd.out, hn1] at S1
    rw [hn2] at S2
    rw [hA] at P0
    rw [hB] at P1
    rw [hC] at P2
    rw [hA, hn1, hn2, hB, hC] at HE
    have hz1 : (A ++ B).size = 8 := by rw [ByteArray.size_append]; omega
    have hz2 : (A ++ B ++ r).size = 8 + r.size := by rw [ByteArray.size_append]; omega
    have hw32 : IntKind.u32.wrap (r.size : Int) = (r.size : Int) := by rw [IntKind.wrap_u32]; omega
    have hm32 : (r.size : Int) % 4294967296 = (r.size : Int) := by omega
    clear hA hB hC hn1 hn2
    go_enter Tryz.func14, Tryz.ntmps14
    go_wp2_with (first
      | (go_at_call_of 43 (Value.int IntKind.u32 (r.size : Int)); refine (P0.out _).mono ?_; rintro e w1 ⟨rfl, hb⟩; have HB1 := Lib.hid hb; clear hb)
      | (go_at_call_of 16 (Value.string A); refine (S1.out _).mono ?_; rintro e w9 ⟨rfl, hw9⟩; rw [hw9]; clear hw9)
      | (go_at_call_of 43 (Value.int IntKind.u32 (n1 : Int)); refine (P1.out _).mono ?_; rintro e w2 ⟨rfl, hb⟩; have HB2 := Lib.hid (HB1.out.trans (hb.mono HB1.out.size)); clear hb)
      | (go_at_call_of 16 (Value.string r); refine (S2.out _).mono ?_; rintro e w9 ⟨rfl, hw9⟩; rw [hw9]; clear hw9)
      | (go_at_call_of 43 (Value.int IntKind.u32 (n2 : Int)); refine (P2.out _).mono ?_; rintro e w3 ⟨rfl, hb⟩; have HB3 := Lib.hid (HB2.out.trans (hb.mono HB2.out.size)); clear hb)
      | fail)
    go_ret2
    exact ⟨by rw [← HE.out]; rfl, HB3.out⟩

set_option maxHeartbeats 4000000 in
theorem rframe_any (r : ByteArray) (w : World) (hr : r.size ≤ 140737488351232) : Calls Tryz.prog 69 #[.string r] w fun e w' => (e = if 65536 < r.size then .returned (.tuple #[.string ⟨#[]⟩, .int .i64 2]) else .returned (.tuple #[.string (bs (frameN r.data.toList)), .int .i64 0])) ∧ Below w.heap.size w w' := by
  by_cases h : 65536 < r.size
  · rw [if_pos h]
    have hi : (65536 : Int) < (r.size : Int) := by omega
    go_enter Tryz.func69, Tryz.ntmps69
    go_wp2_with fail
    go_ret2
    exact ⟨rfl, Below.refl _ _⟩
  · rw [if_neg h]
    have hi : ¬ (65536 : Int) < (r.size : Int) := by omega
    have HE := Lib.hid (frame_bs r)
    obtain ⟨A, hA⟩ : ∃ A, bs (fourN r.size) = A := ⟨_, rfl⟩
    have hAz : A.size = 4 := by rw [← hA, bs_size]; rfl
    have HAd : Hid (A.data.toList = fourN r.size) := by show _ = _; rw [← hA]; rfl
    obtain ⟨n1, hn1⟩ : ∃ n1, sumN (fourN r.size) = n1 := ⟨_, rfl⟩
    obtain ⟨n2, hn2⟩ : ∃ n2, sumN r.data.toList = n2 := ⟨_, rfl⟩
    have l1 : n1 < 4294967296 := by rw [← hn1]; exact sumN_lt _
    have l2 : n2 < 4294967296 := by rw [← hn2]; exact sumN_lt _
    obtain ⟨B, hB⟩ : ∃ B, bs (fourN n1) = B := ⟨_, rfl⟩
    obtain ⟨C, hC⟩ : ∃ C, bs (fourN n2) = C := ⟨_, rfl⟩
    have hBz : B.size = 4 := by rw [← hB, bs_size]; rfl
    have hCz : C.size = 4 := by rw [← hC, bs_size]; rfl
    have P0 := Lib.hid (fun W => four_any r.size (by omega) W)
    have P1 := Lib.hid (fun W => four_any n1 l1 W)
    have P2 := Lib.hid (fun W => four_any n2 l2 W)
    have S1 := Lib.hid (fun W => rsum_any A W (by omega))
    have S2 := Lib.hid (fun W => rsum_any r W hr)
    rw [HAd.out, hn1] at S1
    rw [hn2] at S2
    rw [hA] at P0
    rw [hB] at P1
    rw [hC] at P2
    rw [hA, hn1, hn2, hB, hC] at HE
    have hz1 : (A ++ B).size = 8 := by rw [ByteArray.size_append]; omega
    have hz2 : (A ++ B ++ r).size = 8 + r.size := by rw [ByteArray.size_append]; omega
    have hw32 : IntKind.u32.wrap (r.size : Int) = (r.size : Int) := by rw [IntKind.wrap_u32]; omega
    have hm32 : (r.size : Int) % 4294967296 = (r.size : Int) := by omega
    clear hA hB hC hn1 hn2
    go_enter Tryz.func69, Tryz.ntmps69
    go_wp2_with (first
      | (go_at_call_of 82 (Value.int IntKind.u32 (r.size : Int)); refine (P0.out _).mono ?_; rintro e w1 ⟨rfl, hb⟩; have HB1 := Lib.hid hb; clear hb)
      | (go_at_call_of 83 (Value.string A); refine (S1.out _).mono ?_; rintro e w9 ⟨rfl, hw9⟩; rw [hw9]; clear hw9)
      | (go_at_call_of 82 (Value.int IntKind.u32 (n1 : Int)); refine (P1.out _).mono ?_; rintro e w2 ⟨rfl, hb⟩; have HB2 := Lib.hid (HB1.out.trans (hb.mono HB1.out.size)); clear hb)
      | (go_at_call_of 83 (Value.string r); refine (S2.out _).mono ?_; rintro e w9 ⟨rfl, hw9⟩; rw [hw9]; clear hw9)
      | (go_at_call_of 82 (Value.int IntKind.u32 (n2 : Int)); refine (P2.out _).mono ?_; rintro e w3 ⟨rfl, hb⟩; have HB3 := Lib.hid (HB2.out.trans (hb.mono HB2.out.size)); clear hb)
      | fail)
    go_ret2
    exact ⟨by rw [← HE.out]; rfl, HB3.out⟩
end Go.Proofs.YtnpgjlhnlakgpaaGreatDoor
namespace Go.Proofs.YtnpgjlhnlakgpaaGreatDoor
open Go.RowKit

theorem cmp_four {l : List UInt8} (hl : 4 ≤ l.length) {n : Nat} (hn : n < 4294967296) : (fourN n = l.take 4) ↔ n = getN l := by
  obtain ⟨a, b, c, d, r, rfl⟩ : ∃ a b c d r, l = a :: b :: c :: d :: r := by
    match l, hl with
    | a :: b :: c :: d :: r, _ => exact ⟨a, b, c, d, r, rfl⟩
  have h := four_get (a := a) (b := b) (c := c) (d := d) r
  show fourN n = [a, b, c, d] ↔ _
  rw [← h]
  constructor
  · exact four_inj hn (getN_lt _)
  · rintro rfl; rfl
/-- The number of the first k bytes. -/
def getK (l : List UInt8) : Nat → Nat
  | 0 => 0
  | k + 1 => 256 * getK l k + (l.getD k 0).toNat
theorem getK_four (l : List UInt8) : getK l 4 = getN l := by simp only [getK, getN]; omega
theorem getK_lt (l : List UInt8) : ∀ k, k ≤ 4 → getK l k < 4294967296 ∧ (k ≤ 3 → getK l k < 16777216)
  | 0, _ => by simp [getK]
  | 1, _ => by have := (l.getD 0 0).toNat_lt; simp only [getK]; omega
  | 2, _ => by have := (l.getD 0 0).toNat_lt; have := (l.getD 1 0).toNat_lt; simp only [getK]; omega
  | 3, _ => by have := (l.getD 0 0).toNat_lt; have := (l.getD 1 0).toNat_lt; have := (l.getD 2 0).toNat_lt; simp only [getK]; omega
  | 4, _ => by have := (l.getD 0 0).toNat_lt; have := (l.getD 1 0).toNat_lt; have := (l.getD 2 0).toNat_lt; have := (l.getD 3 0).toNat_lt; simp only [getK]; omega
theorem getD_at {s : ByteArray} {k : Nat} (h : k < s.size) : s.data.toList.getD k 0 = s[k] := by
  rw [List.getD_eq_getElem?_getD, List.getElem?_eq_getElem (by simpa using h)]
  show s.data.toList[k] = s.data[k]
  simp
theorem ext_at (s : ByteArray) (i n : Nat) : (s.extract i (i + n)).data.toList = (s.data.toList.drop i).take n := by
  rw [ByteArray.data_extract]; simp
/-- What one tells. -/
def oneE (o : Option (List UInt8)) : Ending := match o with
  | none => .returned (.tuple #[.string ⟨#[]⟩, .int .i64 0, .bool false])
  | some r => .returned (.tuple #[.string (bs r), .int .i64 ((12 + r.length : Nat) : Int), .bool true])

set_option maxRecDepth 100000 in
set_option maxHeartbeats 8000000 in
theorem rone_any (s : ByteArray) (w : World) (hs : s.size ≤ 140737488351232) : Calls Tryz.prog 81 #[.string s] w fun e w' => e = oneE (oneN s.data.toList) ∧ Below w.heap.size w w' := by
  have hls : s.data.toList.length = s.size := by simp
  obtain ⟨N, hN⟩ : ∃ N, getN s.data.toList = N := ⟨_, rfl⟩
  have hNl : N < 4294967296 := by rw [← hN]; exact getN_lt _
  have HO : Hid (oneN s.data.toList = if s.size < 8 ∨ sumN (s.data.toList.take 4) ≠ getN (s.data.toList.drop 4) ∨ 65536 < N ∨ s.size < 12 + N ∨ sumN ((s.data.toList.drop 8).take N) ≠ getN (s.data.toList.drop (8 + N)) then none else some ((s.data.toList.drop 8).take N)) := by
    show _ = _
    unfold oneN
    rw [hls, hN]
  by_cases h8 : s.size < 8
  · have h8i : (s.size : Int) < 8 := by omega
    have HE : Hid (oneN s.data.toList = none) := by show _ = _; rw [HO.out, if_pos (.inl h8)]
    go_enter Tryz.func81, Tryz.ntmps81
    go_wp2_with fail
    go_quiet (fail)
    go_wp2_with fail
    refine bodyPost_ret (v := .tuple #[.string ⟨#[]⟩, .int .i64 0, .bool false]) (by simp [results, Tryz.results81, go_sem]) rfl ⟨by rw [HE.out]; rfl, drN' (Below.refl _ _) _⟩
  · have h8i : ¬ (s.size : Int) < 8 := by omega
    have h4s : (4 : Int) ≤ (s.size : Int) := by omega
    have h8s : (8 : Int) ≤ (s.size : Int) := by omega
    obtain ⟨A, hA⟩ : ∃ A, s.extract 0 4 = A := ⟨_, rfl⟩
    obtain ⟨B, hB⟩ : ∃ B, s.extract 4 8 = B := ⟨_, rfl⟩
    have hAl : A.data.toList = s.data.toList.take 4 := by rw [← hA, ByteArray.data_extract]; simp
    have hBl : B.data.toList = (s.data.toList.drop 4).take 4 := by rw [← hB]; exact ext_at s 4 4
    obtain ⟨n1, hn1⟩ : ∃ n1, sumN (s.data.toList.take 4) = n1 := ⟨_, rfl⟩
    have l1 : n1 < 4294967296 := by rw [← hn1]; exact sumN_lt _
    obtain ⟨C, hC⟩ : ∃ C, bs (fourN n1) = C := ⟨_, rfl⟩
    have hAz : A.size = 4 := by
      have := congrArg List.length hAl
      rw [List.length_take, hls] at this
      have h2 : A.data.toList.length = A.size := by simp
      omega
    have S1 : Hid (∀ u : GW (fun W => Below w.heap.size w W), Calls Tryz.prog 83 #[.string A] u.w fun e w' => e = .returned (.int .u32 (n1 : Int)) ∧ Below u.w.heap.size u.w w') := fun u => (rsum_any A u.w (by omega)).mono fun e w' ⟨h1, h2⟩ => ⟨by rw [h1, hAl, hn1], by rw [h2]; exact Below.refl _ _⟩
    have P1 : Hid (∀ u : GW (fun W => Below w.heap.size w W), Calls Tryz.prog 82 #[.int .u32 (n1 : Int)] u.w fun e w' => e = .returned (.string C) ∧ Below u.w.heap.size u.w w') := fun u => by rw [← hC]; exact four_any n1 l1 u.w
    have hgn := GW.ne (Inv := fun W => Below w.heap.size w W) (Below.refl _ w)
    have hd8 : decide ((s.size : Int) < 8) = false := by simp; omega
    have hd8n : decide (s.size < 8) = false := by simp; omega
    have hcmp : (C.toList == B.toList) = decide (n1 = getN (s.data.toList.drop 4)) := by
      rw [ByteArray.toList_eq, ByteArray.toList_eq, hBl, ← hC, Bool.eq_iff_iff, beq_iff_eq, decide_eq_true_eq]
      exact cmp_four (by rw [List.length_drop, hls]; omega) l1
    rw [hn1] at HO
    clear hC hAl hBl hn1
    cases hq : decide (n1 = getN (s.data.toList.drop 4)) with
    | false =>
      have HE : Hid (oneN s.data.toList = none) := by show _ = _; rw [HO.out, if_pos (.inr (.inl (by simpa using hq)))]
      rw [hq] at hcmp
      clear hq
      go_enter Tryz.func81, Tryz.ntmps81
      go_wp2_with fail
      refine wp_region_grow (fun W => Below w.heap.size w W) (by kernel_rfl) (by kernel_rfl) (Below.refl _ _).drew ?_
      repeat (go_big_quiet_step (first
        | (go_at_call 83; refine (S1.out _).mono ?_; rintro e w1 ⟨rfl, hb⟩; exact ⟨rfl, below_next _ hb⟩)
        | (go_at_call 82; refine (P1.out _).mono ?_; rintro e w1 ⟨rfl, hb⟩; exact ⟨rfl, below_next _ hb⟩)))
      refine wpQuiet_nil ?_
      intro w4 hw'
      obtain ⟨⟨wx, h4⟩, hw''⟩ := hw'
      subst hw''
      go_wp2_with fail
      refine bodyPost_ret (v := .tuple #[.string ⟨#[]⟩, .int .i64 0, .bool false]) (by simp [results, Tryz.results81, go_sem]) rfl ⟨by rw [HE.out]; rfl, h4⟩
    | true =>
      have hcut : Hid (¬ (s.size < 8 ∨ n1 ≠ getN (s.data.toList.drop 4))) := by
        show ¬ _
        have := of_decide_eq_true hq
        omega
      rw [hq] at hcmp
      clear hq
      go_enter Tryz.func81, Tryz.ntmps81
      go_wp2_with fail
      refine wp_region_grow (fun W => Below w.heap.size w W) (by kernel_rfl) (by kernel_rfl) (Below.refl _ _).drew ?_
      repeat (go_big_quiet_step (first
        | (go_at_call 83; refine (S1.out _).mono ?_; rintro e w1 ⟨rfl, hb⟩; exact ⟨rfl, below_next _ hb⟩)
        | (go_at_call 82; refine (P1.out _).mono ?_; rintro e w1 ⟨rfl, hb⟩; exact ⟨rfl, below_next _ hb⟩)))
      refine wpQuiet_nil ?_
      intro w4 hw'
      obtain ⟨⟨wx, h4⟩, hw''⟩ := hw'
      subst hw''
      have H4 := Lib.hid h4
      clear h4 hgn S1 P1 hcmp hA hB
      go_wp2_with fail
      go_loopw [6, 5] (fun iv nv wr => ∃ k : Nat, k ≤ 4 ∧ iv = .int .i64 (k : Int) ∧ nv = .int .i64 (getK s.data.toList k : Int) ∧ wr = w4) (fun iv _ _ => 4 - (intOf iv).toNat)
      case atStart => exact ⟨0, by omega, rfl, rfl, rfl⟩
      case round =>
        obtain ⟨k, hk, rfl, rfl, rfl⟩ := hrel
        by_cases hlt : k < 4
        · have hlti : (k : Int) < 4 := by omega
          have hki : (k : Int) < (s.size : Int) := by omega
          have hkl : k < s.size := by omega
          have hg : Hid (getK s.data.toList (k + 1) = 256 * getK s.data.toList k + s[k].toNat) := by show _ = _; simp only [getK]; rw [getD_at hkl]
          have hgl := (getK_lt s.data.toList k (by omega)).1
          obtain ⟨g, hge⟩ : ∃ g, getK s.data.toList k = g := ⟨_, rfl⟩
          obtain ⟨c, hc⟩ : ∃ c, s[k] = c := ⟨_, rfl⟩
          have hcl := c.toNat_lt
          rw [hge, hc] at hg
          rw [hge] at hgl ⊢
          clear hge
          have hm : IntKind.i64.wrap (256 * (g : Int)) = 256 * (g : Int) := by rw [IntKind.wrap_i64]; omega
          have hw2 : IntKind.i64.wrap (256 * (g : Int) + (c.toNat : Int)) = 256 * (g : Int) + (c.toNat : Int) := by rw [IntKind.wrap_i64]; omega
          go_wp2_with fail
          go_roundw
          case rel => exact ⟨k + 1, by omega, by go_num, by rw [hg.out]; push_cast; rfl, trivial⟩
          case measure => simp [intOf]; omega
        · obtain rfl : k = 4 := by omega
          have hlti : ¬ ((4 : Nat) : Int) < 4 := by omega
          rw [getK_four, hN]
          by_cases h65 : 65536 < N
          · have h65i : (65536 : Int) < (N : Int) := by omega
            have HE : Hid (oneN s.data.toList = none) := by show _ = _; rw [HO.out, if_pos (.inr (.inr (.inl h65)))]
            have hdn : decide ((65536 : Int) < (N : Int)) = true := decide_eq_true h65i
            have hdn2 : decide (65536 < N) = true := decide_eq_true h65
            go_wp2_with fail
            go_quiet (fail)
            go_wp2_with fail
            refine bodyPost_ret (v := .tuple #[.string ⟨#[]⟩, .int .i64 0, .bool false]) (by simp [results, Tryz.results81, go_sem]) rfl ⟨by rw [HE.out]; rfl, drN' H4.out _⟩
          · have h65i : ¬ (65536 : Int) < (N : Int) := by omega
            have hdn : decide ((65536 : Int) < (N : Int)) = false := by simp; omega
            have hdn2 : decide (65536 < N) = false := by simp; omega
            by_cases h12 : s.size < 12 + N
            · have h12i : (s.size : Int) - 12 < (N : Int) := by omega
              have hsw : IntKind.i64.wrap ((s.size : Int) - 12) = (s.size : Int) - 12 := by rw [IntKind.wrap_i64]; omega
              have hd12 : decide ((s.size : Int) - 12 < (N : Int)) = true := decide_eq_true h12i
              have HE : Hid (oneN s.data.toList = none) := by show _ = _; rw [HO.out, if_pos (.inr (.inr (.inr (.inl h12))))]
              go_wp2_with fail
              go_quiet (fail)
              go_wp2_with fail
              refine bodyPost_ret (v := .tuple #[.string ⟨#[]⟩, .int .i64 0, .bool false]) (by simp [results, Tryz.results81, go_sem]) rfl ⟨by rw [HE.out]; rfl, drN' H4.out _⟩
            · have h12i : ¬ (s.size : Int) - 12 < (N : Int) := by omega
              have hsw : IntKind.i64.wrap ((s.size : Int) - 12) = (s.size : Int) - 12 := by rw [IntKind.wrap_i64]; omega
              have hd12 : decide ((s.size : Int) - 12 < (N : Int)) = false := decide_eq_false h12i
              have h8w : IntKind.i64.wrap (8 + (N : Int)) = 8 + (N : Int) := by rw [IntKind.wrap_i64]; omega
              have h12w : IntKind.i64.wrap (12 + (N : Int)) = 12 + (N : Int) := by rw [IntKind.wrap_i64]; omega
              have b1 : (8 : Int) ≤ 8 + (N : Int) := by omega
              have b2 : 8 + (N : Int) ≤ (s.size : Int) := by omega
              have b3 : 8 + (N : Int) ≤ 12 + (N : Int) := by omega
              have b4 : 12 + (N : Int) ≤ (s.size : Int) := by omega
              have n8 : (8 + (N : Int)).toNat = 8 + N := by omega
              have n12 : (12 + (N : Int)).toNat = 12 + N := by omega
              obtain ⟨A2, hA2⟩ : ∃ A2, s.extract 8 (8 + N) = A2 := ⟨_, rfl⟩
              obtain ⟨B2, hB2⟩ : ∃ B2, s.extract (8 + N) (12 + N) = B2 := ⟨_, rfl⟩
              have hA2l : A2.data.toList = (s.data.toList.drop 8).take N := by rw [← hA2]; exact ext_at s 8 N
              have hB2l : B2.data.toList = (s.data.toList.drop (8 + N)).take 4 := by rw [← hB2, show 12 + N = (8 + N) + 4 by omega]; exact ext_at s (8 + N) 4
              obtain ⟨n2, hn2⟩ : ∃ n2, sumN ((s.data.toList.drop 8).take N) = n2 := ⟨_, rfl⟩
              have l2 : n2 < 4294967296 := by rw [← hn2]; exact sumN_lt _
              obtain ⟨C2, hC2⟩ : ∃ C2, bs (fourN n2) = C2 := ⟨_, rfl⟩
              have hA2z : A2.size = N := by
                have := congrArg List.length hA2l
                rw [List.length_take, List.length_drop, hls] at this
                have h2 : A2.data.toList.length = A2.size := by simp
                omega
              have S2 : Hid (∀ u : GW (fun W => Below wr.heap.size wr W), Calls Tryz.prog 83 #[.string A2] u.w fun e w' => e = .returned (.int .u32 (n2 : Int)) ∧ Below u.w.heap.size u.w w') := fun u => (rsum_any A2 u.w (by omega)).mono fun e w' ⟨h1, h2⟩ => ⟨by rw [h1, hA2l, hn2], by rw [h2]; exact Below.refl _ _⟩
              have P2 : Hid (∀ u : GW (fun W => Below wr.heap.size wr W), Calls Tryz.prog 82 #[.int .u32 (n2 : Int)] u.w fun e w' => e = .returned (.string C2) ∧ Below u.w.heap.size u.w w') := fun u => by rw [← hC2]; exact four_any n2 l2 u.w
              have hgn := GW.ne (Inv := fun W => Below wr.heap.size wr W) (Below.refl _ wr)
              have hcmp : (C2.toList == B2.toList) = decide (n2 = getN (s.data.toList.drop (8 + N))) := by
                rw [ByteArray.toList_eq, ByteArray.toList_eq, hB2l, ← hC2, Bool.eq_iff_iff, beq_iff_eq, decide_eq_true_eq]
                exact cmp_four (by rw [List.length_drop, hls]; omega) l2
              have HR := Lib.hid (show bs ((s.data.toList.drop 8).take N) = A2 by rw [← hA2l]; rfl)
              rw [hn2] at HO
              clear hC2 hA2l hB2l hn2
              cases hq : decide (n2 = getN (s.data.toList.drop (8 + N))) with
              | false =>
                have HE : Hid (oneN s.data.toList = none) := by show _ = _; rw [HO.out, if_pos (.inr (.inr (.inr (.inr (by simpa using hq)))))]
                rw [hq] at hcmp
                clear hq
                go_wp2_with fail
                refine wp_region_grow (fun W => Below wr.heap.size wr W) (by kernel_rfl) (by kernel_rfl) (Below.refl _ _).drew ?_
                repeat (go_big_quiet_step (first
                  | (go_at_call 83; refine (S2.out _).mono ?_; rintro e w1 ⟨rfl, hb⟩; exact ⟨rfl, below_next _ hb⟩)
                  | (go_at_call 82; refine (P2.out _).mono ?_; rintro e w1 ⟨rfl, hb⟩; exact ⟨rfl, below_next _ hb⟩)))
                refine wpQuiet_nil ?_
                intro w5 hw'
                obtain ⟨⟨wx, h5⟩, hw''⟩ := hw'
                subst hw''
                have H5 := Lib.hid (H4.out.trans (h5.mono H4.out.size))
                go_wp2_with fail
                refine bodyPost_ret (v := .tuple #[.string ⟨#[]⟩, .int .i64 0, .bool false]) (by simp [results, Tryz.results81, go_sem]) rfl ⟨by rw [HE.out]; rfl, H5.out⟩
              | true =>
                have HE : Hid (oneN s.data.toList = some ((s.data.toList.drop 8).take N)) := by
                  show _ = _
                  have h1 := of_decide_eq_true hq
                  have h2 := hcut.out
                  rw [HO.out, if_neg]
                  rintro (h | h | h | h | h)
                  · exact h2 (.inl h)
                  · exact h2 (.inr h)
                  · exact h65 h
                  · exact h12 h
                  · exact h h1
                rw [hq] at hcmp
                clear hq
                go_wp2_with fail
                refine wp_region_grow (fun W => Below wr.heap.size wr W) (by kernel_rfl) (by kernel_rfl) (Below.refl _ _).drew ?_
                repeat (go_big_quiet_step (first
                  | (go_at_call 83; refine (S2.out _).mono ?_; rintro e w1 ⟨rfl, hb⟩; exact ⟨rfl, below_next _ hb⟩)
                  | (go_at_call 82; refine (P2.out _).mono ?_; rintro e w1 ⟨rfl, hb⟩; exact ⟨rfl, below_next _ hb⟩)))
                refine wpQuiet_nil ?_
                intro w5 hw'
                obtain ⟨⟨wx, h5⟩, hw''⟩ := hw'
                subst hw''
                have H5 := Lib.hid (H4.out.trans (h5.mono H4.out.size))
                go_wp2_with fail
                refine bodyPost_ret (v := .tuple #[.string A2, .int .i64 (12 + (N : Int)), .bool true]) (by simp [results, Tryz.results81, go_sem]) rfl ⟨by
                  rw [HE.out]
                  show _ = Ending.returned (.tuple #[.string (bs ((s.data.toList.drop 8).take N)), .int .i64 ((12 + ((s.data.toList.drop 8).take N).length : Nat) : Int), .bool true])
                  rw [HR.out, List.length_take, List.length_drop, hls, Nat.min_eq_left (by omega)]
                  push_cast
                  rfl, H5.out⟩
end Go.Proofs.YtnpgjlhnlakgpaaGreatDoor
namespace Go.Proofs.YtnpgjlhnlakgpaaGreatDoor
open Go.RowKit Go.Maps

theorem strcell : (Tryz.prog.info? 9).map (fun i => (i.zero, i.size, i.bytes)) = some (some (.string ⟨#[]⟩), 1, 16) := by kernel_rfl
/-- Texts as cells. -/
def recVals (l : List (List UInt8)) : List Value := l.map fun r => .string (bs r)
/-- A row of texts of one's own, and all that was is as it was. -/
structure SL (w W : World) (v : Value) (l : List (List UInt8)) : Prop where
  B : Below w.heap.size w W
  o : W.ownsRow w.heap.size 9 1 v l.length (recVals l)
theorem SL.below {w W W' : World} {v : Value} {l : List (List UInt8)} (h : SL w W v l) (hB : Below W.heap.size W W') : SL w W' v l :=
  ⟨h.B.trans (hB.mono h.B.size), h.o.kept ⟨hB.os, hB.tape, hB.output, hB.size, fun k hk _ => hB.block k hk⟩ (by
    cases hv : v.ownBlock with
    | none => exact .inl rfl
    | some k => exact .inr (by simp : some k ≠ none))⟩
theorem SL.alloc {w W : World} {v : Value} {l : List (List UInt8)} (h : SL w W v l) (x : Obj) : SL w (W.alloc x) v l := h.below ((Below.refl _ _).alloc (Nat.le_refl _) x)
theorem SL.grow {w W W' : World} {v v' : Value} {l l' : List (List UInt8)} (h : SL w W v l) (hg : W.grownBy W' v.ownBlock) (ho : W'.ownsRow w.heap.size 9 1 v' l'.length (recVals l')) : SL w W' v' l' :=
  ⟨h.B.grown hg h.B.size (fun k hk => (h.o.lt k hk).1), ho⟩
theorem SL.new (w : World) : SL w w (.slice none 0 0) [] := ⟨Below.refl _ _, World.ownsRow_nil _ _ _ _⟩
theorem bs_data (s : ByteArray) : bs s.data.toList = s := rfl

set_option maxRecDepth 100000 in
set_option maxHeartbeats 8000000 in
theorem rscan_any (s : ByteArray) (w : World) (hs : s.size ≤ 8000000000000) : Calls Tryz.prog 56 #[.string s] w fun e w' => ∃ v, e = .returned (.tuple #[v, .int .i64 ((scanF s.data.toList).2 : Int)]) ∧ SL w w' v (scanF s.data.toList).1 := by
  obtain ⟨i0, hi0, hz0, hz1, hz2⟩ := info_parts strcell
  have hls : s.data.toList.length = s.size := by simp
  obtain ⟨Z, hZ⟩ : ∃ Z, scanF s.data.toList = Z := ⟨_, rfl⟩
  rw [hZ]
  go_enter Tryz.func56, Tryz.ntmps56
  go_wp2_with fail
  go_loopw [4, 5] (fun v iv wr => ∃ (k : Nat) (l : List (List UInt8)), k ≤ s.size ∧ l.length ≤ k ∧ iv = .int .i64 (k : Int) ∧ SL w wr v l ∧ Hid (Z = (l ++ (scanF (s.data.toList.drop k)).1, k + (scanF (s.data.toList.drop k)).2))) (fun _ iv _ => s.size - (intOf iv).toNat)
  case atStart => exact ⟨0, [], Nat.zero_le _, Nat.le_refl _, rfl, SL.new w, by show _ = _; rw [← hZ]; simp⟩
  case round =>
    obtain ⟨k, l, hk, hlk, rfl, hS, HQ⟩ := hrel
    clear hZ
    have HS := Lib.hid hS
    obtain ⟨sp, sc, hsl⟩ := owns_sl2 hS.o
    subst hsl
    clear hS
    have hki : (k : Int) ≤ (s.size : Int) := by omega
    obtain ⟨A, hA⟩ : ∃ A, s.extract k s.size = A := ⟨_, rfl⟩
    have hAl : A.data.toList = s.data.toList.drop k := by
      rw [← hA, ByteArray.data_extract]; simp [List.take_of_length_le]
    have hAz : A.size = s.size - k := by
      have := congrArg List.length hAl
      rw [List.length_drop, hls] at this
      have h2 : A.data.toList.length = A.size := by simp
      omega
    have P1 := Lib.hid (fun W => rone_any A W (by omega))
    rw [hAl] at P1
    cases ho : oneN (s.data.toList.drop k) with
    | none =>
      rw [ho, show oneE none = .returned (.tuple #[.string ⟨#[]⟩, .int .i64 0, .bool false]) from rfl] at P1
      have HE : Hid (Z = (l, k)) := by show _ = _; rw [HQ.out, scanF_none ho]; simp
      clear HQ hAl ho
      go_wp2_with (first
        | (go_at_call 81; refine (P1.out _).mono ?_; rintro e w5 ⟨rfl, hB5⟩; have HS5 := Lib.hid (HS.out.below hB5); clear hB5)
        | fail)
      refine bodyPost_ret (v := .tuple #[.slice sp l.length sc, .int .i64 (k : Int)]) (by simp [results, Tryz.results56, go_sem]) rfl ⟨_, by rw [HE.out], by rw [HE.out]; exact HS5.out⟩
    | some r =>
      rw [ho] at P1
      have hlen := oneN_len ho
      rw [List.length_drop, hls] at hlen
      obtain ⟨m, hm⟩ : ∃ m, 12 + r.length = m := ⟨_, rfl⟩
      have HE : Hid (Z = ((l ++ [r]) ++ (scanF (s.data.toList.drop (k + m))).1, (k + m) + (scanF (s.data.toList.drop (k + m))).2)) := by
        show _ = _
        rw [HQ.out, scanF_some ho, hm, List.drop_drop]
        simp [Nat.add_assoc]
      obtain ⟨C, hC⟩ : ∃ C, bs r = C := ⟨_, rfl⟩
      have HLen : Hid (recVals (l ++ [r]) = recVals l ++ [.string C] ∧ (l ++ [r]).length = l.length + 1) := ⟨by rw [← hC]; simp [recVals], by simp⟩
      have HP : Hid (oneE (some r) = .returned (.tuple #[.string C, .int .i64 (m : Int), .bool true])) := by show _ = _; rw [← hm, ← hC]; rfl
      rw [HP.out] at P1
      have hkm : k + m ≤ s.size := by omega
      have h12 : 12 ≤ m := by omega
      have hww : IntKind.i64.wrap ((k : Int) + (m : Int)) = (k : Int) + (m : Int) := by rw [IntKind.wrap_i64]; omega
      clear HQ hAl ho hC hlen HP hm
      go_wp2_with (first
        | (go_at_call 81; refine (P1.out _).mono ?_; rintro e w5 ⟨rfl, hB5⟩; have HS5 := Lib.hid (HS.out.below hB5); clear hB5)
        | (at_builtin; go_loud (refine wpList_append_own _ rfl _ _ 55 rfl w.heap.size 9 i0 (.string ⟨#[]⟩) 1 16 Tryz.underlying55 hi0 hz0 hz1 hz2 rfl (by decide) _ _ _ rfl (HS5.out.alloc _).o ⟨w5.heap.size, 0, none⟩ 1 1 [.string C] rfl rfl (cell_one_new _ _ _) (by simp [Value.oneCell']) (by unfold maxLen; omega) (by omega) (by have := HS5.out.B.size; simp; omega) ?_; intro v' w6 hown' hgrow _; have HS6 := Lib.hid ((HS5.out.alloc _).grow (l' := l ++ [r]) hgrow (by rw [HLen.out.1, HLen.out.2]; exact hown')); clear hown' hgrow; go_frame))
        | fail)
      go_roundw
      case rel => exact ⟨k + m, l ++ [r], hkm, by rw [HLen.out.2]; omega, by go_num, HS6.out, HE⟩
      case measure => simp [intOf]; omega
end Go.Proofs.YtnpgjlhnlakgpaaGreatDoor
namespace Go.Proofs.YtnpgjlhnlakgpaaGreatDoor
open Go.RowKit

theorem digs_cons : ∀ (k n : Nat), digs (k + 1) n = UInt8.ofNat (48 + n / 10 ^ k % 10) :: digs k n
  | 0, n => by simp [digs]
  | k + 1, n => by
    have h := digs_cons k (n / 10)
    show digs (k + 1) (n / 10) ++ [UInt8.ofNat (48 + n % 10)] = _
    rw [h, Nat.div_div_eq_div_mul, List.cons_append]
    congr 2
    rw [Nat.pow_succ, Nat.mul_comm]
theorem conv_one (w : World) (a : UInt8) : (convert 98 9 (.slice (some ⟨w.heap.size, 0, none⟩) 1 1)).run Tryz.prog (w.alloc (.cells #[.int .u8 (a.toNat : Int)] 5)) = .ok (.string (bs [a])) (w.alloc (.cells #[.int .u8 (a.toNat : Int)] 5)) := by
  refine run_convert_bytes_back (P := Tryz.prog) _ 98 9 5 ⟨w.heap.size, 0, none⟩ 1 [a] Tryz.underlying98 Tryz.underlying5 Tryz.underlying9 fun j hj => ?_
  rw [Lib.add_plain, Nat.zero_add, World.cell?_alloc_new]
  match j, hj with
  | 0, _ => rfl
set_option maxRecDepth 100000 in
set_option maxHeartbeats 4000000 in
theorem rname_any (n : Nat) (h1 : n < 9000000000000000000) (w : World) : Calls Tryz.prog 55 #[.int .i64 (n : Int)] w fun e w' => e = .returned (.string (nameN n)) ∧ Below w.heap.size w w' := by
  go_enter Tryz.func55, Tryz.ntmps55
  go_wp2_with fail
  go_loopw [0, 3, 4] (fun nv sv iv wr => ∃ (i q : Nat), i ≤ 12 ∧ iv = .int .i64 (i : Int) ∧ nv = .int .i64 (q : Int) ∧ q < 9000000000000000000 ∧ sv = .string (bs (digs i n)) ∧ Below w.heap.size w wr ∧ Hid (q = n / 10 ^ i)) (fun _ _ iv _ => 12 - (intOf iv).toNat)
  case atStart => exact ⟨0, n, by omega, rfl, rfl, h1, rfl, Below.refl _ _, by show n = n / 1; rw [Nat.div_one]⟩
  case round =>
    obtain ⟨i, q, hi, rfl, rfl, hq, rfl, hb, HQ⟩ := hrel
    have HB := Lib.hid hb
    clear hb
    by_cases hlt : i < 12
    · have hli : (i : Int) < 12 := by omega
      obtain ⟨c, hc⟩ : ∃ c : UInt8, UInt8.ofNat (48 + q % 10) = c := ⟨_, rfl⟩
      have hct : c.toNat = 48 + q % 10 := by rw [← hc, UInt8.toNat_ofNat']; omega
      have HD : Hid (bs [c] ++ bs (digs i n) = bs (digs (i + 1) n)) := by
        show _ = _
        rw [bs_append, digs_cons, ← HQ.out, hc]; rfl
      have hz : (bs (digs i n)).size = i := by rw [bs_size, digs_len]
      have hz1 : (bs [c]).size = 1 := by rw [bs_size]; rfl
      obtain ⟨S, hS⟩ : ∃ S, bs (digs i n) = S := ⟨_, rfl⟩
      rw [hS] at HD hz ⊢
      obtain ⟨C, hC⟩ : ∃ C : Int, (c.toNat : Int) = C := ⟨_, rfl⟩
      have hcv := conv_one wr c
      rw [hC] at hcv
      obtain ⟨T, hT⟩ : ∃ T, bs [c] = T := ⟨_, rfl⟩
      rw [hT] at hcv HD hz1
      obtain ⟨QI, hQI⟩ : ∃ QI : Int, (q : Int) = QI := ⟨_, rfl⟩
      have q1 : QI.tmod 10 = C - 48 := by rw [← hQI, Int.tmod_eq_emod_of_nonneg (by omega)]; omega
      have q2 : IntKind.i64.wrap (48 + (C - 48)) = C := by rw [IntKind.wrap_i64]; omega
      have q2' : IntKind.i64.wrap (48 + QI.tmod 10) = C := by rw [q1]; exact q2
      have q3 : IntKind.u8.wrap C = C := by rw [IntKind.wrap_u8]; omega
      have q4 : QI.tdiv 10 = ((q / 10 : Nat) : Int) := by rw [← hQI, Int.tdiv_eq_ediv_of_nonneg (by omega)]; omega
      obtain ⟨Q1, hQ1⟩ : ∃ Q1, q / 10 = Q1 := ⟨_, rfl⟩
      have HQ1 : Hid (Q1 = n / 10 ^ (i + 1)) := by show _ = _; rw [← hQ1, HQ.out, Nat.div_div_eq_div_mul, Nat.pow_succ]
      have hq1 : Q1 < 9000000000000000000 := by omega
      rw [hQ1] at q4
      have q5 : IntKind.i64.wrap ((Q1 : Nat) : Int) = (Q1 : Int) := by rw [IntKind.wrap_i64]; omega
      rw [hQI]
      clear hS hC hT hc hct hQI hQ1 hq q1 q2
      go_wp2_with fail
      go_roundw
      case rel => exact ⟨i + 1, Q1, by omega, by go_num, rfl, hq1, by rw [HD.out], HB.out.alloc (by have := HB.out.size; omega) _, HQ1⟩
      case measure => simp [intOf]; omega
    · have hi12 : i = 12 := by omega
      have hli : ¬ (i : Int) < 12 := by omega
      have hz : (bs (digs i n)).size = 12 := by rw [bs_size, digs_len, hi12]
      have HN : Hid ((ByteArray.mk #[108, 111, 103, 46]) ++ bs (digs i n) = nameN n) := by
        show bs preL ++ bs (digs i n) = _
        rw [bs_append, hi12]; rfl
      obtain ⟨S, hS⟩ : ∃ S, bs (digs i n) = S := ⟨_, rfl⟩
      rw [hS] at HN hz ⊢
      obtain ⟨NM, hNM⟩ : ∃ NM, nameN n = NM := ⟨_, rfl⟩
      rw [hNM] at HN
      have HNM := Lib.hid hNM
      have hN := HN.out
      clear hS hNM hi12 hi
      go_wp2_with fail
      go_ret
      exact ⟨by rw [HNM.out]; rfl, HB.out⟩
end Go.Proofs.YtnpgjlhnlakgpaaGreatDoor

/- The log's put, get, Frame; the document's four, Frame. -/
import Derived.Test.YtnpgjlhnlakgpaaDoorWalS
namespace Go.Proofs.YtnpgjlhnlakgpaaDoor
open Go.RowKit

theorem drN' {B : Nat} {a w : World} (h : Below B a w) (n : Nat) : Below B a (w.drewN n) := h.trans ⟨rfl, rfl, rfl, Nat.le_refl _, fun _ _ => rfl⟩
theorem conv_four (w : World) (a b c d : UInt8) : (convert 49 9 (.slice (some ⟨w.heap.size, 0, none⟩) 4 4)).run Tryd.prog (w.alloc (.cells #[.int .u8 (a.toNat : Int), .int .u8 (b.toNat : Int), .int .u8 (c.toNat : Int), .int .u8 (d.toNat : Int)] 5)) = .ok (.string (bs [a, b, c, d])) (w.alloc (.cells #[.int .u8 (a.toNat : Int), .int .u8 (b.toNat : Int), .int .u8 (c.toNat : Int), .int .u8 (d.toNat : Int)] 5)) := by
  refine run_convert_bytes_back (P := Tryd.prog) _ 49 9 5 ⟨w.heap.size, 0, none⟩ 4 [a, b, c, d] Tryd.underlying49 Tryd.underlying5 Tryd.underlying9 fun j hj => ?_
  rw [Lib.add_plain, Nat.zero_add, World.cell?_alloc_new]
  match j, hj with
  | 0, _ => rfl
  | 1, _ => rfl
  | 2, _ => rfl
  | 3, _ => rfl
theorem fourN_eq (n : Nat) : fourN n = [UInt8.ofNat (n / 16777216 % 256), UInt8.ofNat (n / 65536 % 256), UInt8.ofNat (n / 256 % 256), UInt8.ofNat (n % 256)] := rfl

set_option maxRecDepth 100000 in
set_option maxHeartbeats 2000000 in
theorem put_any (n : Nat) (hn : n < 4294967296) (w : World) : Calls Tryd.prog 59 #[.int .u32 (n : Int)] w fun e w' => e = .returned (.string (bs (fourN n))) ∧ Below w.heap.size w w' := by
  have e1 : (n : Int) / 16777216 % 256 = ((UInt8.ofNat (n / 16777216 % 256)).toNat : Int) := by rw [UInt8.toNat_ofNat']; omega
  have e2 : (n : Int) / 65536 % 256 = ((UInt8.ofNat (n / 65536 % 256)).toNat : Int) := by rw [UInt8.toNat_ofNat']; omega
  have e3 : (n : Int) / 256 % 256 = ((UInt8.ofNat (n / 256 % 256)).toNat : Int) := by rw [UInt8.toNat_ofNat']; omega
  have e1b : (n : Int) / 16777216 = ((UInt8.ofNat (n / 16777216 % 256)).toNat : Int) := by rw [UInt8.toNat_ofNat']; omega
  have e4 : (n : Int) % 256 = ((UInt8.ofNat (n % 256)).toNat : Int) := by rw [UInt8.toNat_ofNat']; omega
  have HE := Lib.hid (fourN_eq n)
  generalize UInt8.ofNat (n / 16777216 % 256) = y1 at *
  generalize UInt8.ofNat (n / 65536 % 256) = y2 at *
  generalize UInt8.ofNat (n / 256 % 256) = y3 at *
  generalize UInt8.ofNat (n % 256) = y4 at *
  have hcv := conv_four w y1 y2 y3 y4
  go_enter Tryd.func59, Tryd.ntmps59
  go_wp2_with fail
  go_ret
  exact ⟨by rw [HE.out]; rfl, (Below.refl _ _).alloc (Nat.le_refl _) _⟩

set_option maxRecDepth 100000 in
set_option maxHeartbeats 2000000 in
theorem four_any (n : Nat) (hn : n < 4294967296) (w : World) : Calls Tryd.prog 60 #[.int .u32 (n : Int)] w fun e w' => e = .returned (.string (bs (fourN n))) ∧ Below w.heap.size w w' := by
  have e1 : (n : Int) / 16777216 % 256 = ((UInt8.ofNat (n / 16777216 % 256)).toNat : Int) := by rw [UInt8.toNat_ofNat']; omega
  have e2 : (n : Int) / 65536 % 256 = ((UInt8.ofNat (n / 65536 % 256)).toNat : Int) := by rw [UInt8.toNat_ofNat']; omega
  have e3 : (n : Int) / 256 % 256 = ((UInt8.ofNat (n / 256 % 256)).toNat : Int) := by rw [UInt8.toNat_ofNat']; omega
  have e1b : (n : Int) / 16777216 = ((UInt8.ofNat (n / 16777216 % 256)).toNat : Int) := by rw [UInt8.toNat_ofNat']; omega
  have e4 : (n : Int) % 256 = ((UInt8.ofNat (n % 256)).toNat : Int) := by rw [UInt8.toNat_ofNat']; omega
  have HE := Lib.hid (fourN_eq n)
  generalize UInt8.ofNat (n / 16777216 % 256) = y1 at *
  generalize UInt8.ofNat (n / 65536 % 256) = y2 at *
  generalize UInt8.ofNat (n / 256 % 256) = y3 at *
  generalize UInt8.ofNat (n % 256) = y4 at *
  have hcv := conv_four w y1 y2 y3 y4
  go_enter Tryd.func60, Tryd.ntmps60
  go_wp2_with fail
  go_ret
  exact ⟨by rw [HE.out]; rfl, (Below.refl _ _).alloc (Nat.le_refl _) _⟩

theorem bits_or_u32_nat (a b : Nat) (ha : a < 4294967296) (hb : b < 4294967296) : bits .or .u32 (a : Int) (b : Int) = ((a ||| b : Nat) : Int) := by
  have hx : a ||| b < 2 ^ 32 := Nat.or_lt_two_pow (by omega) (by omega)
  have h1 : (BitVec.ofInt 32 (a : Int)).toNat = a := by
    rw [BitVec.ofInt_natCast, BitVec.toNat_ofNat]; exact Nat.mod_eq_of_lt (by omega)
  have h2 : (BitVec.ofInt 32 (b : Int)).toNat = b := by
    rw [BitVec.ofInt_natCast, BitVec.toNat_ofNat]; exact Nat.mod_eq_of_lt (by omega)
  show IntKind.u32.wrap ((BitVec.ofInt 32 (a : Int) ||| BitVec.ofInt 32 (b : Int)).toNat : Int) = _
  rw [BitVec.toNat_or, h1, h2, IntKind.wrap_u32]
  omega
theorem or_add (a b i : Nat) (hb : b < 2 ^ i) : (2 ^ i * a) ||| b = 2 ^ i * a + b := (Nat.two_pow_add_eq_or_of_lt hb a).symm
set_option maxHeartbeats 2000000 in
theorem get_any (s : ByteArray) (w : World) (hs : 4 ≤ s.size) : Calls Tryd.prog 93 #[.string s] w fun e w' => e = .returned (.int .u32 (getN s.data.toList : Int)) ∧ Below w.heap.size w w' := by
  have hz0 : (0 : Int) < (s.size : Int) := by omega
  have hz1 : (1 : Int) < (s.size : Int) := by omega
  have hz2 : (2 : Int) < (s.size : Int) := by omega
  have hz3 : (3 : Int) < (s.size : Int) := by omega
  have hn0 : 0 < s.size := by omega
  have hn1 : 1 < s.size := by omega
  have hn2 : 2 < s.size := by omega
  have hn3 : 3 < s.size := by omega
  have gd : ∀ (k : Nat) (h : k < s.size), s.data.toList.getD k 0 = s[k] := fun k h => by
    rw [List.getD_eq_getElem?_getD, List.getElem?_eq_getElem (by simpa using h)]
    show s.data.toList[k] = s.data[k]
    simp
  have HG : Hid (getN s.data.toList = 16777216 * s[0].toNat + 65536 * s[1].toNat + 256 * s[2].toNat + s[3].toNat) := by
    show _ = _
    unfold getN
    rw [gd 0 hn0, gd 1 hn1, gd 2 hn2, gd 3 hn3]
  have HO : Hid (bits .or .u32 (bits .or .u32 (bits .or .u32 ((s[0].toNat : Int) * 16777216) ((s[1].toNat : Int) * 65536)) ((s[2].toNat : Int) * 256)) (s[3].toNat : Int) = ((16777216 * s[0].toNat + 65536 * s[1].toNat + 256 * s[2].toNat + s[3].toNat : Nat) : Int)) := by
    show _ = _
    have k0 := s[0].toNat_lt
    have k1 := s[1].toNat_lt
    have k2 := s[2].toNat_lt
    have k3 := s[3].toNat_lt
    generalize s[0].toNat = a at *
    generalize s[1].toNat = b at *
    generalize s[2].toNat = c at *
    generalize s[3].toNat = d at *
    have h1 : ((a : Int) * 16777216) = ((16777216 * a : Nat) : Int) := by omega
    have h2 : ((b : Int) * 65536) = ((65536 * b : Nat) : Int) := by omega
    have h3 : ((c : Int) * 256) = ((256 * c : Nat) : Int) := by omega
    rw [h1, h2, h3, bits_or_u32_nat _ _ (by omega) (by omega)]
    have o1 : 16777216 * a ||| 65536 * b = 16777216 * a + 65536 * b := or_add a (65536 * b) 24 (by omega)
    rw [o1, bits_or_u32_nat _ _ (by omega) (by omega)]
    have o2 : (16777216 * a + 65536 * b) ||| 256 * c = 16777216 * a + 65536 * b + 256 * c := by
      have := or_add (256 * a + b) (256 * c) 16 (by omega)
      rw [show 2 ^ 16 * (256 * a + b) = 16777216 * a + 65536 * b by omega] at this
      exact this
    rw [o2, bits_or_u32_nat _ _ (by omega) (by omega)]
    have o3 : (16777216 * a + 65536 * b + 256 * c) ||| d = 16777216 * a + 65536 * b + 256 * c + d := by
      have := or_add (65536 * a + 256 * b + c) d 8 (by omega)
      rw [show 2 ^ 8 * (65536 * a + 256 * b + c) = 16777216 * a + 65536 * b + 256 * c by omega] at this
      exact this
    rw [o3]
  clear gd
  have k0 := s[0].toNat_lt
  have k1 := s[1].toNat_lt
  have k2 := s[2].toNat_lt
  have k3 := s[3].toNat_lt
  go_enter Tryd.func93, Tryd.ntmps93
  go_wp2_with fail
  go_quiet (fail)
  go_wp2_with fail
  go_ret
  exact ⟨by rw [HG.out, ← HO.out]; rfl, drN' (Below.refl _ _) _⟩

/-- A record's frame, as bytes. -/
theorem frame_bs (r : ByteArray) : bs (fourN r.size) ++ bs (fourN (sumN (fourN r.size))) ++ r ++ bs (fourN (sumN r.data.toList)) = bs (frameN r.data.toList) := by
  have e : r = bs r.data.toList := rfl
  have hl : r.data.toList.length = r.size := by simp
  conv => lhs; rw [show bs (fourN r.size) ++ bs (fourN (sumN (fourN r.size))) ++ r = bs (fourN r.size) ++ bs (fourN (sumN (fourN r.size))) ++ bs r.data.toList from rfl]
  rw [bs_append, bs_append, bs_append]
  unfold frameN
  rw [hl]

set_option maxHeartbeats 4000000 in
theorem frame_any (r : ByteArray) (w : World) (hr : r.size ≤ 140737488351232) : Calls Tryd.prog 27 #[.string r] w fun e w' => (e = if 65536 < r.size then .returned (.tuple #[.string ⟨#[]⟩, .int .i64 2]) else .returned (.tuple #[.string (bs (frameN r.data.toList)), .int .i64 0])) ∧ Below w.heap.size w w' := by
  by_cases h : 65536 < r.size
  · rw [if_pos h]
    have hi : (65536 : Int) < (r.size : Int) := by omega
    go_enter Tryd.func27, Tryd.ntmps27
    go_wp2_with fail
    go_ret2
    exact ⟨rfl, Below.refl _ _⟩
  · rw [if_neg h]
    have hi : ¬ (65536 : Int) < (r.size : Int) := by omega
    have HE := Lib.hid (frame_bs r)
    obtain ⟨A, hA⟩ : ∃ A, bs (fourN r.size) = A := ⟨_, rfl⟩
    have hAz : A.size = 4 := by rw [← hA, bs_size]; rfl
    have HAd : Hid (A.data.toList = fourN r.size) := by show _ = _; rw [← hA]; rfl
    obtain ⟨n1, hn1⟩ : ∃ n1, sumN (fourN r.size) = n1 := ⟨_, rfl⟩
    obtain ⟨n2, hn2⟩ : ∃ n2, sumN r.data.toList = n2 := ⟨_, rfl⟩
    have l1 : n1 < 4294967296 := by rw [← hn1]; exact sumN_lt _
    have l2 : n2 < 4294967296 := by rw [← hn2]; exact sumN_lt _
    obtain ⟨B, hB⟩ : ∃ B, bs (fourN n1) = B := ⟨_, rfl⟩
    obtain ⟨C, hC⟩ : ∃ C, bs (fourN n2) = C := ⟨_, rfl⟩
    have hBz : B.size = 4 := by rw [← hB, bs_size]; rfl
    have hCz : C.size = 4 := by rw [← hC, bs_size]; rfl
    have P0 := Lib.hid (fun W => put_any r.size (by omega) W)
    have P1 := Lib.hid (fun W => put_any n1 l1 W)
    have P2 := Lib.hid (fun W => put_any n2 l2 W)
    have S1 := Lib.hid (fun W => sum_any A W (by omega))
    have S2 := Lib.hid (fun W => sum_any r W hr)
    rw [HAd.out, hn1] at S1
    rw [hn2] at S2
    rw [hA] at P0
    rw [hB] at P1
    rw [hC] at P2
    rw [hA, hn1, hn2, hB, hC] at HE
    have hz1 : (A ++ B).size = 8 := by rw [ByteArray.size_append]; omega
    have hz2 : (A ++ B ++ r).size = 8 + r.size := by rw [ByteArray.size_append]; omega
    have hw32 : IntKind.u32.wrap (r.size : Int) = (r.size : Int) := by rw [IntKind.wrap_u32]; omega
    have hm32 : (r.size : Int) % 4294967296 = (r.size : Int) := by omega
    clear hA hB hC hn1 hn2
    go_enter Tryd.func27, Tryd.ntmps27
    go_wp2_with (first
      | (go_at_call_of 59 (Value.int IntKind.u32 (r.size : Int)); refine (P0.out _).mono ?_; rintro e w1 ⟨rfl, hb⟩; have HB1 := Lib.hid hb; clear hb)
      | (go_at_call_of 31 (Value.string A); refine (S1.out _).mono ?_; rintro e w9 ⟨rfl, hw9⟩; rw [hw9]; clear hw9)
      | (go_at_call_of 59 (Value.int IntKind.u32 (n1 : Int)); refine (P1.out _).mono ?_; rintro e w2 ⟨rfl, hb⟩; have HB2 := Lib.hid (HB1.out.trans (hb.mono HB1.out.size)); clear hb)
      | (go_at_call_of 31 (Value.string r); refine (S2.out _).mono ?_; rintro e w9 ⟨rfl, hw9⟩; rw [hw9]; clear hw9)
      | (go_at_call_of 59 (Value.int IntKind.u32 (n2 : Int)); refine (P2.out _).mono ?_; rintro e w3 ⟨rfl, hb⟩; have HB3 := Lib.hid (HB2.out.trans (hb.mono HB2.out.size)); clear hb)
      | fail)
    go_ret2
    exact ⟨by rw [← HE.out]; rfl, HB3.out⟩

set_option maxHeartbeats 4000000 in
theorem rframe_any (r : ByteArray) (w : World) (hr : r.size ≤ 140737488351232) : Calls Tryd.prog 28 #[.string r] w fun e w' => (e = if 65536 < r.size then .returned (.tuple #[.string ⟨#[]⟩, .int .i64 2]) else .returned (.tuple #[.string (bs (frameN r.data.toList)), .int .i64 0])) ∧ Below w.heap.size w w' := by
  by_cases h : 65536 < r.size
  · rw [if_pos h]
    have hi : (65536 : Int) < (r.size : Int) := by omega
    go_enter Tryd.func28, Tryd.ntmps28
    go_wp2_with fail
    go_ret2
    exact ⟨rfl, Below.refl _ _⟩
  · rw [if_neg h]
    have hi : ¬ (65536 : Int) < (r.size : Int) := by omega
    have HE := Lib.hid (frame_bs r)
    obtain ⟨A, hA⟩ : ∃ A, bs (fourN r.size) = A := ⟨_, rfl⟩
    have hAz : A.size = 4 := by rw [← hA, bs_size]; rfl
    have HAd : Hid (A.data.toList = fourN r.size) := by show _ = _; rw [← hA]; rfl
    obtain ⟨n1, hn1⟩ : ∃ n1, sumN (fourN r.size) = n1 := ⟨_, rfl⟩
    obtain ⟨n2, hn2⟩ : ∃ n2, sumN r.data.toList = n2 := ⟨_, rfl⟩
    have l1 : n1 < 4294967296 := by rw [← hn1]; exact sumN_lt _
    have l2 : n2 < 4294967296 := by rw [← hn2]; exact sumN_lt _
    obtain ⟨B, hB⟩ : ∃ B, bs (fourN n1) = B := ⟨_, rfl⟩
    obtain ⟨C, hC⟩ : ∃ C, bs (fourN n2) = C := ⟨_, rfl⟩
    have hBz : B.size = 4 := by rw [← hB, bs_size]; rfl
    have hCz : C.size = 4 := by rw [← hC, bs_size]; rfl
    have P0 := Lib.hid (fun W => four_any r.size (by omega) W)
    have P1 := Lib.hid (fun W => four_any n1 l1 W)
    have P2 := Lib.hid (fun W => four_any n2 l2 W)
    have S1 := Lib.hid (fun W => rsum_any A W (by omega))
    have S2 := Lib.hid (fun W => rsum_any r W hr)
    rw [HAd.out, hn1] at S1
    rw [hn2] at S2
    rw [hA] at P0
    rw [hB] at P1
    rw [hC] at P2
    rw [hA, hn1, hn2, hB, hC] at HE
    have hz1 : (A ++ B).size = 8 := by rw [ByteArray.size_append]; omega
    have hz2 : (A ++ B ++ r).size = 8 + r.size := by rw [ByteArray.size_append]; omega
    have hw32 : IntKind.u32.wrap (r.size : Int) = (r.size : Int) := by rw [IntKind.wrap_u32]; omega
    have hm32 : (r.size : Int) % 4294967296 = (r.size : Int) := by omega
    clear hA hB hC hn1 hn2
    go_enter Tryd.func28, Tryd.ntmps28
    go_wp2_with (first
      | (go_at_call_of 60 (Value.int IntKind.u32 (r.size : Int)); refine (P0.out _).mono ?_; rintro e w1 ⟨rfl, hb⟩; have HB1 := Lib.hid hb; clear hb)
      | (go_at_call_of 32 (Value.string A); refine (S1.out _).mono ?_; rintro e w9 ⟨rfl, hw9⟩; rw [hw9]; clear hw9)
      | (go_at_call_of 60 (Value.int IntKind.u32 (n1 : Int)); refine (P1.out _).mono ?_; rintro e w2 ⟨rfl, hb⟩; have HB2 := Lib.hid (HB1.out.trans (hb.mono HB1.out.size)); clear hb)
      | (go_at_call_of 32 (Value.string r); refine (S2.out _).mono ?_; rintro e w9 ⟨rfl, hw9⟩; rw [hw9]; clear hw9)
      | (go_at_call_of 60 (Value.int IntKind.u32 (n2 : Int)); refine (P2.out _).mono ?_; rintro e w3 ⟨rfl, hb⟩; have HB3 := Lib.hid (HB2.out.trans (hb.mono HB2.out.size)); clear hb)
      | fail)
    go_ret2
    exact ⟨by rw [← HE.out]; rfl, HB3.out⟩
end Go.Proofs.YtnpgjlhnlakgpaaDoor

/- The number of a segment's name. -/
import Derived.Test.YtnpgjlhnlakgpaaGreatDoorG12
import Derived.Test.YtnpgjlhnlakgpaaGreatDoorG11
namespace Go.Proofs.YtnpgjlhnlakgpaaGreatDoor
open Go.RowKit Go.Lib

theorem valB_take {l : List UInt8} {i : Nat} {c : UInt8} (h : l[i]? = some c) : valB (l.take (i + 1)) = 10 * valB (l.take i) + (c.toNat - 48) ∧ (l.take (i + 1)).all digB = ((l.take i).all digB && digB c) := by
  rw [List.take_add_one, h]
  refine ⟨?_, by simp⟩
  unfold valB
  rw [Option.toList_some, List.foldl_append]
  rfl
theorem not_all {l : List UInt8} {i : Nat} {c : UInt8} (h : l[i]? = some c) (hc : digB c = false) : l.all digB = false := by
  rw [← Bool.not_eq_true]
  intro ha
  have := List.all_eq_true.1 ha c (List.mem_of_getElem? h)
  rw [hc] at this
  cases this
/-- What number() answers. -/
def numV (k : List UInt8) : Value := .tuple #[.int .i64 (((numK k).getD 0 : Nat) : Int), .bool (numK k).isSome]
set_option maxRecDepth 100000 in
set_option maxHeartbeats 4000000 in
theorem number_any (s : ByteArray) (w : World) :
    Calls Tryz.prog 47 #[.string s] w fun e w' => e = .returned (numV s.data.toList) ∧ Below w.heap.size w w' := by
  have HTR := Lib.hid (fun W => Tryz.strings_TrimPrefix s ⟨#[108, 111, 103, 46]⟩ W)
  obtain ⟨l, hl⟩ : ∃ l, Lib.trimPrefix s.data.toList preL = l := ⟨_, rfl⟩
  have hl2 : Lib.trimPrefix s.data.toList (ByteArray.mk #[108, 111, 103, 46]).data.toList = l := hl
  rw [hl2] at HTR
  have hNV : numV s.data.toList = if l.length = 12 then if l.all digB then if 0 < valB l then .tuple #[.int .i64 (valB l : Int), .bool true] else .tuple #[.int .i64 0, .bool false] else .tuple #[.int .i64 0, .bool false] else .tuple #[.int .i64 0, .bool false] := by
    unfold numV numK
    rw [hl]
    by_cases h1 : l.length = 12
    · rw [if_pos h1, if_pos h1]
      by_cases h2 : l.all digB = true
      · rw [if_pos h2, if_pos h2]
        by_cases h3 : 0 < valB l
        · rw [if_pos h3, if_pos h3]; rfl
        · rw [if_neg h3, if_neg h3]; rfl
      · rw [if_neg h2, if_neg h2]; rfl
    · rw [if_neg h1, if_neg h1]; rfl
  have HNV := Lib.hid hNV
  obtain ⟨T, hT⟩ : ∃ T : ByteArray, ⟨l.toArray⟩ = T := ⟨_, rfl⟩
  have hTz : T.size = l.length := by rw [← hT]; exact bs_size l
  have hTd : T.data.toList = l := by rw [← hT]
  rw [hT] at HTR
  clear hl hl2 hNV hT
  by_cases h12 : l.length = 12
  · have hTz : T.size = 12 := by omega
    have H12 := Lib.hid h12
    have hcv := Lib.run_convert_string_bytes (P := Tryz.prog) w 9 98 5 T Tryz.underlying9 Tryz.underlying98 Tryz.underlying5
    have HBY := Lib.hid (ByR.new w 5 T)
    have HB := Lib.hid (newBytesR w 5 T)
    rw [hTd] at HBY
    rw [hTz] at hcv
    clear h12 hTd
    go_enter Tryz.func47, Tryz.ntmps47
    go_wp2_with (first | (go_at_call 77; refine (HTR.out _).mono ?_; rintro e w1 ⟨rfl, hw1⟩; rw [hw1]; clear hw1) | fail)
    clear hcv
    generalize bytesWorld w 5 T = w5 at *
    generalize grownCap w 12 0 5 = cb at *
    go_loopw [5, 16] (fun nv iv wr => ∃ (i m : Nat), i ≤ 12 ∧ nv = .int .i64 (m : Int) ∧ iv = .int .i64 (i : Int) ∧ m < 10 ^ i ∧ Hid (valB (l.take i) = m ∧ (l.take i).all digB = true) ∧ wr = w5) (fun _ iv _ => 12 - (intOf iv).toNat)
    case atStart => exact ⟨0, 0, by omega, rfl, rfl, by decide, ⟨rfl, rfl⟩, rfl⟩
    case round =>
      obtain ⟨i, m, hi, rfl, rfl, hm, HV, rfl⟩ := hrel
      by_cases hlt : i < 12
      · have hlti : (i : Int) < 12 := by omega
        have hi0 : (0 : Int) ≤ (i : Int) := by omega
        have hil : i < l.length := by rw [H12.out]; exact hlt
        obtain ⟨c, hc⟩ : ∃ c, l[i]? = some c := ⟨_, List.getElem?_eq_getElem hil⟩
        have hcl : l.getD i 0 = c := by rw [List.getD_eq_getElem?_getD, hc]; rfl
        obtain ⟨b0, _⟩ := HBY.out i hil
        rw [hcl] at b0
        have hm1 : m < 100000000000 := Nat.lt_of_lt_of_le hm (Nat.pow_le_pow_right (by decide) (by omega : i ≤ 11))
        have HP := Lib.hid hm
        have HC := Lib.hid hc
        have hcn := c.toNat_lt
        clear hcl hc hm hil
        by_cases c1 : c.toNat < 48
        · have c1i : (c.toNat : Int) < 48 := by omega
          have HE : Hid (numV s.data.toList = .tuple #[.int .i64 0, .bool false]) := by
            show _ = _
            rw [HNV.out, if_pos H12.out, if_neg (by rw [not_all HC.out (by simp [digB]; omega)]; decide)]
          go_wp2_with fail
          go_ret2
          exact ⟨by rw [HE.out]; rfl, HB.out⟩
        · have c1i : ¬ (c.toNat : Int) < 48 := by omega
          by_cases c2 : 57 < c.toNat
          · have c2i : (57 : Int) < (c.toNat : Int) := by omega
            have HE : Hid (numV s.data.toList = .tuple #[.int .i64 0, .bool false]) := by
              show _ = _
              rw [HNV.out, if_pos H12.out, if_neg (by rw [not_all HC.out (by simp [digB]; omega)]; decide)]
            go_wp2_with fail
            go_ret2
            exact ⟨by rw [HE.out]; rfl, HB.out⟩
          · have c2i : ¬ (57 : Int) < (c.toNat : Int) := by omega
            obtain ⟨z, hz⟩ : ∃ z, c.toNat - 48 = z := ⟨_, rfl⟩
            have HN : Hid (valB (l.take (i + 1)) = 10 * m + z ∧ (l.take (i + 1)).all digB = true) := by
              obtain ⟨h1, h2⟩ := valB_take HC.out
              refine ⟨by rw [h1, HV.out.1, hz], ?_⟩
              rw [h2, HV.out.2]
              simp [digB]
              omega
            have hP2 : 10 * m + z < 10 ^ (i + 1) := by
              have := HP.out
              rw [Nat.pow_succ]
              omega
            have HP2 := Lib.hid hP2
            have q0 : IntKind.u8.wrap ((c.toNat : Int) - 48) = (z : Int) := by
              simp only [IntKind.wrap, IntKind.bits, IntKind.signed]
              simp
              omega
            have q1 : IntKind.i64.wrap (10 * (m : Int)) = 10 * (m : Int) := by rw [IntKind.wrap_i64]; omega
            have q2 : IntKind.i64.wrap (10 * (m : Int) + (z : Int)) = 10 * (m : Int) + (z : Int) := by rw [IntKind.wrap_i64]; omega
            have q3 : IntKind.i64.wrap (z : Int) = (z : Int) := by rw [IntKind.wrap_i64]; omega
            clear hz hP2
            go_wp2_with fail
            go_roundw
            case rel => exact ⟨i + 1, 10 * m + z, by omega, by go_num, by go_num, HP2.out, HN, trivial⟩
            case measure => simp [intOf]; omega
      · obtain rfl : i = 12 := by omega
        have hlti : ¬ (12 : Int) < 12 := by omega
        have hv : valB l = m ∧ l.all digB = true := by
          have := HV.out
          rwa [List.take_of_length_le (by rw [H12.out]; exact Nat.le_refl _)] at this
        by_cases hm0 : 0 < m
        · have hm0i : (0 : Int) < (m : Int) := by omega
          have HE : Hid (numV s.data.toList = .tuple #[.int .i64 (m : Int), .bool true]) := by
            show _ = _
            rw [HNV.out, if_pos H12.out, if_pos hv.2, hv.1, if_pos hm0]
          clear hv hm
          go_wp2_with fail
          go_ret2
          exact ⟨by rw [HE.out]; rfl, HB.out⟩
        · obtain rfl : m = 0 := by omega
          have HE : Hid (numV s.data.toList = .tuple #[.int .i64 0, .bool false]) := by
            show _ = _
            rw [HNV.out, if_pos H12.out, if_pos hv.2, hv.1]
            rfl
          clear hv hm
          go_wp2_with fail
          go_ret2
          exact ⟨by rw [HE.out]; rfl, HB.out⟩
  · have h12b : ((T.size : Int) != 12) = true := by simp; omega
    have HE : Hid (numV s.data.toList = .tuple #[.int .i64 0, .bool false]) := by show _ = _; rw [HNV.out, if_neg h12]
    clear hTd
    go_enter Tryz.func47, Tryz.ntmps47
    go_wp2_with (first | (go_at_call 77; refine (HTR.out _).mono ?_; rintro e w1 ⟨rfl, hw1⟩; rw [hw1]; clear hw1) | fail)
    go_ret2
    exact ⟨by rw [HE.out]; rfl, Below.refl _ _⟩
end Go.Proofs.YtnpgjlhnlakgpaaGreatDoor

/- The document's number of a file's name. -/
import Derived.Test.YtnpgjlhnlakgpaaGreatDoorG13
import Derived.Test.YtnpgjlhnlakgpaaGreatDoorG08
namespace Go.Proofs.YtnpgjlhnlakgpaaGreatDoor
open Go.RowKit Go.Maps

/-- The number of a file's name, as the document tells it. -/
def rnumZ (k : List UInt8) : Int := if Lib.hasPrefix k preL then match numK k with
  | none => -1
  | some n => (n : Int)
  else 0
theorem valB_takeQ {l : List UInt8} {i : Nat} {c : UInt8} (h : l[i]? = some c) : valB (l.take (i + 1)) = 10 * valB (l.take i) + (c.toNat - 48) ∧ (l.take (i + 1)).all digB = ((l.take i).all digB && digB c) := by
  rw [List.take_add_one, h]
  refine ⟨?_, by simp⟩
  unfold valB
  rw [Option.toList_some, List.foldl_append]
  rfl
theorem not_allQ {l : List UInt8} {i : Nat} {c : UInt8} (h : l[i]? = some c) (hc : digB c = false) : l.all digB = false := by
  rw [← Bool.not_eq_true]
  intro ha
  have := List.all_eq_true.1 ha c (List.mem_of_getElem? h)
  rw [hc] at this
  cases this
theorem pre_take {k : List UInt8} : Lib.hasPrefix k preL = true ↔ 4 ≤ k.length ∧ k.take 4 = preL := by
  unfold Lib.hasPrefix
  rw [List.isPrefixOf_iff_prefix, List.prefix_iff_eq_take]
  constructor
  · intro h
    have hl : preL.length = (k.take preL.length).length := by rw [← h]
    rw [List.length_take] at hl
    refine ⟨?_, h.symm⟩
    have : preL.length = 4 := rfl
    omega
  · intro h; exact h.2.symm
set_option maxRecDepth 100000 in
set_option maxHeartbeats 8000000 in
theorem rnumber_any (s : ByteArray) (hs : s.size ≤ 9223372036854775807) (w : World) :
    Calls Tryz.prog 53 #[.string s] w fun e w' => e = .returned (.int .i64 (rnumZ s.data.toList)) ∧ w' = w := by
  have hsl : s.data.toList.length = s.size := by simp
  by_cases h4 : s.size < 4
  · have hR : rnumZ s.data.toList = 0 := by
      unfold rnumZ
      rw [if_neg (fun h => by have := (pre_take.1 h).1; omega)]
    rw [hR]
    have h4i : (s.size : Int) < 4 := by omega
    clear hR hsl
    go_enter Tryz.func53, Tryz.ntmps53
    go_wp2_with fail
    go_ret
    exact ⟨rfl, rfl⟩
  have h4i : ¬ (s.size : Int) < 4 := by omega
  have hx : (s.extract 0 4).data.toList = s.data.toList.take 4 := by simp
  by_cases hp : s.data.toList.take 4 = preL
  · have hpp : Lib.hasPrefix s.data.toList preL = true := pre_take.2 ⟨by omega, hp⟩
    have hxx : s.extract 0 4 = ⟨#[108, 111, 103, 46]⟩ := ba_of_list (by rw [hx, hp]; rfl)
    obtain ⟨l, hl⟩ : ∃ l, s.data.toList.drop 4 = l := ⟨_, rfl⟩
    have htr : Lib.trimPrefix s.data.toList preL = l := by unfold Lib.trimPrefix; rw [hpp, if_pos rfl]; exact hl
    have hll : l.length + 4 = s.size := by rw [← hl, List.length_drop]; omega
    have hR : rnumZ s.data.toList = if l.length = 12 then if l.all digB then if 0 < valB l then (valB l : Int) else -1 else -1 else -1 := by
      unfold rnumZ numK
      rw [hpp, if_pos rfl, htr]
      by_cases h1 : l.length = 12
      · rw [if_pos h1, if_pos h1]
        by_cases h2 : l.all digB = true
        · rw [if_pos h2, if_pos h2]
          by_cases h3 : 0 < valB l
          · rw [if_pos h3, if_pos h3]
          · rw [if_neg h3, if_neg h3]
        · rw [if_neg h2, if_neg h2]
      · rw [if_neg h1, if_neg h1]
    by_cases h16 : s.size = 16
    · have h12 : l.length = 12 := by omega
      rw [if_pos h12] at hR
      have HR := Lib.hid hR
      have H12 := Lib.hid h12
      have hch : ∀ i c, l[i]? = some c → s.data.toList[4 + i]? = some c := fun i c hc => by rw [← hl, List.getElem?_drop] at hc; exact hc
      have HCH := Lib.hid hch
      clear hsl hx hp hpp hl htr hll hR hch h12
      go_enter Tryz.func53, Tryz.ntmps53
      go_wp2_with fail
      go_loopw [3, 4] (fun nv iv wr => ∃ (i m : Nat), i ≤ 12 ∧ nv = .int .i64 (m : Int) ∧ iv = .int .i64 ((i + 4 : Nat) : Int) ∧ m < 10 ^ i ∧ Hid (valB (l.take i) = m ∧ (l.take i).all digB = true) ∧ wr = w) (fun _ iv _ => 16 - (intOf iv).toNat)
      case atStart => exact ⟨0, 0, by omega, rfl, rfl, by decide, ⟨rfl, rfl⟩, rfl⟩
      case round =>
        obtain ⟨i, m, hi, rfl, rfl, hm, HV, rfl⟩ := hrel
        by_cases hlt : i < 12
        · have hil : i < l.length := by rw [H12.out]; exact hlt
          obtain ⟨c, hc⟩ : ∃ c, l[i]? = some c := ⟨_, List.getElem?_eq_getElem hil⟩
          obtain ⟨j, hj⟩ : ∃ j, i + 4 = j := ⟨_, rfl⟩
          have HJ := Lib.hid hj
          have hlti : (j : Int) < 16 := by omega
          have hki : (j : Int) < (s.size : Int) := by omega
          have hkl : j < s.size := by omega
          have hsc : s[j] = c := by
            have h1 := HCH.out i c hc
            have h2 : s.data.toList[j]? = some c := by rw [← HJ.out, Nat.add_comm]; exact h1
            have h3 : s.data.toList[j]? = some s[j] := by
              rw [List.getElem?_eq_getElem (by simpa using hkl)]
              rfl
            rw [h3] at h2
            exact Option.some.inj h2
          have hm1 : m < 100000000000 := Nat.lt_of_lt_of_le hm (Nat.pow_le_pow_right (by decide) (by omega : i ≤ 11))
          have HP := Lib.hid hm
          have HC := Lib.hid hc
          have hcn := c.toNat_lt
          simp only [hj]
          clear hc hm hil hj
          by_cases c1 : c.toNat < 48
          · have c1i : (c.toNat : Int) < 48 := by omega
            have HE : Hid (rnumZ s.data.toList = -1) := by
              show _ = _
              rw [HR.out, if_neg (by rw [not_allQ HC.out (by simp [digB]; omega)]; decide)]
            go_wp2_with fail
            go_ret
            exact ⟨by rw [HE.out]; rfl, rfl⟩
          · have c1i : ¬ (c.toNat : Int) < 48 := by omega
            by_cases c2 : 57 < c.toNat
            · have c2i : (57 : Int) < (c.toNat : Int) := by omega
              have HE : Hid (rnumZ s.data.toList = -1) := by
                show _ = _
                rw [HR.out, if_neg (by rw [not_allQ HC.out (by simp [digB]; omega)]; decide)]
              go_wp2_with fail
              go_ret
              exact ⟨by rw [HE.out]; rfl, rfl⟩
            · have c2i : ¬ (57 : Int) < (c.toNat : Int) := by omega
              obtain ⟨z, hz⟩ : ∃ z, c.toNat - 48 = z := ⟨_, rfl⟩
              have HN : Hid (valB (l.take (i + 1)) = 10 * m + z ∧ (l.take (i + 1)).all digB = true) := by
                obtain ⟨h1, h2⟩ := valB_takeQ HC.out
                refine ⟨by rw [h1, HV.out.1, hz], ?_⟩
                rw [h2, HV.out.2]
                simp [digB]
                omega
              have hP2 : 10 * m + z < 10 ^ (i + 1) := by
                have := HP.out
                rw [Nat.pow_succ]
                omega
              have HP2 := Lib.hid hP2
              have q0 : IntKind.u8.wrap ((c.toNat : Int) - 48) = (z : Int) := by
                simp only [IntKind.wrap, IntKind.bits, IntKind.signed]
                simp
                omega
              have q1 : IntKind.i64.wrap (10 * (m : Int)) = 10 * (m : Int) := by rw [IntKind.wrap_i64]; omega
              have q2 : IntKind.i64.wrap (10 * (m : Int) + (z : Int)) = 10 * (m : Int) + (z : Int) := by rw [IntKind.wrap_i64]; omega
              have q3 : IntKind.i64.wrap (z : Int) = (z : Int) := by rw [IntKind.wrap_i64]; omega
              clear hz hP2
              go_wp2_with fail
              go_roundw
              case rel => exact ⟨i + 1, 10 * m + z, by omega, by go_num, by rw [← HJ.out]; go_num, HP2.out, HN, trivial⟩
              case measure => simp [intOf]; omega
        · obtain rfl : i = 12 := by omega
          have hlti : ¬ ((12 + 4 : Nat) : Int) < 16 := by omega
          have hv : valB l = m ∧ l.all digB = true := by
            have := HV.out
            rwa [List.take_of_length_le (by rw [H12.out]; exact Nat.le_refl _)] at this
          by_cases hm0 : 0 < m
          · have hm0i : ¬ (m : Int) < 1 := by omega
            have HE : Hid (rnumZ s.data.toList = (m : Int)) := by
              show _ = _
              rw [HR.out, if_pos hv.2, hv.1, if_pos hm0]
            clear hv hm
            go_wp2_with fail
            go_ret
            exact ⟨by rw [HE.out]; rfl, rfl⟩
          · obtain rfl : m = 0 := by omega
            have HE : Hid (rnumZ s.data.toList = -1) := by
              show _ = _
              rw [HR.out, if_pos hv.2, hv.1]
              rfl
            clear hv hm
            go_wp2_with fail
            go_ret
            exact ⟨by rw [HE.out]; rfl, rfl⟩
    · have hR2 : rnumZ s.data.toList = -1 := by rw [hR, if_neg (by omega)]
      rw [hR2]
      have h16i : ((s.size : Int) != 16) = true := by simp; omega
      clear hR hR2 hsl hx hp hpp hl htr hll
      go_enter Tryz.func53, Tryz.ntmps53
      go_wp2_with fail
      go_ret
      exact ⟨rfl, rfl⟩
  · have hR : rnumZ s.data.toList = 0 := by
      unfold rnumZ
      rw [if_neg (fun h => hp (pre_take.1 h).2)]
    rw [hR]
    have hxx : ((s.extract 0 4).toList == ([108, 111, 103, 46] : List UInt8)) = false := by
      rw [beq_eq_false_iff_ne, ne_eq, ByteArray.toList_eq]
      intro e
      exact hp (by rw [← hx, e]; rfl)
    clear hR hsl hx hp
    go_enter Tryz.func53, Tryz.ntmps53
    go_wp2_with fail
    go_ret
    exact ⟨rfl, rfl⟩
end Go.Proofs.YtnpgjlhnlakgpaaGreatDoor

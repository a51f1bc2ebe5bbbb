/- The document's Name. -/
import Derived.Test.YtnpgjlhnlakgpaaDoorLexG0
import Derived.Test.YtnpgjlhnlakgpaaDoorLexRw
import Derived.Test.YtnpgjlhnlakgpaaDoorLexUp
import Derived.Test.YtnpgjlhnlakgpaaDoorG02
namespace Go.Proofs.YtnpgjlhnlakgpaaDoor
open Go.RowKit

set_option maxRecDepth 100000 in
set_option maxHeartbeats 4000000 in
theorem rName_any (s : ByteArray) (w : World) (hs : s.size ≤ 140737488351232) : Calls Tryd.prog 24 #[.string s] w fun e w' => e = .returned (.bool (isNameF s.data.toList)) ∧ Below w.heap.size w w' := by
  have HLS : Hid (s.data.toList.length = s.size) := by show _ = _; simp
  cases he : s.toList.isEmpty with
  | true =>
    have hE : Hid (isNameF s.data.toList = false) := by
      show _ = _
      rw [ByteArray.toList_eq] at he
      unfold isNameF
      rw [he]; rfl
    go_enter Tryd.func24, Tryd.ntmps24
    go_wp2_with fail
    go_ret
    exact ⟨by rw [hE.out]; rfl, Below.refl _ _⟩
  | false =>
    have hpos : 0 < s.size := by
      rw [ByteArray.toList_eq] at he
      rw [← HLS.out]
      exact List.length_pos_iff.2 (fun h => by rw [h] at he; cases he)
    by_cases h20 : 20 < s.size
    · have h20i : (20 : Int) < (s.size : Int) := by omega
      have hE : Hid (isNameF s.data.toList = false) := by
        show _ = _
        unfold isNameF
        rw [decide_eq_false (show ¬ s.data.toList.length ≤ 20 by rw [HLS.out]; omega)]
        simp
      go_enter Tryd.func24, Tryd.ntmps24
      go_wp2_with fail
      go_ret
      exact ⟨by rw [hE.out]; rfl, Below.refl _ _⟩
    · have h20i : ¬ (20 : Int) < (s.size : Int) := by omega
      have hposi : (0 : Int) < (s.size : Int) := by omega
      have HH : Hid (s.data.toList.headD 0 = s[0]) := by
        show _ = _
        have h := from_lt hpos
        unfold fromS at h
        rw [List.drop_zero] at h
        rw [h]
        rfl
      cases h1 : isLet s[0] with
      | false =>
        have hE : Hid (isNameF s.data.toList = false) := by
          show _ = _
          unfold isNameF
          rw [HH.out, h1]
          simp
        go_enter Tryd.func24, Tryd.ntmps24
        go_wp2_with (first | (go_at_call 57; refine (is_rlet h1 _).mono ?_; rintro e w9 ⟨rfl, hw9⟩; rw [hw9]; clear hw9) | fail)
        go_ret
        exact ⟨by rw [hE.out]; rfl, Below.refl _ _⟩
      | true =>
        have HN : Hid (∀ (b : Bool), (∀ c ∈ s.data.toList, isNm c = true) → decide (s.data.toList.map loB = s.data.toList) = b → isNameF s.data.toList = (b && !isWord (s.data.toList.map upB))) := by
          intro b ha hb
          unfold isNameF
          have h3 : s.data.toList.all isNm = true := List.all_eq_true.2 ha
          have h4 : s.data.toList.isEmpty = false := by rw [ByteArray.toList_eq] at he; exact he
          rw [HH.out, h1, h3, h4, decide_eq_true (show s.data.toList.length ≤ 20 by rw [HLS.out]; omega), hb]
          rfl
        have HNo : Hid (∀ (k : Nat) (hk : k < s.size), isNm s[k] = false → isNameF s.data.toList = false) := by
          intro k hk hf
          unfold isNameF
          have h3 : s.data.toList.all isNm = false := by
            rw [List.all_eq_false]
            refine ⟨s[k], ?_, by rw [hf]; decide⟩
            rw [at_data hk (by rw [HLS.out]; exact hk)]
            exact List.getElem_mem _
          rw [h3]
          simp
        obtain ⟨U, hUd⟩ : ∃ U : ByteArray, (⟨(s.data.toList.map upB).toArray⟩ : ByteArray) = U := ⟨_, rfl⟩
        obtain ⟨L, hLd⟩ : ∃ L : ByteArray, (⟨(s.data.toList.map loB).toArray⟩ : ByteArray) = L := ⟨_, rfl⟩
        have HU := Lib.hid (fun W => upper_any s W (by omega))
        have HL := Lib.hid (fun W => lower_any s W (by omega))
        rw [hUd] at HU
        rw [hLd] at HL
        have hUs : U.size ≤ 140737488351232 := by
          rw [← hUd]; show (s.data.toList.map upB).toArray.size ≤ _; simpa using hs
        have HW : Hid (isWord U.data.toList = isWord (s.data.toList.map upB)) := by show _ = _; rw [← hUd]
        obtain ⟨eb, heb⟩ : ∃ eb, (L.toList == s.toList) = eb := ⟨_, rfl⟩
        have HEb : Hid (decide (s.data.toList.map loB = s.data.toList) = eb) := by
          show _ = _
          rw [← heb, ByteArray.toList_eq, ByteArray.toList_eq, ← hLd, Bool.eq_iff_iff]
          simp
        obtain ⟨wb, hwb⟩ : ∃ wb, isWord (s.data.toList.map upB) = wb := ⟨_, rfl⟩
        rw [hwb] at HW HN
        clear hUd hLd hwb
        go_enter Tryd.func24, Tryd.ntmps24
        go_wp2_with (first | (go_at_call 57; refine (is_rlet h1 _).mono ?_; rintro e w9 ⟨rfl, hw9⟩; rw [hw9]; clear hw9) | fail)
        clear h1
        go_loopw [3] (fun iv wr => ∃ k : Nat, k ≤ s.size ∧ iv = .int .i64 (k : Int) ∧ Below w.heap.size w wr ∧ Hid (∀ c ∈ s.data.toList.take k, isNm c = true)) (fun iv _ => s.size - (intOf iv).toNat)
        case atStart => exact ⟨0, Nat.zero_le _, rfl, Below.refl _ _, by show ∀ c ∈ List.take 0 _, _; simp⟩
        case round =>
          obtain ⟨k, hk, rfl, hB, HQ⟩ := hrel
          have HB := Lib.hid hB
          clear hB
          by_cases hlt : k < s.size
          · have hlti : (k : Int) < (s.size : Int) := by omega
            cases hp : isNm s[k] with
            | false =>
              have hE := Lib.hid (HNo.out k hlt hp)
              obtain ⟨h1, h2⟩ : isLet s[k] = false ∧ isDig s[k] = false := by simpa [isNm] using hp
              go_wp2_with (first | (go_at_call 57; refine (is_rlet h1 _).mono ?_; rintro e w9 ⟨rfl, hw9⟩; rw [hw9]; clear hw9) | (go_at_call 58; refine (is_rdig h2 _).mono ?_; rintro e w9 ⟨rfl, hw9⟩; rw [hw9]; clear hw9) | fail)
              go_ret
              exact ⟨by rw [hE.out]; rfl, HB.out⟩
            | true =>
              have HQ2 : Hid (∀ c ∈ s.data.toList.take (k + 1), isNm c = true) := by
                intro c hc
                rw [List.take_succ_eq_append_getElem (by rw [HLS.out]; exact hlt), List.mem_append, List.mem_singleton] at hc
                rcases hc with hc | rfl
                · exact HQ.out c hc
                · rw [← at_data hlt]; exact hp
              cases h1 : isLet s[k] with
              | false =>
                have h2 : isDig s[k] = true := by simpa [isNm, h1] using hp
                clear HQ
                go_wp2_with (first | (go_at_call 57; refine (is_rlet h1 _).mono ?_; rintro e w9 ⟨rfl, hw9⟩; rw [hw9]; clear hw9) | (go_at_call 58; refine (is_rdig h2 _).mono ?_; rintro e w9 ⟨rfl, hw9⟩; rw [hw9]; clear hw9) | fail)
                go_roundw
                case rel => exact ⟨k + 1, by omega, by go_num, HB.out, HQ2⟩
                case measure => simp [intOf]; omega
              | true =>
                clear HQ
                go_wp2_with (first | (go_at_call 57; refine (is_rlet h1 _).mono ?_; rintro e w9 ⟨rfl, hw9⟩; rw [hw9]; clear hw9) | fail)
                go_roundw
                case rel => exact ⟨k + 1, by omega, by go_num, HB.out, HQ2⟩
                case measure => simp [intOf]; omega
          · have hkk : k = s.size := by omega
            have hlti : ¬ (k : Int) < (s.size : Int) := by omega
            have hall : ∀ c ∈ s.data.toList, isNm c = true := by
              have := HQ.out
              rwa [hkk, List.take_of_length_le (by rw [HLS.out]; exact Nat.le_refl _)] at this
            have hE := Lib.hid (HN.out _ hall HEb.out)
            clear HQ hall HN HEb
            cases eb with
            | false =>
              go_wp2_with (first | (go_at_call 25; refine (HL.out _).mono ?_; rintro e w5 ⟨rfl, hb⟩; have HB5 := Lib.hid (HB.out.trans (hb.mono HB.out.size)); clear hb) | fail)
              go_ret
              exact ⟨by rw [hE.out]; rfl, HB5.out⟩
            | true =>
              go_wp2_with (first
                | (go_at_call 25; refine (HL.out _).mono ?_; rintro e w5 ⟨rfl, hb⟩; have HB5 := Lib.hid (HB.out.trans (hb.mono HB.out.size)); clear hb)
                | (go_at_call 20; refine (HU.out _).mono ?_; rintro e w6 ⟨rfl, hb⟩; have HB6 := Lib.hid (HB5.out.trans (hb.mono HB5.out.size)); clear hb)
                | (go_at_call 19; refine (rWord_any U _ hUs).mono ?_; rintro e w9 ⟨rfl, hw9⟩; rw [hw9, HW.out]; clear hw9)
                | fail)
              go_ret
              exact ⟨by rw [hE.out]; simp, HB6.out⟩
end Go.Proofs.YtnpgjlhnlakgpaaDoor

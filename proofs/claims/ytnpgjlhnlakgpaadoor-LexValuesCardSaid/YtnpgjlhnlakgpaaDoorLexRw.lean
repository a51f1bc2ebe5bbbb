/- The document's Word. -/
import Derived.Test.YtnpgjlhnlakgpaaDoorLexF1
import Derived.Test.YtnpgjlhnlakgpaaDoorLexW
import Derived.Deep.DeepCutAuto
namespace Go.Proofs.YtnpgjlhnlakgpaaDoor
open Go.RowKit

theorem isWord_no {l : List UInt8} (h : (32 : UInt8) ∈ l) : isWord l = false := by
  cases hw : isWord l with
  | false => rfl
  | true =>
    unfold isWord at hw
    rw [List.contains_iff_mem] at hw
    exact absurd rfl ((word_good l hw).2.1 32 h)
theorem isWord_nil : isWord [] = false := by decide +kernel
theorem allT_length : allT.length = 275 := by decide +kernel
theorem isWord_at {l : List UInt8} (hl : ∀ c ∈ l, c ≠ 32) {i : Nat} (hi : i + (l.length + 2) ≤ 275) (h : (allT.drop i).take (l.length + 2) = 32 :: (l ++ [32])) : isWord l = true :=
  (word_iff l hl).1 ((infix_at _ _).2 ⟨i, by rw [allT_length]; simpa [Nat.add_assoc] using hi, by simpa [Nat.add_assoc] using h⟩)
theorem isWord_none {l : List UInt8} (hl : ∀ c ∈ l, c ≠ 32) (h : ∀ i, i + (l.length + 2) ≤ 275 → (allT.drop i).take (l.length + 2) ≠ 32 :: (l ++ [32])) : isWord l = false := by
  cases hw : isWord l with
  | false => rfl
  | true =>
    obtain ⟨i, h1, h2⟩ := (infix_at _ _).1 ((word_iff l hl).2 hw)
    rw [allT_length] at h1
    exact absurd (by simpa [Nat.add_assoc] using h2) (h i (by simpa [Nat.add_assoc] using h1))


theorem at_data {s : ByteArray} {k : Nat} (h : k < s.size) (h' : k < s.data.toList.length) : s[k] = s.data.toList[k] := by
  show s.data[k]'h = _
  simp
theorem infix_ext {s V : ByteArray} (hV : V.data.toList = 32 :: (s.data.toList ++ [32])) {A : ByteArray} (hA : A.data.toList = allT) {k : Nat} {v : Bool} (h : ((A.extract k (k + (s.size + 2))).toList == V.toList) = v) :
    ((allT.drop k).take (s.data.toList.length + 2) = 32 :: (s.data.toList ++ [32])) ↔ v = true := by
  rw [← h, ByteArray.toList_eq, ByteArray.toList_eq, hV, ByteArray.data_extract, ← hA]
  have : s.data.toList.length = s.size := by simp
  rw [this]
  simp

set_option maxRecDepth 100000 in
set_option maxHeartbeats 4000000 in
theorem rWord_any (s : ByteArray) (w : World) (hs : s.size ≤ 140737488351232) : Calls Tryd.prog 19 #[.string s] w fun e w' => e = .returned (.bool (isWord s.data.toList)) ∧ w' = w := by
  have hls : s.data.toList.length = s.size := by simp
  cases he : s.toList.isEmpty with
  | true =>
    have hE : Hid (isWord s.data.toList = false) := by
      show _ = _
      rw [ByteArray.toList_eq] at he
      rw [List.isEmpty_iff.1 he, isWord_nil]
    go_enter Tryd.func19, Tryd.ntmps19
    go_wp2_with fail
    go_ret
    exact ⟨by rw [hE.out]; rfl, rfl⟩
  | false =>
    go_enter Tryd.func19, Tryd.ntmps19
    go_wp2_with fail
    have HLS := Lib.hid hls
    clear hls
    go_loopw [3] (fun iv wr => ∃ k : Nat, k ≤ s.size ∧ iv = .int .i64 (k : Int) ∧ wr = w ∧ ∀ c ∈ s.data.toList.take k, c ≠ 32) (fun iv _ => s.size - (intOf iv).toNat)
    case atStart => exact ⟨0, Nat.zero_le _, rfl, rfl, by simp⟩
    case round =>
      obtain ⟨k, hk, rfl, rfl, hq⟩ := hrel
      have HQ := Lib.hid hq
      clear hq
      by_cases hlt : k < s.size
      · have hkl : Hid (k < s.data.toList.length) := by show k < _; rw [HLS.out]; exact hlt
        have hlti : (k : Int) < (s.size : Int) := by omega
        have HD := Lib.hid (at_data hlt hkl.out)
        by_cases hc : s[k] = 32
        · have HW := Lib.hid (isWord_no ((HD.out.symm.trans hc) ▸ List.getElem_mem hkl.out))
          have hci : (s[k].toNat : Int) = 32 := by rw [hc]; rfl
          clear hc
          go_wp2_with fail
          go_ret
          exact ⟨by rw [HW.out]; rfl, rfl⟩
        · have hci : ¬ (s[k].toNat : Int) = 32 := fun h => hc (by apply UInt8.toNat_inj.1; have : (32 : UInt8).toNat = 32 := rfl; omega)
          have hcb : ((s[k].toNat : Int) == 32) = false := by simpa using hci
          have HC := Lib.hid hc
          clear hc hci
          go_wp2_with fail
          go_roundw
          case rel => exact ⟨k + 1, by omega, by go_num, trivial, fun c h => by
            rw [List.take_succ_eq_append_getElem hkl.out, List.mem_append, List.mem_singleton] at h
            rcases h with h | rfl
            · exact HQ.out c h
            · rw [← HD.out]; exact HC.out⟩
          case measure => simp [intOf]; omega
      · obtain rfl : k = s.size := by omega
        have HN : Hid (∀ c ∈ s.data.toList, c ≠ 32) := by
          have := HQ.out
          rwa [List.take_of_length_le (by rw [HLS.out]; exact Nat.le_refl _)] at this
        obtain ⟨V, hV⟩ : ∃ V, (⟨#[32]⟩ : ByteArray) ++ s ++ ⟨#[32]⟩ = V := ⟨_, rfl⟩
        have hVs : V.size = s.size + 2 := by rw [← hV, ByteArray.size_append, ByteArray.size_append]; show 1 + s.size + 1 = _; omega
        have HV : Hid (V.data.toList = 32 :: (s.data.toList ++ [32])) := by
          show _ = _
          rw [← hV, ByteArray.data_append, ByteArray.data_append]; simp
        go_wp2_with fail
        go_loopw [5] (fun iv w2 => ∃ k : Nat, k ≤ 275 ∧ iv = .int .i64 (k : Int) ∧ w2 = wr ∧ Hid (∀ i, i < k → i + (s.data.toList.length + 2) ≤ 275 → (allT.drop i).take (s.data.toList.length + 2) ≠ 32 :: (s.data.toList ++ [32]))) (fun iv _ => 275 - (intOf iv).toNat)
        case atStart => exact ⟨0, Nat.zero_le _, rfl, rfl, fun i hi => by omega⟩
        case round =>
          obtain ⟨k, hk, rfl, rfl, HQ2⟩ := hrel
          by_cases hk2 : k + V.size ≤ 275
          · have hki : (k : Int) + (V.size : Int) ≤ 275 := by omega
            rw [hVs] at hki
            go_wp2_with fail
            · rename_i hq
              have HW : Hid (isWord s.data.toList = true) := isWord_at HN.out (by rw [HLS.out]; omega) ((infix_ext HV.out (by decide +kernel) hq).2 rfl)
              go_ret
              exact ⟨by rw [HW.out]; rfl, rfl⟩
            · rename_i hq
              have HW : Hid (¬ (allT.drop k).take (s.data.toList.length + 2) = 32 :: (s.data.toList ++ [32])) := fun h => by
                have := (infix_ext HV.out (by decide +kernel) hq).1 h
                cases this
              clear hq
              refine ⟨⟨k + 1, by omega, rfl, trivial, fun i hi hi2 => ?_⟩, by simp [intOf]; omega⟩
              rcases Nat.lt_succ_iff_lt_or_eq.1 hi with h | rfl
              · exact HQ2.out i h hi2
              · exact HW.out
          · have hki : ¬ (k : Int) + (V.size : Int) ≤ 275 := by omega
            rw [hVs] at hki
            have HW : Hid (isWord s.data.toList = false) := isWord_none HN.out (fun i hi => HQ2.out i (by rw [HLS.out] at hi; omega) hi)
            go_wp2_with fail
            go_ret
            exact ⟨by rw [HW.out]; rfl, rfl⟩
end Go.Proofs.YtnpgjlhnlakgpaaDoor

/- The names of the log's segments: any one. -/
import Derived.Test.YtnpgjlhnlakgpaaGreatDoorWalNm
import Derived.Test.YtnpgjlhnlakgpaaGreatDoorG11
import Derived.Test.YtnpgjlhnlakgpaaGreatDoorPow
import Derived.Test.YtnpgjlhnlakgpaaGreatDoorShelf
namespace Go.Proofs.YtnpgjlhnlakgpaaGreatDoor
open Go.RowKit Go.Maps Go.Lib

set_option maxRecDepth 100000 in
set_option maxHeartbeats 2000000 in
theorem name_any (n : Nat) (h0 : 0 < n) (h1 : n < 1000000000000) (w : World) (hP : Pow w) : Calls Tryz.prog 48 #[.int .i64 (n : Int)] w fun e w' => e = .returned (.string (nameN n)) ∧ Below w.heap.size w w' := by
  obtain ⟨d1, d2, d3⟩ := digs_dec 12 n (by omega) (by omega)
  obtain ⟨I, hI⟩ : ∃ I : ByteArray, I = ⟨(decDigits n).toArray⟩ := ⟨_, rfl⟩
  have hIz : I.size = (decDigits n).length := by rw [hI]; simp [ByteArray.size]
  have P1 : Hid (Calls Tryz.prog 78 #[.int .i64 (n : Int)] w fun e w' => e = .returned (.string I) ∧ Below w.heap.size w w') := by
    refine (Tryz.strconv_Itoa (n : Int) (by omega) (by omega) w hP).mono ?_
    rintro e w' ⟨rfl, k, os, rfl⟩
    exact ⟨by rw [itoa_nonneg, hI], Lib.below_grow _ _ (Nat.le_refl _) _ _⟩
  obtain ⟨c, hc⟩ : ∃ c, 12 - (decDigits n).length = c := ⟨_, rfl⟩
  obtain ⟨R, hR⟩ : ∃ R : ByteArray, R = ⟨(repeatL [48] c).toArray⟩ := ⟨_, rfl⟩
  have hRz : R.size = c := by rw [hR, repeat48]; simp [ByteArray.size]
  have P2 : Hid (∀ W, Calls Tryz.prog 79 #[.string ⟨#[48]⟩, .int .i64 (c : Int)] W fun e w' => e = .returned (.string R) ∧ Below W.heap.size W w') := fun W => by
    have h := Tryz.strings_Repeat ⟨#[48]⟩ c W (by omega) (by show 1 * c ≤ _; omega)
    rw [hR]
    exact h
  have hA : (ByteArray.mk #[108, 111, 103, 46]) ++ R ++ I = nameN n := by
    apply ByteArray.ext
    apply Array.toList_inj.1
    rw [ByteArray.data_append, ByteArray.data_append, hR, hI, repeat48]
    unfold nameN nameL
    rw [d1, hc]
    simp [preL]
  obtain ⟨K, hK⟩ : ∃ K, (decDigits n).length = K := ⟨_, rfl⟩
  rw [hK] at hIz hc d2 d3
  obtain ⟨KI, hKI⟩ : ∃ KI : Int, (K : Int) = KI := ⟨_, rfl⟩
  obtain ⟨CI, hCI⟩ : ∃ CI : Int, (c : Int) = CI := ⟨_, rfl⟩
  have hsz : (I.size : Int) = KI := by rw [hIz]; exact hKI
  have hww : IntKind.i64.wrap (12 - KI) = CI := by rw [IntKind.wrap_i64]; omega
  rw [hCI] at P2
  have hz4 : (ByteArray.mk #[108, 111, 103, 46]).size = 4 := rfl
  have hov1 : ¬ 9223372036854775807 < 4 + c := by omega
  have hz3 : (ByteArray.mk #[108, 111, 103, 46] ++ R).size = 4 + c := by rw [ByteArray.size_append]; omega
  have hov2 : ¬ 9223372036854775807 < 4 + c + I.size := by omega
  obtain ⟨NM, hNM⟩ : ∃ NM, nameN n = NM := ⟨_, rfl⟩
  rw [hNM] at hA ⊢
  obtain ⟨NI, hNI⟩ : ∃ NI : Int, (n : Int) = NI := ⟨_, rfl⟩
  rw [hNI] at P1 ⊢
  clear hI hR d1 d2 d3 hc hK hKI hCI hIz hNM hNI h0 h1 hP
  go_enter Tryz.func48, Tryz.ntmps48
  go_wp2_with (first
    | (go_at_call 78; refine P1.out.mono ?_; rintro e w9 ⟨rfl, hb⟩; have HB1 := Lib.hid hb; clear hb)
    | (go_at_call 79; refine (P2.out _).mono ?_; rintro e w2 ⟨rfl, hb⟩; have HB2 := Lib.hid (HB1.out.trans (hb.mono HB1.out.size)); clear hb)
    | fail)
  go_ret
  exact ⟨rfl, HB2.out⟩
end Go.Proofs.YtnpgjlhnlakgpaaGreatDoor

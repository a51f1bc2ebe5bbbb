/- The contract of the lexer's blanks. -/
import Derived.Test.YtnpgjlhnlakgpaaDoorLexF2
namespace Go.Proofs.YtnpgjlhnlakgpaaDoor
open Go.RowKit

theorem LX.put2 {w : World} {b m i : Nat} {s : ByteArray} (h : LX w b m s i) (k : Nat) : LX (w.setCell ⟨b, 1, none⟩ (.int .i64 ((i : Int) + (k : Int)))) b m s (i + k) := by
  have := h.put (i + k)
  simpa using this
theorem ext_all (s : ByteArray) (j : Nat) : (s.extract j s.size).data.toList = fromS s j := by
  rw [ByteArray.data_extract]
  show (s.data.extract j s.data.size).toList = s.data.toList.drop j
  simp only [Array.toList_extract, List.extract_eq_take_drop]
  rw [List.take_of_length_le (by simp)]
theorem index_at {s : ByteArray} {v : Int} (h : Lib.indexByte s.data.toList 10 = v) (w : World) : Calls Tryd.prog 78 #[.string s, .int .u8 10] w fun e w' => e = .returned (.int .i64 v) ∧ w' = w := by
  rw [← h]; exact Tryd.strings_IndexByte s 10 w
set_option maxRecDepth 100000 in
set_option maxHeartbeats 2000000 in
theorem blanks_any {w : World} {b m i : Nat} {s : ByteArray} (h : LX w b m s i) (hs : s.size ≤ 4000) (hi : i ≤ s.size) :
    Calls Tryd.prog 50 #[.pointer (some ⟨b, 0, none⟩)] w fun e w' => e = .returned (.tuple #[]) ∧ LX w' b m s (i + skipM false (fromS s i)) ∧ K1 b w w' := by
  have H := Lib.hid h
  clear h
  obtain ⟨T, hT⟩ : ∃ T, skipM false (fromS s i) = T := ⟨_, rfl⟩
  have HTT := Lib.hid hT
  rw [hT]
  clear hT
  go_enter Tryd.func50, Tryd.ntmps50
  go_wp2_with fail
  go_loopw [] (fun wr => ∃ j : Nat, i ≤ j ∧ j ≤ s.size ∧ LX wr b m s j ∧ K1 b w wr ∧ Hid (i + T = j + skipM false (fromS s j))) (fun wr => s.size - plc wr b)
  case atStart => exact ⟨i, Nat.le_refl _, hi, H.out, K1.refl _ _, by show _ = _; rw [HTT.out]⟩
  case round =>
    obtain ⟨j, hij, hj, hl, hk, HT⟩ := hrel
    have c0 := hl.c0
    have c1 := hl.c1
    have HL := Lib.hid hl
    have HK := Lib.hid hk
    have f1 := hl.f1
    have hplc := hl.plc
    have hbw := hl.lt
    clear hl hk HTT H
    by_cases hlt : j < s.size
    · have q2 : decide ((j : Int) < (s.size : Int)) = true := by simp; omega
      have HF := Lib.hid (from_lt hlt)
      obtain ⟨c, hc⟩ : ∃ c, s[j] = c := ⟨_, rfl⟩
      have hlti : (j : Int) < (s.size : Int) := by omega
      have HFc : Hid (fromS s j = c :: fromS s (j + 1)) := by show _ = _; rw [HF.out, hc]
      by_cases hbl : isBl c = true
      · have hcs : (c.toNat : Int) = 32 ∨ (c.toNat : Int) = 9 ∨ (c.toNat : Int) = 10 ∨ (c.toNat : Int) = 13 := by
          unfold isBl at hbl
          simp at hbl
          omega
        have HE : Hid (i + T = (j + 1) + skipM false (fromS s (j + 1))) := by
          show _ = _
          have : skipM false (c :: fromS s (j + 1)) = 1 + skipM false (fromS s (j + 1)) := by simp only [skipM]; rw [if_pos hbl]
          rw [HT.out, HFc.out, this]; omega
        clear HT HF HFc hbl
        have hc2 : ((s[j]).toNat : Int) = (c.toNat : Int) := by rw [hc]
        clear hc
        rcases hcs with hcs | hcs | hcs | hcs <;> rw [hcs] at hc2 <;>
        (go_wp2_with fail
         go_quiet (fail)
         go_wp2_with fail
         go_quiet (fail)
         go_wp2_with fail
         go_roundw
         case rel => exact ⟨j + 1, by omega, by omega, (HL.out.drewN _).put1, (HK.out.drewN _).setCell _ _, HE⟩
         case measure => rw [((HL.out.drewN _).put1).plc, hplc]; omega)
      · have hbs : (c.toNat : Int) ≠ 32 ∧ (c.toNat : Int) ≠ 9 ∧ (c.toNat : Int) ≠ 10 ∧ (c.toNat : Int) ≠ 13 := by
          simp only [isBl, Bool.or_eq_true, decide_eq_true_eq, not_or] at hbl
          omega
        obtain ⟨b1, b2, b3, b4⟩ := hbs
        have q32 : ((s[j].toNat : Int) == 32) = false := by rw [hc]; simpa using b1
        have q9 : ((s[j].toNat : Int) == 9) = false := by rw [hc]; simpa using b2
        have q10 : ((s[j].toNat : Int) == 10) = false := by rw [hc]; simpa using b3
        have q13 : ((s[j].toNat : Int) == 13) = false := by rw [hc]; simpa using b4
        clear b1 b2 b3 b4
        by_cases h45 : c = 45
        · have q45 : ((s[j].toNat : Int) == 45) = true := by rw [hc, h45]; rfl
          by_cases hn : (fromS s (j + 1)).head? = some 45
          · have qn : (((nxB s j 1).toNat : Int) == 45) = true := by
              unfold nxB
              rw [show (1 : Int).toNat = 1 from rfl, List.headD_eq_head?_getD, hn]; rfl
            have HS0 : Hid (fromS s j = 45 :: fromS s (j + 1)) := by show _ = _; rw [HFc.out, h45]
            have HS : Hid (skipM false (fromS s j) = skipM true (fromS s j)) := by
              show _ = _
              rw [HFc.out, h45]; exact skip_comment hn
            clear HF HFc hc hbl
            have hge := Lib.indexByte_ge (fromS s j) 10
            have HXE := Lib.hid (ext_all s j)
            by_cases hx : Lib.indexByte (fromS s j) 10 = -1
            · have HX : Lib.indexByte (s.extract j s.size).data.toList 10 = -1 := by rw [HXE.out]; exact hx
              have HE : Hid (i + T = s.size + skipM false (fromS s s.size)) := by
                show _ = _
                rw [HT.out, HS.out, skip_true_none _ hx, from_len, from_ge (s := s) (i := s.size) (Nat.le_refl _)]
                simp [skipM]; omega
              clear hx HT HS hge
              go_wp2_with fail
              go_quiet (fail)
              go_wp2_with fail
              go_quiet (fail)
              go_wp2_with (first | (go_at_call 77; (refine (next_any (HL.out.drewN _) hs (by omega) 1 (by decide) (by decide)).mono ?_; rintro e w2 ⟨rfl, hB2⟩; have HL2 := Lib.hid ((HL.out.drewN _).below hB2); have HK2 := Lib.hid ((HK.out.drewN _).step hB2); have c02 := HL2.out.c0; have c12 := HL2.out.c1; have f12 := HL2.out.f1; have hbw2 := HL2.out.lt; clear hB2)) | fail)
              go_quiet (first | (go_at_call 78; exact Calls.quiet_of_same (index_at HX _)) | fail)
              go_wp2_with fail
              go_roundw
              case rel => exact ⟨s.size, by omega, Nat.le_refl _, (HL2.out.drewN _).put s.size, (HK2.out.drewN _).setCell _ _, HE⟩
              case measure => rw [((HL2.out.drewN _).put s.size).plc, hplc]; omega
            · obtain ⟨k, hk⟩ : ∃ k : Nat, Lib.indexByte (fromS s j) 10 = (k : Int) := ⟨(Lib.indexByte (fromS s j) 10).toNat, by omega⟩
              have HX : Lib.indexByte (s.extract j s.size).data.toList 10 = (k : Int) := by rw [HXE.out]; exact hk
              obtain ⟨HT1, hkl⟩ := skip_true_some _ k hk
              rw [from_len] at hkl
              have hk0 : 0 < k := by
                rcases Nat.eq_zero_or_pos k with h0 | h0
                · subst h0
                  exfalso
                  obtain ⟨h1, _⟩ := Lib.indexByte_some hk
                  rw [HS0.out] at h1
                  simp at h1
                · exact h0
              have HE : Hid (i + T = (j + k) + skipM false (fromS s (j + k))) := by
                show _ = _
                rw [HT.out, HS.out, HT1, from_from]; omega
              clear hx HT HS hge HT1 hk
              go_wp2_with fail
              go_quiet (fail)
              go_wp2_with fail
              go_quiet (fail)
              go_wp2_with (first | (go_at_call 77; (refine (next_any (HL.out.drewN _) hs (by omega) 1 (by decide) (by decide)).mono ?_; rintro e w2 ⟨rfl, hB2⟩; have HL2 := Lib.hid ((HL.out.drewN _).below hB2); have HK2 := Lib.hid ((HK.out.drewN _).step hB2); have c02 := HL2.out.c0; have c12 := HL2.out.c1; have f12 := HL2.out.f1; have hbw2 := HL2.out.lt; clear hB2)) | fail)
              go_quiet (first | (go_at_call 78; exact Calls.quiet_of_same (index_at HX _)) | fail)
              go_wp2_with fail
              go_roundw
              case rel => exact ⟨j + k, by omega, by omega, (HL2.out.drewN _).put2 k, (HK2.out.drewN _).setCell _ _, HE⟩
              case measure => rw [((HL2.out.drewN _).put2 k).plc, hplc]; omega
          · have qn : (((nxB s j 1).toNat : Int) == 45) = false := by
              have : ¬ nxB s j 1 = 45 := by
                unfold nxB
                rw [show (1 : Int).toNat = 1 from rfl]
                intro h
                apply hn
                cases hf : fromS s (j + 1) with
                | nil => rw [hf] at h; exact absurd h (by decide)
                | cons a r => rw [hf] at h; simpa using h
              have h2 : (nxB s j 1).toNat ≠ 45 := fun h => this (UInt8.toNat_inj.1 h)
              simp; omega
            have HE : Hid (i + T = j) := by
              show _ = _
              rw [HT.out, HFc.out]
              have : skipM false (c :: fromS s (j + 1)) = 0 := by simp only [skipM]; rw [if_neg hbl, if_neg (fun h => hn h.2)]
              rw [this]; rfl
            clear HF HFc hc hbl HT
            go_wp2_with fail
            go_quiet (fail)
            go_wp2_with fail
            go_quiet (fail)
            go_wp2_with (first | (go_at_call 77; (refine (next_any (HL.out.drewN _) hs (by omega) 1 (by decide) (by decide)).mono ?_; rintro e w2 ⟨rfl, hB2⟩; have HL2 := Lib.hid ((HL.out.drewN _).below hB2); have HK2 := Lib.hid ((HK.out.drewN _).step hB2); have c02 := HL2.out.c0; have c12 := HL2.out.c1; have f12 := HL2.out.f1; have hbw2 := HL2.out.lt; clear hB2)) | fail)
            refine bodyPost_ret (v := .tuple #[]) (by simp [results, Tryd.results50, go_sem]) rfl ⟨rfl, by rw [HE.out]; exact HL2.out, HK2.out⟩
        · have q45 : ((s[j].toNat : Int) == 45) = false := by
            rw [hc]
            have h2 : c.toNat ≠ 45 := fun h => h45 (UInt8.toNat_inj.1 h)
            simp; omega
          have HE : Hid (i + T = j) := by
            show _ = _
            rw [HT.out, HFc.out]
            have : skipM false (c :: fromS s (j + 1)) = 0 := by simp only [skipM]; rw [if_neg hbl, if_neg (fun h => h45 h.1)]
            rw [this]; rfl
          clear HF HFc hc hbl HT
          go_wp2_with fail
          go_quiet (fail)
          go_wp2_with fail
          go_quiet (fail)
          go_wp2_with fail
          refine bodyPost_ret (v := .tuple #[]) (by simp [results, Tryd.results50, go_sem]) rfl ⟨rfl, by rw [HE.out]; exact HL.out.drewN _, HK.out.drewN _⟩
    · have q2 : decide ((j : Int) < (s.size : Int)) = false := by simp; omega
      have HE : Hid (i + T = j) := by show _ = _; rw [HT.out, from_ge (by omega)]; rfl
      clear HT
      go_wp2_with fail
      go_quiet (fail)
      go_wp2_with fail
      go_end0
      exact ⟨rfl, by rw [HE.out]; exact HL.out.drewN _, HK.out.drewN _⟩
end Go.Proofs.YtnpgjlhnlakgpaaDoor

/- The contract of the lexer's symbol. -/
import Derived.Test.YtnpgjlhnlakgpaaDoorLexF5
import Derived.Lib.IndexLaws
import Derived.Test.YtnpgjlhnlakgpaaDoorLexF3
import Derived.Test.YtnpgjlhnlakgpaaDoorLexTB
namespace Go.Proofs.YtnpgjlhnlakgpaaDoor
open Go.RowKit

theorem sym_index : ∀ c : UInt8, decide (0 ≤ Lib.indexByte [40, 41, 44, 46, 59, 42, 43, 45, 47, 61, 60, 62] c) = sym1 c := byte_all (by decide +kernel)
theorem sym_at {c : UInt8} {v : Int} (h : Lib.indexByte [40, 41, 44, 46, 59, 42, 43, 45, 47, 61, 60, 62] c = v) (w : World) :
    Calls Tryd.prog 78 #[.string ⟨#[40, 41, 44, 46, 59, 42, 43, 45, 47, 61, 60, 62]⟩, .int .u8 (c.toNat : Int)] w fun e w' => e = .returned (.int .i64 v) ∧ w' = w := by
  rw [← h]
  refine (Tryd.strings_IndexByte _ _ w).mono ?_
  rintro e w' ⟨rfl, rfl⟩
  simp
theorem LX.putv {w : World} {b m i j : Nat} {s : ByteArray} {v : Int} (h : LX w b m s i) (hv : v = (j : Int)) : LX (w.setCell ⟨b, 1, none⟩ (.int .i64 v)) b m s j := by
  subst hv; exact h.put j
theorem toList_bs (s : ByteArray) : s.toList = s.data.toList := ByteArray.toList_eq s

set_option maxRecDepth 100000 in
set_option maxHeartbeats 4000000 in
theorem symbol_any {w : World} {b m i : Nat} {s : ByteArray} (h : LX w b m s i) (hs : s.size ≤ 4000) (hi : i < s.size) :
    Calls Tryd.prog 85 #[.pointer (some ⟨b, 0, none⟩)] w (TokPost b m s i (symF (fromS s i)) w) := by
  have H := Lib.hid h
  have hb := h.lt
  have c1 := h.c1
  have c0 := h.c0
  have f1 := h.f1
  obtain ⟨k, hk⟩ : ∃ k : Nat, min (i + 2) s.size = k := ⟨_, rfl⟩
  have hmin : min ((i : Int) + 2) (s.size : Int) = (k : Int) := by omega
  have hk1 : i ≤ k := by omega
  have hk2 : k ≤ s.size := by omega
  obtain ⟨Tw, hTw⟩ : ∃ Tw, s.extract i k = Tw := ⟨_, rfl⟩
  have hTl : Tw.toList = (fromS s i).take 2 := by
    rw [← hTw, toList_bs]
    have h1 := ext_from s i (k - i)
    rw [show i + (k - i) = k by omega] at h1
    rw [h1]
    show (fromS s i).take (k - i) = _
    by_cases h2 : k - i = 2
    · rw [h2]
    · have := from_len s i
      rw [List.take_of_length_le (by omega), List.take_of_length_le (by omega)]
  have HF := Lib.hid (from_lt hi)
  obtain ⟨c, hc⟩ : ∃ c, s[i] = c := ⟨_, rfl⟩
  have HE1 := Lib.hid (ext_from s i 1)
  have HE2 := Lib.hid (ext_from s i 2)
  cases h2 : sym2 ((fromS s i).take 2)
  · have hno : (Tw.toList == [60, 61]) = false ∧ (Tw.toList == [62, 61]) = false ∧ (Tw.toList == [60, 62]) = false := by
      simp only [sym2, decide_eq_false_iff_not, not_or] at h2
      rw [hTl]
      simpa using h2
    obtain ⟨n1, n2, n3⟩ := hno
    have hxi : ∃ v, Lib.indexByte [40, 41, 44, 46, 59, 42, 43, 45, 47, 61, 60, 62] c = v := ⟨_, rfl⟩
    obtain ⟨v, hv⟩ := hxi
    have HV := Lib.hid hv
    cases h1 : sym1 c
    · have hvn : v < 0 := by
        have := sym_index c
        rw [h1, hv] at this
        simpa using this
      have HS : Hid (symF (fromS s i) = .bad 40 0) := by
        show _ = _
        unfold symF
        rw [if_neg (by rw [h2]; decide), HF.out, hc, if_neg (by simp [h1])]
      rw [HS.out]
      clear h h2 h1 HS hTl hv
      go_enter Tryd.func85, Tryd.ntmps85
      go_wp2_with fail
      have HLw := Lib.hid (H.out.alloc (.cells #[.int .i64 0, .string ⟨#[]⟩, .int .i64 0, .int .i64 0, .string ⟨#[]⟩, .int .i64 0] 30))
      have HKw := Lib.hid ((K1.refl b w).alloc (.cells #[.int .i64 0, .string ⟨#[]⟩, .int .i64 0, .int .i64 0, .string ⟨#[]⟩, .int .i64 0] 30))
      have HTw := Lib.hid (TB6.new w (.int .i64 0) (.string ⟨#[]⟩) (.int .i64 0) (.int .i64 0) (.string ⟨#[]⟩) (.int .i64 0) 30)
      generalize w.alloc (.cells #[.int .i64 0, .string ⟨#[]⟩, .int .i64 0, .int .i64 0, .string ⟨#[]⟩, .int .i64 0] 30) = W at *
      have d0 := HLw.out.c0
      have d1 := HLw.out.c1
      have df := HLw.out.f1
      have dl := HLw.out.lt
      obtain ⟨⟨tc0, tc1, tc2, tc3, tc4, tc5⟩, tf0, tf1, tf2, tf3, tf4, tf5⟩ := HTw.out
      have tlt := World.block_lt_of_cell? _ _ tc0
      go_region
      go_wp2_with (first | (go_at_call 78; refine (sym_at HV.out _).mono ?_; rintro e w2 ⟨rfl, rfl⟩) | fail)
      refine bodyPost_ret (v := .tuple #[(⟨0, ⟨#[]⟩, Dt.zero, 0⟩ : Tk).v, .int .i64 40, .int .i64 (i : Int)]) (by simp [results, Tryd.results85, go_sem, Dt.zero, tc0, tc1, tc2, tc3, tc4, tc5]) rfl ⟨by repeat' (first | with_reducible exact HKw.out | with_reducible refine K1.drew ?_ | with_reducible refine K1.drewN ?_ _ | with_reducible refine K1.setCell ?_ _ _ | with_reducible refine K1.setNew ?_ (by omega) _ _), _, _, _, _, _, _, rfl⟩
    · have hvn : 0 ≤ v := by
        have := sym_index c
        rw [h1, hv] at this
        simpa using this
      have HS : Hid (symF (fromS s i) = .ok 4 ⟨((fromS s i).take 1).toArray⟩ Dt.zero 1) := by
        show _ = _
        unfold symF
        rw [if_neg (by rw [h2]; decide), HF.out, hc, if_pos (by simp [h1])]
      obtain ⟨T1, hT1⟩ : ∃ T1, s.extract i (i + 1) = T1 := ⟨_, rfl⟩
      have HT1 : Hid ((⟨((fromS s i).take 1).toArray⟩ : ByteArray) = T1) := by show _ = _; rw [← hT1, HE1.out]; rfl
      rw [HS.out, HT1.out]
      clear h h2 h1 HS hTl hv
      go_enter Tryd.func85, Tryd.ntmps85
      go_wp2_with fail
      have HLw := Lib.hid (H.out.alloc (.cells #[.int .i64 0, .string ⟨#[]⟩, .int .i64 0, .int .i64 0, .string ⟨#[]⟩, .int .i64 0] 30))
      have HKw := Lib.hid ((K1.refl b w).alloc (.cells #[.int .i64 0, .string ⟨#[]⟩, .int .i64 0, .int .i64 0, .string ⟨#[]⟩, .int .i64 0] 30))
      have HTw := Lib.hid (TB6.new w (.int .i64 0) (.string ⟨#[]⟩) (.int .i64 0) (.int .i64 0) (.string ⟨#[]⟩) (.int .i64 0) 30)
      generalize w.alloc (.cells #[.int .i64 0, .string ⟨#[]⟩, .int .i64 0, .int .i64 0, .string ⟨#[]⟩, .int .i64 0] 30) = W at *
      have d0 := HLw.out.c0
      have d1 := HLw.out.c1
      have df := HLw.out.f1
      have dl := HLw.out.lt
      obtain ⟨⟨tc0, tc1, tc2, tc3, tc4, tc5⟩, tf0, tf1, tf2, tf3, tf4, tf5⟩ := HTw.out
      have tlt := World.block_lt_of_cell? _ _ tc0
      go_region
      go_wp2_with (first | (go_at_call 78; refine (sym_at HV.out _).mono ?_; rintro e w2 ⟨rfl, rfl⟩) | fail)
      go_region
      go_wp2_with fail
      refine bodyPost_ret (v := .tuple #[(⟨4, T1, Dt.zero, i⟩ : Tk).v, .int .i64 0, .int .i64 0]) (by simp [results, Tryd.results85, go_sem, Dt.zero, tc0, tc1, tc2, tc3, tc4, tc5]) rfl ⟨by repeat' (first | with_reducible exact HKw.out | with_reducible refine K1.drew ?_ | with_reducible refine K1.drewN ?_ _ | with_reducible refine K1.setCell ?_ _ _ | with_reducible refine K1.setNew ?_ (by omega) _ _), rfl, by repeat' (first | with_reducible exact HLw.out | with_reducible refine LX.drew ?_ | with_reducible refine LX.drewN ?_ _ | with_reducible refine LX.far ?_ (by omega) _ _ | with_reducible refine LX.put1 ?_ | with_reducible refine LX.putv (i := i) ?_ (by omega))⟩
  · have hk3 : k = i + 2 := by
      rcases Nat.lt_or_ge (i + 1) s.size with h3 | h3
      · omega
      · exfalso
        have h4 : ((fromS s i).take 2).length ≤ 1 := by rw [List.length_take, from_len]; omega
        simp only [sym2, decide_eq_true_eq] at h2
        rcases h2 with h2 | h2 | h2 <;> (rw [h2] at h4; simp at h4)
    subst hk3
    have HS : Hid (symF (fromS s i) = .ok 4 ⟨((fromS s i).take 2).toArray⟩ Dt.zero 2) := by
      show _ = _
      unfold symF
      rw [if_pos h2]
    have HT1 : Hid ((⟨((fromS s i).take 2).toArray⟩ : ByteArray) = Tw) := by show _ = _; rw [← hTw, HE2.out]; rfl
    rw [HS.out, HT1.out]
    simp only [sym2, decide_eq_true_eq] at h2
    rw [← hTl] at h2
    have hcs : ((Tw.toList == [60, 61]) = true) ∨ ((Tw.toList == [60, 61]) = false ∧ (Tw.toList == [62, 61]) = true) ∨ ((Tw.toList == [60, 61]) = false ∧ (Tw.toList == [62, 61]) = false ∧ (Tw.toList == [60, 62]) = true) := by
      rcases h2 with h2 | h2 | h2 <;> (rw [h2]; decide)
    clear h h2 HS hTl
    rcases hcs with n1 | ⟨n1, n2⟩ | ⟨n1, n2, n3⟩ <;>
    (go_enter Tryd.func85, Tryd.ntmps85
     go_wp2_with fail
     have HLw := Lib.hid (H.out.alloc (.cells #[.int .i64 0, .string ⟨#[]⟩, .int .i64 0, .int .i64 0, .string ⟨#[]⟩, .int .i64 0] 30))
     have HKw := Lib.hid ((K1.refl b w).alloc (.cells #[.int .i64 0, .string ⟨#[]⟩, .int .i64 0, .int .i64 0, .string ⟨#[]⟩, .int .i64 0] 30))
     have HTw := Lib.hid (TB6.new w (.int .i64 0) (.string ⟨#[]⟩) (.int .i64 0) (.int .i64 0) (.string ⟨#[]⟩) (.int .i64 0) 30)
     generalize w.alloc (.cells #[.int .i64 0, .string ⟨#[]⟩, .int .i64 0, .int .i64 0, .string ⟨#[]⟩, .int .i64 0] 30) = W at *
     have d0 := HLw.out.c0
     have d1 := HLw.out.c1
     have df := HLw.out.f1
     have dl := HLw.out.lt
     obtain ⟨⟨tc0, tc1, tc2, tc3, tc4, tc5⟩, tf0, tf1, tf2, tf3, tf4, tf5⟩ := HTw.out
     have tlt := World.block_lt_of_cell? _ _ tc0
     go_region
     go_wp2_with fail
     go_region
     go_wp2_with fail
     refine bodyPost_ret (v := .tuple #[(⟨4, Tw, Dt.zero, i⟩ : Tk).v, .int .i64 0, .int .i64 0]) (by simp [results, Tryd.results85, go_sem, Dt.zero, tc0, tc1, tc2, tc3, tc4, tc5]) rfl ⟨by repeat' (first | with_reducible exact HKw.out | with_reducible refine K1.drew ?_ | with_reducible refine K1.drewN ?_ _ | with_reducible refine K1.setCell ?_ _ _ | with_reducible refine K1.setNew ?_ (by omega) _ _), rfl, by repeat' (first | with_reducible exact HLw.out | with_reducible refine LX.drew ?_ | with_reducible refine LX.drewN ?_ _ | with_reducible refine LX.far ?_ (by omega) _ _ | with_reducible refine LX.put1 ?_ | with_reducible refine LX.putv (i := i) ?_ (by omega))⟩)
end Go.Proofs.YtnpgjlhnlakgpaaDoor

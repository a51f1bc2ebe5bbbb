/- Contracts of the lexer's blanks and while. -/
import Derived.Test.YtnpgjlhnlakgpaaDoorLexF1
import Derived.Test.YtnpgjlhnlakgpaaDoorLexSh
import Derived.Lib.IndexLaws
namespace Go.Proofs.YtnpgjlhnlakgpaaDoor
open Go.RowKit

/-- The lexer's place, off its block. -/
def plc (w : World) (b : Nat) : Nat := match w.cell? ⟨b, 1, none⟩ with
  | some (.int _ n) => n.toNat
  | _ => 0
theorem LX.plc {w : World} {b m i : Nat} {s : ByteArray} (h : LX w b m s i) : plc w b = i := by
  unfold Go.Proofs.YtnpgjlhnlakgpaaDoor.plc
  rw [h.c1]; simp
theorem LX.drewN {w : World} {b m i : Nat} {s : ByteArray} (h : LX w b m s i) (n : Nat) : LX (w.drewN n) b m s i := h.below (below_drewN n)
theorem K1.drewN {b : Nat} {w0 w : World} (h : K1 b w0 w) (n : Nat) : K1 b w0 (w.drewN n) := h.step (below_drewN n)
theorem LX.put1 {w : World} {b m i : Nat} {s : ByteArray} (h : LX w b m s i) : LX (w.setCell ⟨b, 1, none⟩ (.int .i64 ((i : Int) + 1))) b m s (i + 1) := h.put (i + 1)
theorem skip_true_none : ∀ (l : List UInt8), Lib.indexByte l 10 = -1 → skipM true l = l.length
  | [], _ => rfl
  | c :: r, h => by
    have hge := Lib.indexByte_ge r 10
    simp only [Lib.indexByte] at h
    by_cases hc : c = 10
    · subst hc; simp at h
    · have hb : (c == 10) = false := by simpa using hc
      rw [hb] at h
      simp only [Bool.false_eq_true, if_false] at h
      have hr : Lib.indexByte r 10 = -1 := by
        split at h
        · rename_i h1; simpa using h1
        · omega
      simp [skipM, hc, skip_true_none r hr]
      omega
theorem skip_true_some : ∀ (l : List UInt8) (k : Nat), Lib.indexByte l 10 = (k : Int) → skipM true l = k + skipM false (l.drop k) ∧ k < l.length
  | [], k, h => by simp [Lib.indexByte] at h
  | c :: r, k, h => by
    have hge := Lib.indexByte_ge r 10
    simp only [Lib.indexByte] at h
    by_cases hc : c = 10
    · subst hc
      simp at h
      have : k = 0 := by omega
      subst this
      simp [skipM, isBl]
    · have hb : (c == 10) = false := by simpa using hc
      rw [hb] at h
      simp only [Bool.false_eq_true, if_false] at h
      split at h
      · omega
      · rename_i h1
        have h1' : Lib.indexByte r 10 ≠ -1 := by simpa using h1
        obtain ⟨k', rfl⟩ : ∃ k', k = k' + 1 := ⟨k - 1, by omega⟩
        obtain ⟨a1, a2⟩ := skip_true_some r k' (by omega)
        simp only [List.length_cons, List.drop_succ_cons]
        refine ⟨?_, by omega⟩
        simp only [skipM, hc]
        simp [a1]; omega
theorem skip_comment {r : List UInt8} (h : r.head? = some 45) : skipM false (45 :: r) = skipM true (45 :: r) := by
  have h1 : isBl 45 = false := by decide
  simp [skipM, h, h1]
theorem nm_any (c : UInt8) (w : World) : Calls Tryd.prog 108 #[.int .u8 (c.toNat : Int)] w fun e w' => e = .returned (.bool (isNm c)) ∧ w' = w := by
  have HM : Hid (isNm c = (isLet c || isDig c)) := by show _ = _; rfl
  rw [HM.out]
  go_enter Tryd.func108, Tryd.ntmps108
  cases h1 : isLet c
  · go_wp2_with (first
      | (go_at_call 80; refine (letter_any c _).mono ?_; rintro e w' ⟨rfl, rfl⟩; rw [h1])
      | (go_at_call 82; refine (digit_any c _).mono ?_; rintro e w' ⟨rfl, rfl⟩)
      | fail)
    go_ret
    exact ⟨rfl, rfl⟩
  · go_wp2_with (first
      | (go_at_call 80; refine (letter_any c _).mono ?_; rintro e w' ⟨rfl, rfl⟩; rw [h1])
      | fail)
    go_ret
    exact ⟨rfl, rfl⟩
theorem is_nm {c : UInt8} {v : Bool} (h : isNm c = v) (w : World) : Calls Tryd.prog 108 #[.int .u8 (c.toNat : Int)] w fun e w' => e = .returned (.bool v) ∧ w' = w := by
  rw [← h]; exact nm_any c w
set_option maxHeartbeats 1000000 in
theorem while_nm {w : World} {b m i : Nat} {s : ByteArray} (h : LX w b m s i) (hs : s.size ≤ 4000) (hi : i ≤ s.size) :
    Calls Tryd.prog 107 #[.pointer (some ⟨b, 0, none⟩), .func (.func 108) #[] #[]] w fun e w' => e = .returned (.string (bs ((fromS s i).takeWhile isNm))) ∧ LX w' b m s (i + ((fromS s i).takeWhile isNm).length) ∧ K1 b w w' := by
  have c1 := h.c1
  have H := Lib.hid h
  have hb := h.lt
  clear h
  obtain ⟨T, hT⟩ : ∃ T, (fromS s i).takeWhile isNm = T := ⟨_, rfl⟩
  have HTT := Lib.hid hT
  rw [hT]
  clear hT
  go_enter Tryd.func107, Tryd.ntmps107
  go_wp2_with fail
  go_loopw [] (fun wr => ∃ n : Nat, i + n ≤ s.size ∧ LX wr b m s (i + n) ∧ K1 b w wr ∧ Hid (T = (fromS s i).take n ++ (fromS s (i + n)).takeWhile isNm)) (fun wr => s.size - plc wr b)
  case atStart => exact ⟨0, by omega, H.out, K1.refl _ _, by show _ = _; rw [← HTT.out]; simp⟩
  case round =>
    obtain ⟨n, hn, hl, hk, HT⟩ := hrel
    have c0 := hl.c0
    have c1 := hl.c1
    have HL := Lib.hid hl
    have HK := Lib.hid hk
    have f1 := hl.f1
    have hplc := hl.plc
    have hbw := hl.lt
    clear hl hk
    obtain ⟨j, hj⟩ : ∃ j, i + n = j := ⟨_, rfl⟩
    rw [hj] at c1 HL hn hplc
    by_cases hlt : j < s.size
    · have hlti : (j : Int) < (s.size : Int) := by omega
      have q2 : decide ((j : Int) < (s.size : Int)) = true := by simp; omega
      have HF := Lib.hid (from_lt hlt)
      cases hp : isNm s[j]
      · have HE : Hid (T = (fromS s i).take n) := by
          show _ = _
          rw [HT.out, hj, HF.out, List.takeWhile_cons, if_neg (by rw [hp]; decide), List.append_nil]
        have HX := Lib.hid (ext_from s i n)
        have HN : Hid (T.length = n) := by show _ = _; rw [HE.out, List.length_take, from_len]; omega
        clear HT HF
        go_wp2_with fail
        go_quiet (first | (go_at_call 108; exact Calls.quiet_of_same (is_nm hp _)) | fail)
        go_wp2_with fail
        go_quiet (fail)
        go_wp2_with fail
        go_ret
        refine ⟨ret_str ?_, ?_, ?_⟩
        · rw [HE.out, ← HX.out, hj]
        · rw [HN.out, hj]; exact (HL.out.drewN _).drewN _
        · exact (HK.out.drewN _).drewN _
      · have HE : Hid (T = (fromS s i).take (n + 1) ++ (fromS s (i + (n + 1))).takeWhile isNm) := by
          show _ = _
          have h1 : (fromS s i).take (n + 1) = (fromS s i).take n ++ [s[j]] := by
            have h2 : fromS s i = (fromS s i).take n ++ fromS s (i + n) := by rw [← from_from, List.take_append_drop]
            have h3 : ((fromS s i).take n).length = n := by rw [List.length_take, from_len]; omega
            conv => lhs; rw [h2, hj, HF.out, List.take_append, h3]
            rw [List.take_of_length_le (by omega)]
            simp
          rw [HT.out, hj, HF.out, List.takeWhile_cons, if_pos hp, h1, show i + (n + 1) = j + 1 by omega]
          simp
        clear HT HF
        go_wp2_with fail
        go_quiet (first | (go_at_call 108; exact Calls.quiet_of_same (is_nm hp _)) | fail)
        go_wp2_with fail
        go_roundw
        case rel => exact ⟨n + 1, by omega, by rw [show i + (n + 1) = j + 1 by omega]; exact (HL.out.drewN _).put1, (HK.out.drewN _).setCell _ _, HE⟩
        case measure => rw [((HL.out.drewN _).put1).plc, hplc]; omega
    · have q2 : decide ((j : Int) < (s.size : Int)) = false := by simp; omega
      have HE : Hid (T = (fromS s i).take n) := by
        show _ = _
        rw [HT.out, hj, from_ge (s := s) (i := j) (by omega)]; simp
      have HX := Lib.hid (ext_from s i n)
      have HN : Hid (T.length = n) := by show _ = _; rw [HE.out, List.length_take, from_len]; omega
      clear HT
      go_wp2_with fail
      go_quiet (fail)
      go_wp2_with fail
      go_quiet (fail)
      go_wp2_with fail
      go_ret
      refine ⟨ret_str ?_, ?_, ?_⟩
      · rw [HE.out, ← HX.out, hj]
      · rw [HN.out, hj]; exact (HL.out.drewN _).drewN _
      · exact (HK.out.drewN _).drewN _
theorem is_dig {c : UInt8} {v : Bool} (h : isDig c = v) (w : World) : Calls Tryd.prog 82 #[.int .u8 (c.toNat : Int)] w fun e w' => e = .returned (.bool v) ∧ w' = w := by
  rw [← h]; exact digit_any c w
set_option maxHeartbeats 1000000 in
theorem while_dig {w : World} {b m i : Nat} {s : ByteArray} (h : LX w b m s i) (hs : s.size ≤ 4000) (hi : i ≤ s.size) :
    Calls Tryd.prog 107 #[.pointer (some ⟨b, 0, none⟩), .func (.func 82) #[] #[]] w fun e w' => e = .returned (.string (bs ((fromS s i).takeWhile isDig))) ∧ LX w' b m s (i + ((fromS s i).takeWhile isDig).length) ∧ K1 b w w' := by
  have c1 := h.c1
  have H := Lib.hid h
  have hb := h.lt
  clear h
  obtain ⟨T, hT⟩ : ∃ T, (fromS s i).takeWhile isDig = T := ⟨_, rfl⟩
  have HTT := Lib.hid hT
  rw [hT]
  clear hT
  go_enter Tryd.func107, Tryd.ntmps107
  go_wp2_with fail
  go_loopw [] (fun wr => ∃ n : Nat, i + n ≤ s.size ∧ LX wr b m s (i + n) ∧ K1 b w wr ∧ Hid (T = (fromS s i).take n ++ (fromS s (i + n)).takeWhile isDig)) (fun wr => s.size - plc wr b)
  case atStart => exact ⟨0, by omega, H.out, K1.refl _ _, by show _ = _; rw [← HTT.out]; simp⟩
  case round =>
    obtain ⟨n, hn, hl, hk, HT⟩ := hrel
    have c0 := hl.c0
    have c1 := hl.c1
    have HL := Lib.hid hl
    have HK := Lib.hid hk
    have f1 := hl.f1
    have hplc := hl.plc
    have hbw := hl.lt
    clear hl hk
    obtain ⟨j, hj⟩ : ∃ j, i + n = j := ⟨_, rfl⟩
    rw [hj] at c1 HL hn hplc
    by_cases hlt : j < s.size
    · have hlti : (j : Int) < (s.size : Int) := by omega
      have q2 : decide ((j : Int) < (s.size : Int)) = true := by simp; omega
      have HF := Lib.hid (from_lt hlt)
      cases hp : isDig s[j]
      · have HE : Hid (T = (fromS s i).take n) := by
          show _ = _
          rw [HT.out, hj, HF.out, List.takeWhile_cons, if_neg (by rw [hp]; decide), List.append_nil]
        have HX := Lib.hid (ext_from s i n)
        have HN : Hid (T.length = n) := by show _ = _; rw [HE.out, List.length_take, from_len]; omega
        clear HT HF
        go_wp2_with fail
        go_quiet (first | (go_at_call 82; exact Calls.quiet_of_same (is_dig hp _)) | fail)
        go_wp2_with fail
        go_quiet (fail)
        go_wp2_with fail
        go_ret
        refine ⟨ret_str ?_, ?_, ?_⟩
        · rw [HE.out, ← HX.out, hj]
        · rw [HN.out, hj]; exact (HL.out.drewN _).drewN _
        · exact (HK.out.drewN _).drewN _
      · have HE : Hid (T = (fromS s i).take (n + 1) ++ (fromS s (i + (n + 1))).takeWhile isDig) := by
          show _ = _
          have h1 : (fromS s i).take (n + 1) = (fromS s i).take n ++ [s[j]] := by
            have h2 : fromS s i = (fromS s i).take n ++ fromS s (i + n) := by rw [← from_from, List.take_append_drop]
            have h3 : ((fromS s i).take n).length = n := by rw [List.length_take, from_len]; omega
            conv => lhs; rw [h2, hj, HF.out, List.take_append, h3]
            rw [List.take_of_length_le (by omega)]
            simp
          rw [HT.out, hj, HF.out, List.takeWhile_cons, if_pos hp, h1, show i + (n + 1) = j + 1 by omega]
          simp
        clear HT HF
        go_wp2_with fail
        go_quiet (first | (go_at_call 82; exact Calls.quiet_of_same (is_dig hp _)) | fail)
        go_wp2_with fail
        go_roundw
        case rel => exact ⟨n + 1, by omega, by rw [show i + (n + 1) = j + 1 by omega]; exact (HL.out.drewN _).put1, (HK.out.drewN _).setCell _ _, HE⟩
        case measure => rw [((HL.out.drewN _).put1).plc, hplc]; omega
    · have q2 : decide ((j : Int) < (s.size : Int)) = false := by simp; omega
      have HE : Hid (T = (fromS s i).take n) := by
        show _ = _
        rw [HT.out, hj, from_ge (s := s) (i := j) (by omega)]; simp
      have HX := Lib.hid (ext_from s i n)
      have HN : Hid (T.length = n) := by show _ = _; rw [HE.out, List.length_take, from_len]; omega
      clear HT
      go_wp2_with fail
      go_quiet (fail)
      go_wp2_with fail
      go_quiet (fail)
      go_wp2_with fail
      go_ret
      refine ⟨ret_str ?_, ?_, ?_⟩
      · rw [HE.out, ← HX.out, hj]
      · rw [HN.out, hj]; exact (HL.out.drewN _).drewN _
      · exact (HK.out.drewN _).drewN _
end Go.Proofs.YtnpgjlhnlakgpaaDoor

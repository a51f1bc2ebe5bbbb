/- The document's blanks and name. -/
import Derived.Test.YtnpgjlhnlakgpaaDoorG05
import Derived.Test.YtnpgjlhnlakgpaaDoorLexRw
import Derived.Test.YtnpgjlhnlakgpaaDoorLexUp
namespace Go.Proofs.YtnpgjlhnlakgpaaDoor
open Go.RowKit

theorem GB.c_f {w : World} {n : Nat} (h : GB w n) : (w.cell? ⟨n, 0, none⟩ = some (.int .i64 0) ∧ w.cell? ⟨n, 1, none⟩ = some (.string ⟨#[]⟩) ∧ w.cell? ⟨n, 2, none⟩ = some (.int .i64 0) ∧ w.cell? ⟨n, 3, none⟩ = some (.int .i64 0) ∧ w.cell? ⟨n, 4, none⟩ = some (.string ⟨#[]⟩) ∧ w.cell? ⟨n, 5, none⟩ = some (.int .i64 0) ∧ w.cell? ⟨n, 6, none⟩ = some (.int .i64 0) ∧ w.cell? ⟨n, 7, none⟩ = some (.int .i64 0) ∧ w.cell? ⟨n, 8, none⟩ = some (.int .i64 0) ∧ w.cell? ⟨n, 9, none⟩ = some (.bool false)) ∧
    w.frozen? ⟨n, 0, none⟩ = false ∧ w.frozen? ⟨n, 1, none⟩ = false ∧ w.frozen? ⟨n, 2, none⟩ = false ∧ w.frozen? ⟨n, 3, none⟩ = false ∧ w.frozen? ⟨n, 4, none⟩ = false ∧ w.frozen? ⟨n, 5, none⟩ = false ∧ w.frozen? ⟨n, 6, none⟩ = false ∧ w.frozen? ⟨n, 7, none⟩ = false ∧ w.frozen? ⟨n, 8, none⟩ = false ∧ w.frozen? ⟨n, 9, none⟩ = false := ⟨h.c, h.f⟩

set_option maxRecDepth 100000 in
set_option maxHeartbeats 4000000 in
theorem rblanks_any {s : ByteArray} {i : Nat} (hs : s.size ≤ 4000) (hi : i ≤ s.size) (w : World) :
    Calls Tryd.prog 52 #[.string s, .int .i64 (i : Int)] w fun e w' => e = .returned (.int .i64 ((i + skipM false (fromS s i) : Nat) : Int)) ∧ Below w.heap.size w w' := by
  obtain ⟨T, hT⟩ : ∃ T, i + skipM false (fromS s i) = T := ⟨_, rfl⟩
  rw [hT]
  have HT := Lib.hid hT
  clear hT
  go_enter Tryd.func52, Tryd.ntmps52
  go_wp2_with fail
  go_loopw [1, 5] (fun iv _ wr => ∃ k : Nat, k ≤ s.size ∧ iv = .int .i64 (k : Int) ∧ Below w.heap.size w wr ∧ Hid (k + skipM false (fromS s k) = T)) (fun iv _ _ => s.size - (intOf iv).toNat)
  case atStart => exact ⟨i, hi, rfl, Below.refl _ _, HT⟩
  case round =>
    obtain ⟨k, hk, rfl, hB, HQ⟩ := hrel
    have HB := Lib.hid hB
    clear hB
    by_cases hlt : k < s.size
    · have hlti : (k : Int) < (s.size : Int) := by omega
      have HF := Lib.hid (from_lt hlt)
      obtain ⟨c, hc⟩ : ∃ c, s[k] = c := ⟨_, rfl⟩
      have hcn := c.toNat_lt
      rw [hc] at HF
      by_cases hbl : (c.toNat : Int) = 32 ∨ (c.toNat : Int) = 9 ∨ (c.toNat : Int) = 10 ∨ (c.toNat : Int) = 13
      · have HE : Hid (k + 1 + skipM false (fromS s (k + 1)) = T) := by
          show _ = _
          have hb : isBl c = true := by unfold isBl; simp; omega
          have := HQ.out
          rw [HF.out, skipM, if_pos hb] at this
          omega
        clear HQ HF
        rcases hbl with h | h | h | h
        all_goals
          go_wp2_with fail
          go_roundw
          case rel => exact ⟨k + 1, by omega, by go_num, HB.out, HE⟩
          case measure => simp [intOf]; omega
      · have hn1 : ((c.toNat : Int) == 32) = false := by simp; omega
        have hn2 : ((c.toNat : Int) == 9) = false := by simp; omega
        have hn3 : ((c.toNat : Int) == 10) = false := by simp; omega
        have hn4 : ((c.toNat : Int) == 13) = false := by simp; omega
        have HBL : Hid (isBl c = false) := by show _ = _; unfold isBl; simp; omega
        have HC10 : Hid (¬ (c.toNat : Int) = 10) := fun h => hbl (by omega)
        clear hbl
        by_cases hcom : c = 45 ∧ (fromS s (k + 1)).head? = some 45
        · obtain ⟨rfl, hd⟩ := hcom
          have hk1 : k + 1 < s.size := by
            rcases Nat.lt_or_ge (k + 1) s.size with h | h
            · exact h
            · rw [from_ge h] at hd; cases hd
          have hk1i : ¬ (s.size : Int) ≤ (k : Int) + 1 := by omega
          have hd1 : s[k + 1] = 45 := by rw [from_lt hk1] at hd; simpa using hd
          have HE : Hid (k + skipM true (fromS s k) = T) := by
            show _ = _
            have := HQ.out
            rw [HF.out, skip_comment hd, ← HF.out] at this
            exact this
          clear HQ hd hn1 hn2 hn3 hn4
          go_wp2_with fail
          go_loopw [1] (fun iv w2 => ∃ q : Nat, k ≤ q ∧ q ≤ s.size ∧ iv = .int .i64 (q : Int) ∧ Below w.heap.size w w2 ∧ Hid (q + skipM true (fromS s q) = T)) (fun iv _ => s.size - (intOf iv).toNat)
          case atStart => exact ⟨k, Nat.le_refl _, hk, rfl, HB.out, HE⟩
          case round =>
            obtain ⟨q, hkq, hq, rfl, hB2, HQ2⟩ := hrel
            have HB2 := Lib.hid hB2
            clear hB2
            by_cases hlq : q < s.size
            · have hlqi : (q : Int) < (s.size : Int) := by omega
              have HF2 := Lib.hid (from_lt hlq)
              obtain ⟨x, hx⟩ : ∃ x, s[q] = x := ⟨_, rfl⟩
              rw [hx] at HF2
              by_cases h10 : (x.toNat : Int) = 10
              · have hx10 : x = 10 := by apply UInt8.toNat_inj.1; have : (10 : UInt8).toNat = 10 := rfl; omega
                have HE2 : Hid (q + skipM false (fromS s q) = T) := by
                  show _ = _
                  have := HQ2.out
                  rw [HF2.out, hx10] at this ⊢
                  simpa [skipM, isBl] using this
                have HKQ : Hid (k < q) := by
                  show k < q
                  rcases Nat.lt_or_ge k q with h | h
                  · exact h
                  · exfalso
                    have : q = k := by omega
                    subst this
                    rw [hc] at hx
                    subst hx
                    cases hx10
                clear HQ2 hx10
                go_wp2_with fail
                go_roundw
                case rel => exact ⟨q, hq, rfl, HB2.out, HE2⟩
                case measure => have := HKQ.out; simp [intOf]; omega
              · have h10b : ((x.toNat : Int) != 10) = true := by simpa using h10
                have HE2 : Hid (q + 1 + skipM true (fromS s (q + 1)) = T) := by
                  show _ = _
                  have := HQ2.out
                  rw [HF2.out, skipM, decide_eq_false (fun h => h10 (by rw [h]; rfl))] at this
                  simp only [Bool.not_false] at this
                  omega
                clear HQ2
                go_wp2_with fail
                go_roundw
                case rel => exact ⟨q + 1, by omega, by omega, by go_num, HB2.out, HE2⟩
                case measure => simp [intOf]; omega
            · have hlqi : ¬ (q : Int) < (s.size : Int) := by omega
              have HE2 : Hid (q + skipM false (fromS s q) = T) := by
                show _ = _
                have := HQ2.out
                rw [from_ge (s := s) (i := q) (by omega)] at this ⊢
                simpa [skipM] using this
              clear HQ2
              go_wp2_with fail
              go_roundw
              case rel => exact ⟨q, hq, rfl, HB2.out, HE2⟩
              case measure => simp [intOf]; omega
        · have HE : Hid ((k : Int) = (T : Int)) := by
            show _ = _
            have := HQ.out
            rw [HF.out, skipM, if_neg (by rw [HBL.out]; decide), if_neg hcom] at this
            omega
          clear HQ
          by_cases h45 : (c.toNat : Int) = 45
          · have hc45 : c = 45 := by apply UInt8.toNat_inj.1; have : (45 : UInt8).toNat = 45 := rfl; omega
            by_cases hk1 : k + 1 < s.size
            · have hk1i : ¬ (s.size : Int) ≤ (k : Int) + 1 := by omega
              have hd1 : ¬ (s[k + 1].toNat : Int) = 45 := fun h => hcom ⟨hc45, by
                rw [from_lt hk1]
                have : s[k + 1] = 45 := by apply UInt8.toNat_inj.1; have : (45 : UInt8).toNat = 45 := rfl; omega
                rw [this]; rfl⟩
              have hd2 : ((s[k + 1].toNat : Int) != 45) = true := by simpa using hd1
              clear hcom hc45
              go_wp2_with fail
              go_ret
              exact ⟨by rw [← HE.out]; rfl, HB.out⟩
            · have hk1i : (s.size : Int) ≤ (k : Int) + 1 := by omega
              clear hcom hc45
              go_wp2_with fail
              go_ret
              exact ⟨by rw [← HE.out]; rfl, HB.out⟩
          · have h45b : ((c.toNat : Int) != 45) = true := by simpa using h45
            clear hcom
            go_wp2_with fail
            go_ret
            exact ⟨by rw [← HE.out]; rfl, HB.out⟩
    · have hlti : ¬ (k : Int) < (s.size : Int) := by omega
      have HE : Hid ((k : Int) = (T : Int)) := by
        show _ = _
        have := HQ.out
        rw [from_ge (s := s) (i := k) (by omega)] at this
        simp [skipM] at this; omega
      clear HQ
      go_wp2_with fail
      go_ret
      exact ⟨by rw [← HE.out]; rfl, HB.out⟩

theorem tw_extract (s : ByteArray) (i : Nat) (p : UInt8 → Bool) : s.extract i (i + ((fromS s i).takeWhile p).length) = bs ((fromS s i).takeWhile p) := by
  rw [ext_from]
  congr 1
  exact (List.prefix_iff_eq_take.1 (List.takeWhile_prefix p)).symm

set_option maxRecDepth 100000 in
set_option maxHeartbeats 4000000 in
theorem rname_any {s : ByteArray} {i : Nat} (hs : s.size ≤ 4000) (hi : i ≤ s.size) (w : World) :
    Calls Tryd.prog 87 #[.string s, .int .i64 (i : Int)] w fun e w' => e = .returned (gotV (nameF (fromS s i)) i) ∧ Below w.heap.size w w' := by
  obtain ⟨T, hT⟩ : ∃ T, (fromS s i).takeWhile isNm = T := ⟨_, rfl⟩
  have HT := Lib.hid hT
  have HN : Hid (nameF (fromS s i) = if 20 < T.length then .bad 2 0 else if isWord (T.map upB) then .ok 2 ⟨(T.map upB).toArray⟩ Dt.zero T.length else .ok 1 ⟨(T.map loB).toArray⟩ Dt.zero T.length) := by
    show _ = _
    rw [← hT]; rfl
  have hTl : i + T.length ≤ s.size := by
    have := takeWhile_le isNm (fromS s i)
    rw [hT, from_len] at this; omega
  obtain ⟨S, hS⟩ : ∃ S, s.extract i (i + T.length) = S := ⟨_, rfl⟩
  have HSx := Lib.hid hS
  have HS : Hid (S = bs T) := by show _ = _; rw [← hS, ← hT]; exact tw_extract s i isNm
  have hSz : S.size = T.length := by rw [HS.out, bs_size]
  have HSl : Hid (S.data.toList = T) := by show _ = _; rw [HS.out]; rfl
  have HU := Lib.hid (fun W => upper_any S W (by omega))
  have HL := Lib.hid (fun W => lower_any S W (by omega))
  rw [HSl.out] at HU HL
  obtain ⟨U, hU⟩ : ∃ U : ByteArray, (⟨(T.map upB).toArray⟩ : ByteArray) = U := ⟨_, rfl⟩
  obtain ⟨L, hL⟩ : ∃ L : ByteArray, (⟨(T.map loB).toArray⟩ : ByteArray) = L := ⟨_, rfl⟩
  have HWd : Hid (isWord U.data.toList = isWord (T.map upB) ∧ U.size ≤ 4000) := by
    rw [← hU]; exact ⟨rfl, by show (T.map upB).toArray.size ≤ _; simp; omega⟩
  rw [hU, hL] at HN
  rw [hU] at HU
  rw [hL] at HL
  obtain ⟨wb, hwb⟩ : ∃ wb, isWord (T.map upB) = wb := ⟨_, rfl⟩
  rw [hwb] at HN HWd
  clear hU hL hwb hT
  go_enter Tryd.func87, Tryd.ntmps87
  go_wp2_with fail
  have HG0 := Lib.hid (GB.new w 92)
  have HB0 := Lib.hid (gb_new w)
  generalize w.alloc (.cells _ 92) = W0 at *
  go_loopw [5] (fun iv wr => ∃ k : Nat, k ≤ s.size ∧ iv = .int .i64 (k : Int) ∧ GB wr w.heap.size ∧ Below w.heap.size w wr ∧ Hid (k + ((fromS s k).takeWhile isNm).length = i + T.length)) (fun iv _ => s.size - (intOf iv).toNat)
  case atStart => exact ⟨i, hi, rfl, HG0.out, HB0.out, by show _ = _; rw [HT.out]⟩
  case round =>
    obtain ⟨k, hk, rfl, hG, hB, HQ⟩ := hrel
    have HG := Lib.hid hG
    have HB := Lib.hid hB
    clear hG hB
    by_cases hlt : k < s.size
    · have hlti : (k : Int) < (s.size : Int) := by omega
      have q2 : decide ((k : Int) < (s.size : Int)) = true := by simp; omega
      have HF := Lib.hid (from_lt hlt)
      cases hp : isNm s[k]
      · have HE : Hid (k = i + T.length) := by
          show _ = _
          have := HQ.out
          rw [HF.out, List.takeWhile_cons, if_neg (by rw [hp]; decide)] at this
          simpa using this
        obtain ⟨h1, h2⟩ : isLet s[k] = false ∧ isDig s[k] = false := by simpa [isNm] using hp
        clear HQ HF
        have hSx : s.extract i k = S := by rw [HE.out]; exact HSx.out
        have hik : i ≤ k := by rw [HE.out]; omega
        by_cases h20 : 20 < T.length
        · have h20i : (20 : Int) < (S.size : Int) := by omega
          have HR : Hid (nameF (fromS s i) = .bad 2 0) := by show _ = _; rw [HN.out, if_pos h20]
          go_wp2_with (first | (go_at_call 57; refine (is_rlet h1 _).mono ?_; rintro e w9 ⟨rfl, hw9⟩; rw [hw9]; clear hw9) | (go_at_call 58; refine (is_rdig h2 _).mono ?_; rintro e w9 ⟨rfl, hw9⟩; rw [hw9]; clear hw9) | (go_at_call 116; refine (wrong_any _ _ _).mono ?_; rintro e w5 ⟨rfl, hB5⟩; have HG5 := Lib.hid (HG.out.below hB5); have HB5 := Lib.hid (HB.out.trans (hB5.mono HB.out.size)); clear hB5; obtain ⟨⟨tc0, tc1, tc2, tc3, tc4, tc5, tc6, tc7, tc8, tc9⟩, tf0, tf1, tf2, tf3, tf4, tf5, tf6, tf7, tf8, tf9⟩ := HG5.out.c_f; have tlt := HG5.out.lt) | fail)
          refine bodyPost_ret (v := gotV (.bad 2 0) i) (by have hke := HE.out; simp [results, Tryd.results87, go_sem, gotV, tc0, tc1, tc2, tc3, tc4, tc5, tc6, tc7, tc8, tc9] <;> omega) rfl ⟨by rw [HR.out], below_put10 HB5.out (Nat.le_refl _) _ _ _ _ _ _ _ _ _ _⟩
        · have h20i : ¬ (20 : Int) < (S.size : Int) := by omega
          cases wb
          · have HR : Hid (nameF (fromS s i) = .ok 1 L Dt.zero T.length) := by show _ = _; rw [HN.out, if_neg h20, if_neg (by decide)]
            go_wp2_with (first | (go_at_call 57; refine (is_rlet h1 _).mono ?_; rintro e w9 ⟨rfl, hw9⟩; rw [hw9]; clear hw9) | (go_at_call 58; refine (is_rdig h2 _).mono ?_; rintro e w9 ⟨rfl, hw9⟩; rw [hw9]; clear hw9) | (go_at_call 20; refine (HU.out _).mono ?_; (try clear HG8); rintro e w7 ⟨rfl, hB7⟩; have HG7 := Lib.hid (HG.out.below hB7); have HB7 := Lib.hid (HB.out.trans (hB7.mono HB.out.size)); clear hB7) | (go_at_call 19; refine (rWord_any U _ (by have := HWd.out.2; omega)).mono ?_; rintro e w9 ⟨rfl, hw9⟩; rw [hw9]; clear hw9; rw [HWd.out.1]) | (go_at_call 25; refine (HL.out _).mono ?_; rintro e w8 ⟨rfl, hB8⟩; have HG8 := Lib.hid (HG7.out.below hB8); have HB8 := Lib.hid (HB7.out.trans (hB8.mono HB7.out.size)); clear hB8; obtain ⟨⟨tc0, tc1, tc2, tc3, tc4, tc5, tc6, tc7, tc8, tc9⟩, tf0, tf1, tf2, tf3, tf4, tf5, tf6, tf7, tf8, tf9⟩ := HG8.out.c_f; have tlt := HG8.out.lt) | fail)
            refine bodyPost_ret (v := gotV (.ok 1 L Dt.zero T.length) i) (by have hke := HE.out; simp [results, Tryd.results87, go_sem, Dt.zero, gotV, tc0, tc1, tc2, tc3, tc4, tc5, tc6, tc7, tc8, tc9] <;> omega) rfl ⟨by rw [HR.out], below_put10 HB8.out (Nat.le_refl _) _ _ _ _ _ _ _ _ _ _⟩
          · have HR : Hid (nameF (fromS s i) = .ok 2 U Dt.zero T.length) := by show _ = _; rw [HN.out, if_neg h20, if_pos rfl]
            go_wp2_with (first | (go_at_call 57; refine (is_rlet h1 _).mono ?_; rintro e w9 ⟨rfl, hw9⟩; rw [hw9]; clear hw9) | (go_at_call 58; refine (is_rdig h2 _).mono ?_; rintro e w9 ⟨rfl, hw9⟩; rw [hw9]; clear hw9) | (go_at_call 20; refine (HU.out _).mono ?_; (try clear HG8); rintro e w7 ⟨rfl, hB7⟩; have HG7 := Lib.hid (HG.out.below hB7); have HB7 := Lib.hid (HB.out.trans (hB7.mono HB.out.size)); clear hB7) | (go_at_call 19; refine (rWord_any U _ (by have := HWd.out.2; omega)).mono ?_; rintro e w9 ⟨rfl, hw9⟩; rw [hw9]; clear hw9; rw [HWd.out.1]) | (go_at_call 20; refine (HU.out _).mono ?_; rintro e w8 ⟨rfl, hB8⟩; have HG8 := Lib.hid (HG7.out.below hB8); have HB8 := Lib.hid (HB7.out.trans (hB8.mono HB7.out.size)); clear hB8; obtain ⟨⟨tc0, tc1, tc2, tc3, tc4, tc5, tc6, tc7, tc8, tc9⟩, tf0, tf1, tf2, tf3, tf4, tf5, tf6, tf7, tf8, tf9⟩ := HG8.out.c_f; have tlt := HG8.out.lt) | fail)
            refine bodyPost_ret (v := gotV (.ok 2 U Dt.zero T.length) i) (by have hke := HE.out; simp [results, Tryd.results87, go_sem, Dt.zero, gotV, tc0, tc1, tc2, tc3, tc4, tc5, tc6, tc7, tc8, tc9] <;> omega) rfl ⟨by rw [HR.out], below_put10 HB8.out (Nat.le_refl _) _ _ _ _ _ _ _ _ _ _⟩
      · have HE : Hid (k + 1 + ((fromS s (k + 1)).takeWhile isNm).length = i + T.length) := by
          show _ = _
          have := HQ.out
          rw [HF.out, List.takeWhile_cons, if_pos hp] at this
          simp at this; omega
        clear HQ HF
        cases h1 : isLet s[k]
        · have h2 : isDig s[k] = true := by simpa [isNm, h1] using hp
          go_wp2_with (first | (go_at_call 57; refine (is_rlet h1 _).mono ?_; rintro e w9 ⟨rfl, hw9⟩; rw [hw9]; clear hw9) | (go_at_call 58; refine (is_rdig h2 _).mono ?_; rintro e w9 ⟨rfl, hw9⟩; rw [hw9]; clear hw9) | fail)
          go_roundw
          case rel => exact ⟨k + 1, by omega, by go_num, HG.out, HB.out, HE⟩
          case measure => simp [intOf]; omega
        · go_wp2_with (first | (go_at_call 57; refine (is_rlet h1 _).mono ?_; rintro e w9 ⟨rfl, hw9⟩; rw [hw9]; clear hw9) | fail)
          go_roundw
          case rel => exact ⟨k + 1, by omega, by go_num, HG.out, HB.out, HE⟩
          case measure => simp [intOf]; omega
    · have hlti : ¬ (k : Int) < (s.size : Int) := by omega
      have HE : Hid (k = i + T.length) := by
        show _ = _
        have := HQ.out
        rw [from_ge (s := s) (i := k) (by omega)] at this
        simpa using this
      clear HQ
      have hSx : s.extract i k = S := by rw [HE.out]; exact HSx.out
      have hik : i ≤ k := by rw [HE.out]; omega
      by_cases h20 : 20 < T.length
      · have h20i : (20 : Int) < (S.size : Int) := by omega
        have HR : Hid (nameF (fromS s i) = .bad 2 0) := by show _ = _; rw [HN.out, if_pos h20]
        go_wp2_with (first | (go_at_call 116; refine (wrong_any _ _ _).mono ?_; rintro e w5 ⟨rfl, hB5⟩; have HG5 := Lib.hid (HG.out.below hB5); have HB5 := Lib.hid (HB.out.trans (hB5.mono HB.out.size)); clear hB5; obtain ⟨⟨tc0, tc1, tc2, tc3, tc4, tc5, tc6, tc7, tc8, tc9⟩, tf0, tf1, tf2, tf3, tf4, tf5, tf6, tf7, tf8, tf9⟩ := HG5.out.c_f; have tlt := HG5.out.lt) | fail)
        refine bodyPost_ret (v := gotV (.bad 2 0) i) (by have hke := HE.out; simp [results, Tryd.results87, go_sem, gotV, tc0, tc1, tc2, tc3, tc4, tc5, tc6, tc7, tc8, tc9] <;> omega) rfl ⟨by rw [HR.out], below_put10 HB5.out (Nat.le_refl _) _ _ _ _ _ _ _ _ _ _⟩
      · have h20i : ¬ (20 : Int) < (S.size : Int) := by omega
        cases wb
        · have HR : Hid (nameF (fromS s i) = .ok 1 L Dt.zero T.length) := by show _ = _; rw [HN.out, if_neg h20, if_neg (by decide)]
          go_wp2_with (first | (go_at_call 20; refine (HU.out _).mono ?_; (try clear HG8); rintro e w7 ⟨rfl, hB7⟩; have HG7 := Lib.hid (HG.out.below hB7); have HB7 := Lib.hid (HB.out.trans (hB7.mono HB.out.size)); clear hB7) | (go_at_call 19; refine (rWord_any U _ (by have := HWd.out.2; omega)).mono ?_; rintro e w9 ⟨rfl, hw9⟩; rw [hw9]; clear hw9; rw [HWd.out.1]) | (go_at_call 25; refine (HL.out _).mono ?_; rintro e w8 ⟨rfl, hB8⟩; have HG8 := Lib.hid (HG7.out.below hB8); have HB8 := Lib.hid (HB7.out.trans (hB8.mono HB7.out.size)); clear hB8; obtain ⟨⟨tc0, tc1, tc2, tc3, tc4, tc5, tc6, tc7, tc8, tc9⟩, tf0, tf1, tf2, tf3, tf4, tf5, tf6, tf7, tf8, tf9⟩ := HG8.out.c_f; have tlt := HG8.out.lt) | fail)
          refine bodyPost_ret (v := gotV (.ok 1 L Dt.zero T.length) i) (by have hke := HE.out; simp [results, Tryd.results87, go_sem, Dt.zero, gotV, tc0, tc1, tc2, tc3, tc4, tc5, tc6, tc7, tc8, tc9] <;> omega) rfl ⟨by rw [HR.out], below_put10 HB8.out (Nat.le_refl _) _ _ _ _ _ _ _ _ _ _⟩
        · have HR : Hid (nameF (fromS s i) = .ok 2 U Dt.zero T.length) := by show _ = _; rw [HN.out, if_neg h20, if_pos rfl]
          go_wp2_with (first | (go_at_call 20; refine (HU.out _).mono ?_; (try clear HG8); rintro e w7 ⟨rfl, hB7⟩; have HG7 := Lib.hid (HG.out.below hB7); have HB7 := Lib.hid (HB.out.trans (hB7.mono HB.out.size)); clear hB7) | (go_at_call 19; refine (rWord_any U _ (by have := HWd.out.2; omega)).mono ?_; rintro e w9 ⟨rfl, hw9⟩; rw [hw9]; clear hw9; rw [HWd.out.1]) | (go_at_call 20; refine (HU.out _).mono ?_; rintro e w8 ⟨rfl, hB8⟩; have HG8 := Lib.hid (HG7.out.below hB8); have HB8 := Lib.hid (HB7.out.trans (hB8.mono HB7.out.size)); clear hB8; obtain ⟨⟨tc0, tc1, tc2, tc3, tc4, tc5, tc6, tc7, tc8, tc9⟩, tf0, tf1, tf2, tf3, tf4, tf5, tf6, tf7, tf8, tf9⟩ := HG8.out.c_f; have tlt := HG8.out.lt) | fail)
          refine bodyPost_ret (v := gotV (.ok 2 U Dt.zero T.length) i) (by have hke := HE.out; simp [results, Tryd.results87, go_sem, Dt.zero, gotV, tc0, tc1, tc2, tc3, tc4, tc5, tc6, tc7, tc8, tc9] <;> omega) rfl ⟨by rw [HR.out], below_put10 HB8.out (Nat.le_refl _) _ _ _ _ _ _ _ _ _ _⟩
end Go.Proofs.YtnpgjlhnlakgpaaDoor

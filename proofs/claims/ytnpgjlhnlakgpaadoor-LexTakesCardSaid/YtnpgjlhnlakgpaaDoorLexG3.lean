/- The document's runeAt and text. -/
import Derived.Test.YtnpgjlhnlakgpaaDoorLexG2
import Derived.Test.YtnpgjlhnlakgpaaDoorG04
import Derived.Test.YtnpgjlhnlakgpaaDoorRefRight
namespace Go.Proofs.YtnpgjlhnlakgpaaDoor
open Go.RowKit

def runesO : Option Nat → Int × Bool
  | some n => ((n : Int), true)
  | none => (0, false)
theorem runesR_of (s : ByteArray) : runesR s = runesO (rgo s s.size 0) := by
  unfold runesR runesO
  cases rgo s s.size 0 <;> rfl
theorem gotV_ok {k : Int} {s : ByteArray} {d : Dt} {n i : Nat} : gotV (.ok k s d n) i = .agg #[.int .i64 k, .string s, .int .i64 d.k, .int .i64 d.i, .string d.s, .int .i64 (i : Int), .int .i64 ((i + n : Nat) : Int), .int .i64 0, .int .i64 0, .bool false] := rfl
theorem gotV_bad {e : Int} {o i : Nat} : gotV (.bad e o) i = .agg #[.int .i64 0, .string ⟨#[]⟩, .int .i64 0, .int .i64 0, .string ⟨#[]⟩, .int .i64 0, .int .i64 0, .int .i64 e, .int .i64 ((i + o : Nat) : Int), .bool false] := rfl
set_option maxRecDepth 100000 in
set_option maxHeartbeats 4000000 in
theorem rrune_any {s : ByteArray} {i : Nat} (hs : s.size ≤ 4000) (hi : i < s.size) (w : World) :
    Calls Tryd.prog 124 #[.string s, .int .i64 (i : Int)] w fun e w' => e = .returned (.int .i64 (runeF (fromS s i) : Int)) ∧ Below w.heap.size w w' := by
  obtain ⟨l, hl⟩ : ∃ l, fromS s i = l := ⟨_, rfl⟩
  have hlen := from_len s i
  have HX := Lib.hid (fun k => ext_from s i k)
  rw [hl] at hlen HX ⊢
  have hne : l ≠ [] := fun h => by rw [h] at hlen; simp at hlen; omega
  have HNE := Lib.hid hne
  have HLen := Lib.hid hlen
  clear hl hne hlen
  go_enter Tryd.func124, Tryd.ntmps124
  go_wp2_with fail
  go_loopw [5, 6, 7, 8] (fun nv iv _ _ wr => ∃ (k : Nat) (n : Int), 1 ≤ k ∧ k ≤ 5 ∧ iv = .int .i64 (k : Int) ∧ nv = .int .i64 n ∧ Hid (n = (runeK l k : Int)) ∧ Below w.heap.size w wr) (fun _ iv _ _ _ => 5 - (intOf iv).toNat)
  case atStart => exact ⟨1, 0, Nat.le_refl _, by omega, rfl, rfl, by show _ = _; rw [runeK_one]; rfl, Below.refl _ _⟩
  case round =>
    obtain ⟨k, n, hk1, hk5, rfl, rfl, HN, hB⟩ := hrel
    have HB := Lib.hid hB
    clear hB
    by_cases hlt : k ≤ 4
    · have hlti : (k : Int) ≤ 4 := by omega
      by_cases hsz : i + k ≤ s.size
      · have hszi : (i : Int) + (k : Int) ≤ (s.size : Int) := by omega
        obtain ⟨t, ht⟩ : ∃ t, s.extract i (i + k) = t := ⟨_, rfl⟩
        have HT : Hid (t = bs (l.take k)) := by show _ = _; rw [← ht]; exact HX.out k
        have htz : t.size = k := by rw [HT.out, bs_size, List.length_take, HLen.out]; omega
        have HNX := Lib.hid (runeK_next (l := l) hk1 (by rw [HLen.out]; omega))
        obtain ⟨o, ho⟩ : ∃ o, rgo t k 0 = o := ⟨_, rfl⟩
        rw [← HT.out, ho] at HNX
        have HRr : Hid (runesR t = runesO o) := by show _ = _; rw [runesR_of, htz, ho]
        have HC := Lib.hid (fun W => runes_any t W (by omega))
        rw [HRr.out] at HC
        clear ho HRr
        cases o with
        | none =>
          simp only [runesO] at HC
          have HE : Hid (n = (runeK l (k + 1) : Int)) := by show _ = _; rw [HNX.out, HN.out]; rfl
          clear HNX HN
          go_wp2_with (first | (go_at_call 54; refine (HC.out _).mono ?_; rintro e w7 ⟨rfl, hB7⟩; have HB7 := Lib.hid (HB.out.trans (hB7.mono HB.out.size)); clear hB7) | fail)
          go_roundw
          case rel => exact ⟨k + 1, n, by omega, by omega, by go_num, rfl, HE, HB7.out⟩
          case measure => simp [intOf]; omega
        | some m =>
          simp only [runesO] at HC
          by_cases hm : m = 1
          · subst hm
            have HE : Hid ((k : Int) = (runeK l (k + 1) : Int)) := by show _ = _; rw [HNX.out]; rfl
            clear HNX HN
            go_wp2_with (first | (go_at_call 54; refine (HC.out _).mono ?_; rintro e w7 ⟨rfl, hB7⟩; have HB7 := Lib.hid (HB.out.trans (hB7.mono HB.out.size)); clear hB7) | fail)
            go_roundw
            case rel => exact ⟨k + 1, k, by omega, by omega, by go_num, rfl, HE, HB7.out⟩
            case measure => simp [intOf]; omega
          · have hmi : ((m : Int) == 1) = false := by simp; omega
            have HE : Hid (n = (runeK l (k + 1) : Int)) := by show _ = _; rw [HNX.out, HN.out, if_neg (by simpa using hm)]
            clear HNX HN
            go_wp2_with (first | (go_at_call 54; refine (HC.out _).mono ?_; rintro e w7 ⟨rfl, hB7⟩; have HB7 := Lib.hid (HB.out.trans (hB7.mono HB.out.size)); clear hB7) | fail)
            go_roundw
            case rel => exact ⟨k + 1, n, by omega, by omega, by go_num, rfl, HE, HB7.out⟩
            case measure => simp [intOf]; omega
      · have hszi : ¬ (i : Int) + (k : Int) ≤ (s.size : Int) := by omega
        have HE : Hid (n = (runeF l : Int)) := by show _ = _; rw [HN.out, runeK_end HNE.out (.inr (by rw [HLen.out]; omega))]
        go_wp2_with fail
        go_ret
        exact ⟨by rw [← HE.out]; rfl, HB.out⟩
    · have hlti : ¬ (k : Int) ≤ 4 := by omega
      have HE : Hid (n = (runeF l : Int)) := by show _ = _; rw [HN.out, runeK_end HNE.out (.inl (by omega))]
      go_wp2_with fail
      go_ret
      exact ⟨by rw [← HE.out]; rfl, HB.out⟩

theorem decode39 (r : List UInt8) : Lib.decodeL (39 :: r) = (39, 1) := by
  rw [Lib.decodeL_N]
  show Lib.decodeN _ 39 _ _ _ = _
  unfold Lib.decodeN
  rw [if_pos (by decide)]
theorem runeF39 (r : List UInt8) : runeF (39 :: r) = 1 := by
  unfold runeF badL
  rw [decode39]
  rfl

set_option maxRecDepth 100000 in
set_option maxHeartbeats 8000000 in
theorem rtext_any {s : ByteArray} {i : Nat} (hs : s.size ≤ 4000) (hi : i < s.size) (w : World) :
    Calls Tryd.prog 89 #[.string s, .int .i64 (i : Int)] w fun e w' => e = .returned (gotV (textF (fromS s i)) i) ∧ Below w.heap.size w w' := by
  obtain ⟨X, hX⟩ : ∃ X, txtGo (fromS s i).length (fromS s (i + 1)) = X := ⟨_, rfl⟩
  have HT : Hid (textF (fromS s i) = textR X) := by show _ = _; rw [textF_of, from_from, hX]
  rw [from_len] at hX
  have HX := Lib.hid hX
  have HE : Hid ((i : Int) = (i : Int)) := rfl
  clear hX
  go_enter Tryd.func89, Tryd.ntmps89
  go_wp2_with fail
  have HG0 := Lib.hid (GB.new w 92)
  have HB0 := Lib.hid (gb_new w)
  generalize w.alloc (.cells _ 92) = W0 at *
  go_loopw [5, 6, 7] (fun tv iv _ wr => ∃ (p f : Nat) (S : ByteArray) (out : List UInt8), i < p ∧ p ≤ s.size ∧ iv = .int .i64 (p : Int) ∧ tv = .string S ∧ S.size + i + 1 ≤ p ∧ s.size - p < f ∧ Hid (S = bs out) ∧ Hid (X = preR out (p - (i + 1)) (txtGo f (fromS s p))) ∧ GB wr w.heap.size ∧ Below w.heap.size w wr) (fun _ iv _ _ => s.size - (intOf iv).toNat)
  case atStart => exact ⟨i + 1, s.size - i, ⟨#[]⟩, [], by omega, by omega, by go_num, rfl, by show 0 + i + 1 ≤ _; omega, by omega, rfl, by show _ = _; rw [Nat.sub_self, preR_nil, HX.out], HG0.out, HB0.out⟩
  case round =>
    obtain ⟨p, f, S, out, hip, hp, rfl, rfl, hSz, hf, HS, HQ, hG, hB⟩ := hrel
    have HG := Lib.hid hG
    have HB := Lib.hid hB
    clear hG hB
    obtain ⟨f, rfl⟩ : ∃ g, f = g + 1 := ⟨f - 1, by omega⟩
    by_cases hlt : p < s.size
    · have hlti : (p : Int) < (s.size : Int) := by omega
      have HF := Lib.hid (from_lt hlt)
      obtain ⟨c, hc⟩ : ∃ c, s[p] = c := ⟨_, rfl⟩
      rw [hc] at HF
      have HRN := Lib.hid (fun W => rrune_any hs hlt W)
      by_cases h39 : c = 39
      · have hci : (c.toNat : Int) = 39 := by rw [h39]; rfl
        subst h39
        by_cases hnx : (fromS s (p + 1)).head? = some 39
        · have hp1 : p + 1 < s.size := by
            rcases Nat.lt_or_ge (p + 1) s.size with h | h
            · exact h
            · rw [from_ge h] at hnx; cases hnx
          have hp1i : ¬ (s.size : Int) ≤ (p : Int) + 1 := by omega
          have hd1 : s[p + 1] = 39 := by rw [from_lt hp1] at hnx; simpa using hnx
          have HR1 := Lib.hid (runeF39 (fromS s (p + 1)))
          have HQ2 : Hid (X = preR (out ++ [39]) (p + 2 - (i + 1)) (txtGo f (fromS s (p + 2)))) := by
            show _ = _
            have e : fromS s (p + 1) = 39 :: fromS s (p + 2) := by rw [from_lt hp1, hd1]
            rw [HQ.out, HF.out, e, pre_two]
            congr 1; omega
          obtain ⟨T1, hT1⟩ : ∃ T1, s.extract p (p + 1) = T1 := ⟨_, rfl⟩
          have HT1 : Hid (T1 = bs [39]) := by show _ = _; rw [← hT1, ext_from s p 1, HF.out]; rfl
          have hT1z : T1.size = 1 := by rw [HT1.out]; rfl
          rw [HF.out, HR1.out] at HRN
          have HS2 : Hid (S ++ T1 = bs (out ++ [39])) := by show _ = _; rw [HS.out, HT1.out, bs_append]
          have HSz2 : Hid ((S ++ T1).size + i + 1 ≤ p + 2) := by show _ ≤ _; rw [ByteArray.size_append]; omega
          clear HQ hnx HF HR1
          go_wp2_with (first | (go_at_call 124; refine (HRN.out _).mono ?_; rintro e w7 ⟨rfl, hB7⟩; have HG7 := Lib.hid (HG.out.below hB7); have HB7 := Lib.hid (HB.out.trans (hB7.mono HB.out.size)); clear hB7) | fail)
          go_roundw
          case rel => exact ⟨p + 2, f, _, _, by omega, by omega, by go_num, rfl, HSz2.out, by omega, HS2, HQ2, HG7.out, HB7.out⟩
          case measure => simp [intOf]; omega
        · have HQ2 : Hid (X = some (.inl (out, p - (i + 1) + 1))) := by
            show _ = _
            rw [HQ.out, HF.out, pre_end hnx]
          have HOl : Hid (out.length = S.size) := by show _ = _; rw [HS.out, bs_size]
          by_cases h1000 : 1000 < S.size
          · have h1000i : (1000 : Int) < (S.size : Int) := by omega
            have HR : Hid (textF (fromS s i) = .bad 2 0) := by
              show _ = _
              rw [HT.out, HQ2.out]
              show (if 1000 < out.length then _ else _) = _
              rw [if_pos (by rw [HOl.out]; exact h1000)]
            by_cases hp1 : p + 1 < s.size
            · have hp1i : ¬ (s.size : Int) ≤ (p : Int) + 1 := by omega
              have hd1 : ¬ (s[p + 1].toNat : Int) = 39 := fun h => hnx (by
                rw [from_lt hp1]
                have : s[p + 1] = 39 := by apply UInt8.toNat_inj.1; have : (39 : UInt8).toNat = 39 := rfl; omega
                rw [this]; rfl)
              have hd2 : ((s[p + 1].toNat : Int) != 39) = true := by simpa using hd1
              clear HQ HQ2 hnx HF HRN
              go_wp2_with (first | (go_at_call 116; refine (wrong_any _ _ _).mono ?_; rintro e w5 ⟨rfl, hB5⟩; have HG5 := Lib.hid (HG.out.below hB5); have HB5 := Lib.hid (HB.out.trans (hB5.mono HB.out.size)); clear hB5; obtain ⟨⟨tc0, tc1, tc2, tc3, tc4, tc5, tc6, tc7, tc8, tc9⟩, tf0, tf1, tf2, tf3, tf4, tf5, tf6, tf7, tf8, tf9⟩ := HG5.out.c_f; have tlt := HG5.out.lt) | fail)
              refine bodyPost_ret (v := gotV (.bad 2 0) i) (by have hke := HE.out; simp [results, Tryd.results89, go_sem, gotV, tc0, tc1, tc2, tc3, tc4, tc5, tc6, tc7, tc8, tc9] <;> omega) rfl ⟨by rw [HR.out], below_put10 HB5.out (Nat.le_refl _) _ _ _ _ _ _ _ _ _ _⟩
            · have hp1i : (s.size : Int) ≤ (p : Int) + 1 := by omega
              clear HQ HQ2 hnx HF HRN
              go_wp2_with (first | (go_at_call 116; refine (wrong_any _ _ _).mono ?_; rintro e w5 ⟨rfl, hB5⟩; have HG5 := Lib.hid (HG.out.below hB5); have HB5 := Lib.hid (HB.out.trans (hB5.mono HB.out.size)); clear hB5; obtain ⟨⟨tc0, tc1, tc2, tc3, tc4, tc5, tc6, tc7, tc8, tc9⟩, tf0, tf1, tf2, tf3, tf4, tf5, tf6, tf7, tf8, tf9⟩ := HG5.out.c_f; have tlt := HG5.out.lt) | fail)
              refine bodyPost_ret (v := gotV (.bad 2 0) i) (by have hke := HE.out; simp [results, Tryd.results89, go_sem, gotV, tc0, tc1, tc2, tc3, tc4, tc5, tc6, tc7, tc8, tc9] <;> omega) rfl ⟨by rw [HR.out], below_put10 HB5.out (Nat.le_refl _) _ _ _ _ _ _ _ _ _ _⟩
          · have h1000i : ¬ (1000 : Int) < (S.size : Int) := by omega
            have HR : Hid (textF (fromS s i) = .ok 3 ⟨#[]⟩ ⟨4, 0, S⟩ (1 + (p - (i + 1) + 1))) := by
              show _ = _
              rw [HT.out, HQ2.out]
              show (if 1000 < out.length then _ else _) = _
              rw [if_neg (by rw [HOl.out]; exact h1000), HS.out]
              rfl
            have HE2 : Hid (((i + (1 + (p - (i + 1) + 1)) : Nat) : Int) = (p : Int) + 1) := by show _ = _; omega
            obtain ⟨⟨tc0, tc1, tc2, tc3, tc4, tc5, tc6, tc7, tc8, tc9⟩, tf0, tf1, tf2, tf3, tf4, tf5, tf6, tf7, tf8, tf9⟩ := HG.out.c_f; have tlt := HG.out.lt
            by_cases hp1 : p + 1 < s.size
            · have hp1i : ¬ (s.size : Int) ≤ (p : Int) + 1 := by omega
              have hd1 : ¬ (s[p + 1].toNat : Int) = 39 := fun h => hnx (by
                rw [from_lt hp1]
                have : s[p + 1] = 39 := by apply UInt8.toNat_inj.1; have : (39 : UInt8).toNat = 39 := rfl; omega
                rw [this]; rfl)
              have hd2 : ((s[p + 1].toNat : Int) != 39) = true := by simpa using hd1
              clear HQ HQ2 hnx HF HRN
              go_wp2_with fail
              refine bodyPost_ret (v := .agg #[.int .i64 3, .string ⟨#[]⟩, .int .i64 4, .int .i64 0, .string S, .int .i64 (i : Int), .int .i64 ((p : Int) + 1), .int .i64 0, .int .i64 0, .bool false]) (by simp [results, Tryd.results89, go_sem, tc0, tc1, tc2, tc3, tc4, tc5, tc6, tc7, tc8, tc9]) rfl ⟨by rw [HR.out]; rw [gotV_ok, HE2.out], below_put10 HB.out (Nat.le_refl _) _ _ _ _ _ _ _ _ _ _⟩
            · have hp1i : (s.size : Int) ≤ (p : Int) + 1 := by omega
              clear HQ HQ2 hnx HF HRN
              go_wp2_with fail
              refine bodyPost_ret (v := .agg #[.int .i64 3, .string ⟨#[]⟩, .int .i64 4, .int .i64 0, .string S, .int .i64 (i : Int), .int .i64 ((p : Int) + 1), .int .i64 0, .int .i64 0, .bool false]) (by simp [results, Tryd.results89, go_sem, tc0, tc1, tc2, tc3, tc4, tc5, tc6, tc7, tc8, tc9]) rfl ⟨by rw [HR.out]; rw [gotV_ok, HE2.out], below_put10 HB.out (Nat.le_refl _) _ _ _ _ _ _ _ _ _ _⟩
      · have hci : ¬ (c.toNat : Int) = 39 := fun h => h39 (by apply UInt8.toNat_inj.1; have : (39 : UInt8).toNat = 39 := rfl; omega)
        have hcb : ((c.toNat : Int) == 39) = false := by simpa using hci
        cases hbad : badL (fromS s p) with
        | true =>
          have HR : Hid (textF (fromS s i) = .bad 40 (1 + (p - (i + 1)))) := by
            show _ = _
            rw [HT.out, HQ.out]
            rw [HF.out] at hbad ⊢
            rw [pre_bad h39 hbad]
            rfl
          have HE2 : Hid (((i + (1 + (p - (i + 1))) : Nat) : Int) = (p : Int)) := by show _ = _; omega
          rw [runeF_zero.2 hbad] at HRN
          clear HQ hbad HF h39
          go_wp2_with (first | (go_at_call 124; refine (HRN.out _).mono ?_; rintro e w7 ⟨rfl, hB7⟩; have HG7 := Lib.hid (HG.out.below hB7); have HB7 := Lib.hid (HB.out.trans (hB7.mono HB.out.size)); clear hB7) | (go_at_call 116; refine (wrong_any _ _ _).mono ?_; rintro e w5 ⟨rfl, hB5⟩; have HG5 := Lib.hid (HG7.out.below hB5); have HB5 := Lib.hid (HB7.out.trans (hB5.mono HB7.out.size)); clear hB5; obtain ⟨⟨tc0, tc1, tc2, tc3, tc4, tc5, tc6, tc7, tc8, tc9⟩, tf0, tf1, tf2, tf3, tf4, tf5, tf6, tf7, tf8, tf9⟩ := HG5.out.c_f; have tlt := HG5.out.lt) | fail)
          refine bodyPost_ret (v := .agg #[.int .i64 0, .string ⟨#[]⟩, .int .i64 0, .int .i64 0, .string ⟨#[]⟩, .int .i64 0, .int .i64 0, .int .i64 40, .int .i64 (p : Int), .bool false]) (by simp [results, Tryd.results89, go_sem, tc0, tc1, tc2, tc3, tc4, tc5, tc6, tc7, tc8, tc9]) rfl ⟨by rw [HR.out]; rw [gotV_bad, HE2.out], below_put10 HB5.out (Nat.le_refl _) _ _ _ _ _ _ _ _ _ _⟩
        | false =>
          obtain ⟨hr1, hr2⟩ := runeF_pos hbad
          have hr3 := (runeF_le (l := fromS s p) (by rw [HF.out]; simp)).1
          rw [from_len] at hr3
          have HQ2 : Hid (X = preR (out ++ (fromS s p).take (runeF (fromS s p))) (p + runeF (fromS s p) - (i + 1)) (txtGo f (fromS s (p + runeF (fromS s p))))) := by
            show _ = _
            rw [HQ.out, hr2, ← from_from]
            rw [HF.out] at hbad ⊢
            rw [pre_rune h39 hbad]
            congr 1; omega
          obtain ⟨n, hn⟩ : ∃ n, runeF (fromS s p) = n := ⟨_, rfl⟩
          rw [hn] at HRN hr1 hr3 HQ2
          obtain ⟨T1, hT1⟩ : ∃ T1, s.extract p (p + n) = T1 := ⟨_, rfl⟩
          have HT1 : Hid (T1 = bs ((fromS s p).take n)) := by show _ = _; rw [← hT1, ext_from s p n]
          have hT1z : T1.size = n := by rw [HT1.out, bs_size, List.length_take, from_len]; omega
          have HS2 : Hid (S ++ T1 = bs (out ++ (fromS s p).take n)) := by show _ = _; rw [HS.out, HT1.out, bs_append]
          have HSz2 : Hid ((S ++ T1).size + i + 1 ≤ p + n) := by show _ ≤ _; rw [ByteArray.size_append]; omega
          have hn0 : ((n : Int) == 0) = false := by simp; omega
          clear HQ hbad HF h39 hn hr2
          go_wp2_with (first | (go_at_call 124; refine (HRN.out _).mono ?_; rintro e w7 ⟨rfl, hB7⟩; have HG7 := Lib.hid (HG.out.below hB7); have HB7 := Lib.hid (HB.out.trans (hB7.mono HB.out.size)); clear hB7) | fail)
          go_roundw
          case rel => exact ⟨p + n, f, _, _, by omega, by omega, by go_num, rfl, HSz2.out, by omega, HS2, HQ2, HG7.out, HB7.out⟩
          case measure => simp [intOf]; omega
    · have hlti : ¬ (p : Int) < (s.size : Int) := by omega
      have HR : Hid (textF (fromS s i) = .bad 41 0) := by
        show _ = _
        rw [HT.out, HQ.out, from_ge (s := s) (i := p) (by omega)]
        rfl
      clear HQ
      go_wp2_with (first | (go_at_call 116; refine (wrong_any _ _ _).mono ?_; rintro e w5 ⟨rfl, hB5⟩; have HG5 := Lib.hid (HG.out.below hB5); have HB5 := Lib.hid (HB.out.trans (hB5.mono HB.out.size)); clear hB5; obtain ⟨⟨tc0, tc1, tc2, tc3, tc4, tc5, tc6, tc7, tc8, tc9⟩, tf0, tf1, tf2, tf3, tf4, tf5, tf6, tf7, tf8, tf9⟩ := HG5.out.c_f; have tlt := HG5.out.lt) | fail)
      refine bodyPost_ret (v := gotV (.bad 41 0) i) (by have hke := HE.out; simp [results, Tryd.results89, go_sem, gotV, tc0, tc1, tc2, tc3, tc4, tc5, tc6, tc7, tc8, tc9] <;> omega) rfl ⟨by rw [HR.out], below_put10 HB5.out (Nat.le_refl _) _ _ _ _ _ _ _ _ _ _⟩
end Go.Proofs.YtnpgjlhnlakgpaaDoor

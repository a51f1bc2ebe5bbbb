/- The law WalRows, walked. -/
import Derived.Test.YtnpgjlhnlakgpaaDoorWalSu
import Derived.Test.YtnpgjlhnlakgpaaDoorWalBg
namespace Go.Proofs.YtnpgjlhnlakgpaaDoor
open Go.RowKit Go.Maps

theorem frames_len_le : ∀ (l : List (List UInt8)), (∀ r ∈ l, r.length ≤ 1000) → (framesN l).length ≤ 1012 * l.length
  | [], _ => by simp [framesN]
  | r :: l, h => by
    have h1 := h r (by simp)
    have h2 := frames_len_le l (fun q hq => h q (by simp [hq]))
    have e : framesN (r :: l) = frameN r ++ framesN l := by simp [framesN]
    rw [e, List.length_append, frame_len, List.length_cons]
    omega
theorem frames_snoc (l : List (List UInt8)) (r : List UInt8) : framesN (l ++ [r]) = framesN l ++ frameN r := by simp [framesN]
set_option maxRecDepth 100000 in
set_option maxHeartbeats 16000000 in
theorem rows_walk (v : Value) (L : List (List UInt8)) (s : ByteArray) (w : World) (hv : TxtC w v L) (hs : s.size ≤ 140737488351232) :
    Calls Tryd.prog 10 #[v, .string s] w fun e w' => e = .returned (.bool true) ∧ Below w.heap.size w w' := by
  have hV := hv
  obtain ⟨p, cap, rfl, hcap, hc⟩ := hV
  obtain ⟨n, hn⟩ : ∃ n, L.length = n := ⟨_, rfl⟩
  rw [hn] at hv hcap ⊢
  by_cases h1 : 200 < n
  · have hi : (200 : Int) < (n : Int) := by omega
    clear hc hn hv
    go_enter Tryd.func10, Tryd.ntmps10
    go_wp2_with (first
      | (go_at_call 26; refine (known_any _).mono ?_; rintro e w1 ⟨rfl, hk⟩; have HK := Lib.hid hk; clear hk)
      | fail)
    go_ret
    exact ⟨rfl, HK.out⟩
  by_cases h2 : 131072 < s.size
  · have hi : ¬ (200 : Int) < (n : Int) := by omega
    have hi2 : (131072 : Int) < (s.size : Int) := by omega
    clear hc hn hv
    go_enter Tryd.func10, Tryd.ntmps10
    go_wp2_with (first
      | (go_at_call 26; refine (known_any _).mono ?_; rintro e w1 ⟨rfl, hk⟩; have HK := Lib.hid hk; clear hk)
      | fail)
    go_ret
    exact ⟨rfl, HK.out⟩
  have hi : ¬ (200 : Int) < (n : Int) := by omega
  have hi2 : ¬ (131072 : Int) < (s.size : Int) := by omega
  have HC := Lib.hid hc
  have HV := Lib.hid hv
  have HN := Lib.hid hn
  clear hc hn hv
  go_enter Tryd.func10, Tryd.ntmps10
  go_wp2_with fail
  go_loopw [5, 25] (fun sv iv wr => ∃ i : Nat, i ≤ n ∧ iv = .int .i64 (i : Int) ∧ sv = .string (bs (framesN (L.take i))) ∧ Below w.heap.size w wr ∧ Hid (∀ q ∈ L.take i, q.length ≤ 1000)) (fun _ iv _ => n - (intOf iv).toNat)
  case atStart => exact ⟨0, Nat.zero_le _, rfl, rfl, Below.refl _ _, fun q hq => by simp at hq⟩
  case round =>
    obtain ⟨i, hin, rfl, rfl, hbw, HQ⟩ := hrel
    have HBW := Lib.hid hbw
    clear hbw
    have hfl := frames_len_le (L.take i) HQ.out
    have htl : (L.take i).length ≤ 200 := by rw [List.length_take]; omega
    have hT0 : (bs (framesN (L.take i))).size ≤ 202400 := by rw [bs_size]; omega
    by_cases hlt : i < n
    · have hla : L.length = n := HN.out
      obtain ⟨x, hx⟩ : ∃ x, L[i]? = some x := ⟨L[i], List.getElem?_eq_getElem (by omega)⟩
      obtain ⟨g, o, rfl, hc⟩ := HC.out.resolve_left (fun e => by rw [e] at hla; simp at hla; omega)
      have a0 := hc i x hx
      have hg : g < w.heap.size := World.block_lt_of_cell? w _ a0
      rw [← HBW.out.cell (p := ⟨g, o + i, none⟩) hg] at a0
      have hi1 : (i : Int) < (n : Int) := by omega
      have hi0 : (0 : Int) ≤ (i : Int) := by omega
      have htk : L.take (i + 1) = L.take i ++ [x] := by rw [List.take_add_one, hx]; rfl
      obtain ⟨S, hS⟩ : ∃ S, bs x = S := ⟨_, rfl⟩
      have hSz : S.size = x.length := by rw [← hS, bs_size]
      have hSd : S.data.toList = x := by rw [← hS]; rfl
      rw [hS] at a0
      by_cases hbig : 1000 < S.size
      · have hbi : (1000 : Int) < (S.size : Int) := by omega
        clear hc hla hx hS hSd htk
        go_wp2_with (first
          | (go_at_call 26; refine (known_any _).mono ?_; rintro e w1 ⟨rfl, hk⟩; have HK := Lib.hid (HBW.out.trans (hk.mono HBW.out.size)); clear hk)
          | fail)
        go_ret
        exact ⟨rfl, HK.out⟩
      · have hbi : ¬ (1000 : Int) < (S.size : Int) := by omega
        have HF := Lib.hid (frame_any S wr (by omega))
        rw [if_neg (show ¬ 65536 < S.size by omega), hSd] at HF
        have hFz : (bs (frameN x)).size = S.size + 12 := by rw [bs_size, frame_len, hSz]
        have HA : Hid (bs (framesN (L.take i)) ++ bs (frameN x) = bs (framesN (L.take (i + 1)))) := by show _ = _; rw [htk, frames_snoc, bs_append]
        have HQ1 : Hid (∀ q ∈ L.take (i + 1), q.length ≤ 1000) := by
          show ∀ q ∈ _, _
          rw [htk]
          intro q hq
          rcases List.mem_append.1 hq with hq | hq
          · exact HQ.out q hq
          · rw [List.mem_singleton.1 hq]; omega
        obtain ⟨F, hF⟩ : ∃ F, bs (frameN x) = F := ⟨_, rfl⟩
        rw [hF] at HF HA hFz
        obtain ⟨T, hT⟩ : ∃ T, bs (framesN (L.take i)) = T := ⟨_, rfl⟩
        rw [hT] at HA hT0 ⊢
        have hsum : (T ++ F).size ≤ 300000 := by rw [ByteArray.size_append]; omega
        clear hc hla hx hS hSd htk hF hT hfl htl
        go_wp2_with (first
          | (go_at_call 27; refine HF.out.mono ?_; rintro e w1 ⟨rfl, hk⟩; have HB1 := Lib.hid (HBW.out.trans (hk.mono HBW.out.size)); clear hk)
          | fail)
        go_roundw
        case rel => exact ⟨i + 1, by omega, by go_num, by rw [HA.out], HB1.out, HQ1⟩
        case measure => simp [intOf]; omega
    · obtain rfl : i = n := by omega
      have hta : L.take i = L := List.take_of_length_le (by rw [HN.out]; omega)
      rw [hta] at hfl htl hT0 HQ ⊢
      have hsm : ∀ q ∈ L, q.length ≤ 65536 := fun q hq => Nat.le_trans (HQ.out q hq) (by decide)
      have e1 := scan_frames L [] hsm
      rw [List.append_nil, scan_nil] at e1
      simp only [List.append_nil, Nat.add_zero] at e1
      have e2 := scan_frames L s.data.toList hsm
      obtain ⟨T, hT⟩ : ∃ T, bs (framesN L) = T := ⟨_, rfl⟩
      have hTz : T.size = (framesN L).length := by rw [← hT, bs_size]
      have hTd : T.data.toList = framesN L := by rw [← hT]; rfl
      obtain ⟨X, hX⟩ : ∃ X, T ++ s = X := ⟨_, rfl⟩
      have hXz : X.size = T.size + s.size := by rw [← hX, ByteArray.size_append]
      have hXd : X.data.toList = framesN L ++ s.data.toList := by rw [← hX, ← hTd]; simp
      have hsl := scan_len _ s.data.toList (Nat.lt_succ_self _)
      have hsz : s.data.toList.length = s.size := by simp
      obtain ⟨q, hq⟩ : ∃ q, (framesN L).length + (scanF s.data.toList).2 = q := ⟨_, rfl⟩
      obtain ⟨M, hM⟩ : ∃ M, L ++ (scanF s.data.toList).1 = M := ⟨_, rfl⟩
      rw [hq, hM] at e2
      have hqT : (T.size : Int) ≤ (q : Int) := by omega
      have HS1 : Hid (∀ W, Calls Tryd.prog 29 #[.string T] W fun e w' => ∃ v, e = .returned (.tuple #[v, .int .i64 (T.size : Int)]) ∧ SL W w' v L) := fun W => by
        have h := scan_any T W (by omega)
        rw [hTd, e1, ← hTz] at h
        exact h
      have HS2 : Hid (∀ W, Calls Tryd.prog 29 #[.string X] W fun e w' => ∃ v, e = .returned (.tuple #[v, .int .i64 (q : Int)]) ∧ SL W w' v M) := fun W => by
        have h := scan_any X W (by omega)
        rw [hXd, e2] at h
        exact h
      have hLl : L.length = i := HN.out
      have HBG : Hid (∀ W va vb, TxtC W va L → TxtC W vb M → Calls Tryd.prog 34 #[va, vb] W fun e w' => e = .returned (.bool true) ∧ Below W.heap.size W w') := fun W va vb ha hb => by
        have h := begins_any ha hb (by omega)
        have : begB L M = true := by unfold begB; rw [← hM]; simp
        rw [this] at h
        exact h
      have HT : Hid (∀ W va vb, TxtAt W va L → TxtAt W vb L → Calls Tryd.prog 33 #[va, vb] W fun e w' => e = .returned (.bool true) ∧ Below W.heap.size W w') := fun W va vb ha hb => (texts_any ha hb (by omega) (by omega)).mono fun e w' ⟨h1, h2⟩ => ⟨by rw [h1, decide_eq_true rfl], h2⟩
      have HV1 : Hid (TxtC wr (.slice p i cap) L) := HV.out.below HBW.out
      rw [hT]
      have hov : ¬ 9223372036854775807 < T.size + s.size := by omega
      clear e1 e2 hT hTz hTd hXd hXz hsl hsz hq hM hLl hfl htl hta hsm
      go_wp2_with (first
        | (go_at_call_of 29 (Value.string T); refine (HS1.out _).mono ?_; rintro e w1 ⟨v1, rfl, hk⟩; have HB1 := Lib.hid (HBW.out.trans (hk.B.mono HBW.out.size)); have HT1 := Lib.hid hk.at; have HV2 := Lib.hid (HV1.out.below hk.B); clear hk)
        | (go_at_call_of 29 (Value.string X); refine (HS2.out _).mono ?_; rintro e w2 ⟨v2, rfl, hk⟩; have HB2 := Lib.hid (HB1.out.trans (hk.B.mono HB1.out.size)); have HT2 := Lib.hid (HT1.out.below hk.B); have HM2 := Lib.hid hk.atC; have HV3 := Lib.hid (HV2.out.below hk.B); clear hk)
        | (go_at_call 26; refine (known_any _).mono ?_; rintro e w3 ⟨rfl, hk⟩; have HB3 := Lib.hid (HB2.out.trans (hk.mono HB2.out.size)); have HT3 := Lib.hid (HT2.out.below hk); have HM3 := Lib.hid (HM2.out.below hk); have HV4 := Lib.hid (HV3.out.below hk); clear hk)
        | (go_at_call 33; (with_reducible refine (HT.out _ _ _ HT3.out HV4.out.at).mono ?_); rintro e w4 ⟨rfl, hk⟩; have HB4 := Lib.hid (HB3.out.trans (hk.mono HB3.out.size)); have HM4 := Lib.hid (HM3.out.below hk); have HV5 := Lib.hid (HV4.out.below hk); clear hk)
        | (go_at_call 34; (with_reducible refine (HBG.out _ _ _ HV5.out HM4.out).mono ?_); rintro e w5 ⟨rfl, hk⟩; have HB5 := Lib.hid (HB4.out.trans (hk.mono HB4.out.size)); clear hk)
        | fail)
      go_ret
      exact ⟨rfl, HB5.out⟩
end Go.Proofs.YtnpgjlhnlakgpaaDoor

/- The law WalSums, walked. -/
import Derived.Test.YtnpgjlhnlakgpaaDoorWalH
namespace Go.Proofs.YtnpgjlhnlakgpaaDoor
open Go.RowKit Go.Maps

theorem scan_len : ∀ (f : Nat) (s : List UInt8), s.length < f → (scanN f s).1.length ≤ s.length
  | 0, _, h => by omega
  | f + 1, s, h => by
    simp only [scanN]
    cases ho : oneN s with
    | none => simp
    | some r =>
      have h1 := oneN_len ho
      have h2 := scan_len f (s.drop (12 + r.length)) (by rw [List.length_drop]; omega)
      rw [List.length_drop] at h2
      simp only [List.length_cons]
      omega
set_option maxRecDepth 100000 in
set_option maxHeartbeats 8000000 in
theorem sums_walk (s : ByteArray) (w : World) (hs : s.size ≤ 140737488351232) : Calls Tryd.prog 8 #[.string s] w fun e w' => e = .returned (.bool true) ∧ Below w.heap.size w w' := by
  by_cases hb : 131072 < s.size
  · have hbi : (131072 : Int) < (s.size : Int) := by omega
    go_enter Tryd.func8, Tryd.ntmps8
    go_wp2_with (first
      | (go_at_call 26; refine (known_any _).mono ?_; rintro e w1 ⟨rfl, hk⟩; have HK := Lib.hid hk; clear hk)
      | fail)
    go_ret
    exact ⟨rfl, HK.out⟩
  · have hbi : ¬ (131072 : Int) < (s.size : Int) := by omega
    obtain ⟨F, c, hF⟩ : ∃ F c, (if 65536 < s.size then Ending.returned (.tuple #[.string ⟨#[]⟩, .int .i64 2]) else Ending.returned (.tuple #[.string (bs (frameN s.data.toList)), .int .i64 0])) = Ending.returned (.tuple #[.string F, .int .i64 c]) := by
      split
      · exact ⟨_, _, rfl⟩
      · exact ⟨_, _, rfl⟩
    have HF1 : Hid (∀ W, Calls Tryd.prog 27 #[.string s] W fun e w' => e = .returned (.tuple #[.string F, .int .i64 c]) ∧ Below W.heap.size W w') := fun W => by rw [← hF]; exact frame_any s W hs
    have HF2 : Hid (∀ W, Calls Tryd.prog 28 #[.string s] W fun e w' => e = .returned (.tuple #[.string F, .int .i64 c]) ∧ Below W.heap.size W w') := fun W => by rw [← hF]; exact rframe_any s W hs
    obtain ⟨Z, hZ⟩ : ∃ Z, scanF s.data.toList = Z := ⟨_, rfl⟩
    have HS1 : Hid (∀ W, Calls Tryd.prog 29 #[.string s] W fun e w' => ∃ v, e = .returned (.tuple #[v, .int .i64 (Z.2 : Int)]) ∧ SL W w' v Z.1) := fun W => by rw [← hZ]; exact scan_any s W (by omega)
    have HS2 : Hid (∀ W, Calls Tryd.prog 30 #[.string s] W fun e w' => ∃ v, e = .returned (.tuple #[v, .int .i64 (Z.2 : Int)]) ∧ SL W w' v Z.1) := fun W => by rw [← hZ]; exact rscan_any s W (by omega)
    have hZl : Z.1.length ≤ 8000000000000 := by
      have : (scanF s.data.toList).1.length ≤ s.data.toList.length := scan_len _ _ (Nat.lt_succ_self _)
      rw [hZ] at this
      have h2 : s.data.toList.length = s.size := by simp
      omega
    obtain ⟨L, q⟩ := Z
    simp only at HS1 HS2 hZl
    obtain ⟨n, hn⟩ : ∃ n, sumN s.data.toList = n := ⟨_, rfl⟩
    have HA : Hid (∀ W, Calls Tryd.prog 31 #[.string s] W fun e w' => e = .returned (.int .u32 (n : Int)) ∧ w' = W) := fun W => by rw [← hn]; exact sum_any s W hs
    have HR : Hid (∀ W, Calls Tryd.prog 32 #[.string s] W fun e w' => e = .returned (.int .u32 (n : Int)) ∧ w' = W) := fun W => by rw [← hn]; exact rsum_any s W hs
    have HT : Hid (∀ W va vb, TxtAt W va L → TxtAt W vb L → Calls Tryd.prog 33 #[va, vb] W fun e w' => e = .returned (.bool true) ∧ Below W.heap.size W w') := fun W va vb ha hb => (texts_any ha hb hZl hZl).mono fun e w' ⟨h1, h2⟩ => ⟨by rw [h1, decide_eq_true rfl], h2⟩
    clear hF hZ hn hZl
    go_enter Tryd.func8, Tryd.ntmps8
    go_wp2_with (first
      | (go_at_call 27; refine (HF1.out _).mono ?_; rintro e w1 ⟨rfl, hk⟩; have HB1 := Lib.hid hk; clear hk)
      | (go_at_call 28; refine (HF2.out _).mono ?_; rintro e w2 ⟨rfl, hk⟩; have HB2 := Lib.hid (HB1.out.trans (hk.mono HB1.out.size)); clear hk)
      | (go_at_call 29; refine (HS1.out _).mono ?_; rintro e w3 ⟨v3, rfl, hk⟩; have HB3 := Lib.hid (HB2.out.trans (hk.B.mono HB2.out.size)); have HT3 := Lib.hid hk.at; clear hk)
      | (go_at_call 30; refine (HS2.out _).mono ?_; rintro e w4 ⟨v4, rfl, hk⟩; have HB4 := Lib.hid (HB3.out.trans (hk.B.mono HB3.out.size)); have HT4 := Lib.hid hk.at; have HT34 := Lib.hid (HT3.out.below hk.B); clear hk)
      | (go_at_call 26; refine (known_any _).mono ?_; rintro e w5 ⟨rfl, hk⟩; have HB5 := Lib.hid (HB4.out.trans (hk.mono HB4.out.size)); have HT5 := Lib.hid (HT4.out.below hk); have HT35 := Lib.hid (HT34.out.below hk); clear hk)
      | (go_at_call 31; refine (HA.out _).mono ?_; rintro e w9 ⟨rfl, hw9⟩; rw [hw9]; clear hw9)
      | (go_at_call 32; refine (HR.out _).mono ?_; rintro e w9 ⟨rfl, hw9⟩; rw [hw9]; clear hw9)
      | (go_at_call 33; (with_reducible refine (HT.out _ _ _ HT35.out HT5.out).mono ?_); rintro e w6 ⟨rfl, hk⟩; have HB6 := Lib.hid (HB5.out.trans (hk.mono HB5.out.size)); clear hk)
      | fail)
    go_ret
    exact ⟨rfl, HB6.out⟩
end Go.Proofs.YtnpgjlhnlakgpaaDoor

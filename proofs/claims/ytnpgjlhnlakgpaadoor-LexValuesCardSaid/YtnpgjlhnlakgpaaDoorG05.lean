/- What the document's Print writes of texts and bytes. What the document's Print writes of any value. -/
import Derived.Test.YtnpgjlhnlakgpaaDoorPrintR
namespace Go.Proofs.YtnpgjlhnlakgpaaDoor
open Go.RowKit

theorem extract_one (s : ByteArray) (k : Nat) (h : k < s.size) : s.extract k (k + 1) = bs [s[k]] := by
  apply ByteArray.ext
  rw [ByteArray.data_extract]
  have h2 : k < s.data.size := h
  show s.data.extract k (k + 1) = #[s.data[k]]
  apply Array.ext'
  simp
  rw [List.drop_eq_getElem_cons (by simpa using h2)]
  simp
theorem hex_extract : ∀ n : Fin 16, (hexS.extract n.val (n.val + 1)) = bs [hexd n.val] := by decide
theorem hex_any (n : Nat) (hn : n < 16) (w : World) :
    Calls Tryd.prog 56 #[.int .i64 (n : Int)] w fun e w' => e = .returned (.string (bs [hexd n])) ∧ w = w' := by
  have he := hex_extract ⟨n, hn⟩
  dsimp only at he
  go_enter Tryd.func56, Tryd.ntmps56
  go_wp2_with fail
  go_ret
  exact ⟨rfl, rfl⟩
theorem quoted_take (s : ByteArray) (k : Nat) (h : k < s.size) : quoted (s.data.toList.take (k + 1)) = quoted (s.data.toList.take k) ++ (if s[k] = 39 then [39, 39] else [s[k]]) := by
  rw [List.take_succ_eq_append_getElem (by simpa using h), quoted_snoc]
  rfl
theorem u8_39 (b : UInt8) : b = 39 ↔ (b.toNat : Int) = 39 := by
  constructor
  · rintro rfl; rfl
  · intro h
    apply UInt8.toNat_inj.1
    show b.toNat = 39
    omega

set_option maxRecDepth 100000 in
set_option maxHeartbeats 2000000 in
theorem rprint_text (d : Dt) (w : World) (hr : rightD d = true) (hk : d.k = 4) :
    Calls Tryd.prog 23 #[d.v] w fun e w' => e = .returned (.string (bs (printF d))) ∧ Below w.heap.size w w' := by
  have HR := Lib.hid hr
  have HE := Lib.hid (show printF d = _ from if_neg (by rw [hr]; decide))
  obtain ⟨k, i, s⟩ := d
  dsimp only at hk
  subst hk
  obtain ⟨hb, hz, X⟩ := boxes1 w #[.int .i64 4, .int .i64 i, .string s] 28
  have HB := Lib.hid hb
  have HX := Lib.hid X
  have hsz : s.size ≤ 1000 := by
    unfold rightD at hr
    rw [if_pos rfl] at hr
    simp only [Bool.and_eq_true, decide_eq_true_eq] at hr
    exact hr.2.1
  have HE2 : Hid (printF ⟨4, i, s⟩ = 39 :: (quoted s.data.toList ++ [39])) := HE.out
  rw [HE2.out]
  clear hb hr X hz HE HE2
  go_enter Tryd.func23, Tryd.ntmps23
  go_wp2_with fail
  refine (refright_any _ _ _ _).mono ?_
  rintro e w2 ⟨rfl, hb2⟩
  have c0 : w2.cell? ⟨w.heap.size, 0, none⟩ = some (.int .i64 4) := by rw [hb2.cell (p := ⟨w.heap.size, 0, none⟩) (by simp), HX.out]; rfl
  have c2 : w2.cell? ⟨w.heap.size, 2, none⟩ = some (.string s) := by rw [hb2.cell (p := ⟨w.heap.size, 2, none⟩) (by simp), HX.out]; rfl
  have HB2 := Lib.hid (HB.out.trans (hb2.mono (by simp)))
  clear hb2
  rw [HR.out]
  go_wp2_with fail
  go_loopw [6, 7] (fun v i wr => ∃ (k : Nat) (S : ByteArray), k ≤ s.size ∧ i = .int .i64 (k : Int) ∧ v = .string S ∧ S.size ≤ 1 + 2 * k ∧ Hid (S = bs (39 :: quoted (s.data.toList.take k))) ∧ wr = w2) (fun _ i _ => s.size - (intOf i).toNat)
  case atStart => exact ⟨0, ⟨#[39]⟩, Nat.zero_le _, rfl, rfl, by decide, rfl, rfl⟩
  case round =>
    obtain ⟨k, S, hk, rfl, rfl, hS, HS, rfl⟩ := hrel
    by_cases hlt : k < s.size
    · have hlti : (k : Int) < (s.size : Int) := by omega
      have HQ := Lib.hid (quoted_take s k hlt)
      have HX1 := Lib.hid (extract_one s k hlt)
      obtain ⟨T, hT⟩ : ∃ T, s.extract k (k + 1) = T := ⟨_, rfl⟩
      have hTs : T.size = 1 := by rw [← hT, HX1.out, bs_size]; rfl
      have HT : Hid (T = bs [s[k]]) := by show _ = _; rw [← hT]; exact HX1.out
      have H39 := Lib.hid (u8_39 (s[k]'hlt))
      clear HX1
      by_cases hq : (((s[k]'hlt).toNat : Int) == 39) = true
      · have HN : Hid (S ++ T ++ ⟨#[39]⟩ = bs (39 :: quoted (s.data.toList.take (k + 1)))) := by
          show _ = _
          have hq2 : (s[k]'hlt) = 39 := H39.out.2 (by simpa using hq)
          rw [HQ.out, if_pos hq2, HS.out, HT.out, show (⟨#[39]⟩ : ByteArray) = bs [39] from rfl, bs_append, bs_append, hq2]
          simp
        have hNs : (S ++ T ++ (⟨#[39]⟩ : ByteArray)).size ≤ 1 + 2 * (k + 1) := by
          rw [ByteArray.size_append, ByteArray.size_append, hTs]
          show _ + 1 ≤ _
          omega
        have HNs := Lib.hid hNs
        clear hNs
        go_wp2_with fail
        go_roundw
        case rel => exact ⟨k + 1, _, by omega, by go_num, rfl, HNs.out, HN, trivial⟩
        case measure => simp [intOf]; omega
      · have hq3 : (((s[k]'hlt).toNat : Int) == 39) = false := by simpa using hq
        have HN : Hid (S ++ T = bs (39 :: quoted (s.data.toList.take (k + 1)))) := by
          show _ = _
          have hq2 : ¬ (s[k]'hlt) = 39 := fun h => hq (by simpa using H39.out.1 h)
          rw [HQ.out, if_neg hq2, HS.out, HT.out, bs_append]
          simp
        have hNs : (S ++ T).size ≤ 1 + 2 * (k + 1) := by
          rw [ByteArray.size_append, hTs]
          omega
        have HNs := Lib.hid hNs
        clear hNs hq
        go_wp2_with fail
        go_roundw
        case rel => exact ⟨k + 1, _, by omega, by go_num, rfl, HNs.out, HN, trivial⟩
        case measure => simp [intOf]; omega
    · obtain rfl : k = s.size := by omega
      have HF : Hid (S ++ ⟨#[39]⟩ = bs (39 :: (quoted s.data.toList ++ [39]))) := by
        show _ = _
        rw [HS.out, List.take_of_length_le (show s.data.toList.length ≤ s.size from Nat.le_refl _), show (⟨#[39]⟩ : ByteArray) = bs [39] from rfl, bs_append]
        rfl
      go_wp2_with fail
      go_ret
      exact ⟨ret_str (by rw [HF.out]), HB2.out⟩

set_option maxRecDepth 100000 in
set_option maxHeartbeats 2000000 in
theorem rprint_bytes (d : Dt) (w : World) (hr : rightD d = true) (hk : d.k = 5) :
    Calls Tryd.prog 23 #[d.v] w fun e w' => e = .returned (.string (bs (printF d))) ∧ Below w.heap.size w w' := by
  have HR := Lib.hid hr
  have HE := Lib.hid (show printF d = _ from if_neg (by rw [hr]; decide))
  obtain ⟨k, i, s⟩ := d
  dsimp only at hk
  subst hk
  obtain ⟨hb, hz, X⟩ := boxes1 w #[.int .i64 5, .int .i64 i, .string s] 28
  have HB := Lib.hid hb
  have HX := Lib.hid X
  have hsz : s.size ≤ 1000 := by
    unfold rightD at hr
    rw [if_neg (show ¬ (5 : Int) = 4 by decide)] at hr
    simp [rightN] at hr
    exact hr.2
  have HE2 : Hid (printF ⟨5, i, s⟩ = 120 :: 39 :: (hexed s.data.toList ++ [39])) := HE.out
  rw [HE2.out]
  clear hb hr X hz HE HE2
  go_enter Tryd.func23, Tryd.ntmps23
  go_wp2_with fail
  refine (refright_any _ _ _ _).mono ?_
  rintro e w2 ⟨rfl, hb2⟩
  have c0 : w2.cell? ⟨w.heap.size, 0, none⟩ = some (.int .i64 5) := by rw [hb2.cell (p := ⟨w.heap.size, 0, none⟩) (by simp), HX.out]; rfl
  have c2 : w2.cell? ⟨w.heap.size, 2, none⟩ = some (.string s) := by rw [hb2.cell (p := ⟨w.heap.size, 2, none⟩) (by simp), HX.out]; rfl
  have HB2 := Lib.hid (HB.out.trans (hb2.mono (by simp)))
  clear hb2
  rw [HR.out]
  go_wp2_with fail
  go_loopw [8, 9] (fun v i wr => ∃ (k : Nat) (S : ByteArray), k ≤ s.size ∧ i = .int .i64 (k : Int) ∧ v = .string S ∧ S.size ≤ 2 + 2 * k ∧ Hid (S = bs ([120, 39] ++ hexed (s.data.toList.take k))) ∧ wr.cell? ⟨w.heap.size, 2, none⟩ = some (.string s) ∧ Below w.heap.size w wr) (fun _ i _ => s.size - (intOf i).toNat)
  case atStart => exact ⟨0, ⟨#[120, 39]⟩, Nat.zero_le _, rfl, rfl, by decide, rfl, c2, HB2.out⟩
  case round =>
    obtain ⟨k, S, hk, rfl, rfl, hS, HS, hc, hbl⟩ := hrel
    have HBl := Lib.hid hbl
    clear hbl c0 c2
    by_cases hlt : k < s.size
    · have hlti : (k : Int) < (s.size : Int) := by omega
      have HQ := Lib.hid (hexed_take s k hlt)
      have hx : (s[k]'hlt).toNat < 256 := UInt8.toNat_lt _
      obtain ⟨a, ha⟩ : ∃ a, a = (s[k]'hlt).toNat / 16 := ⟨_, rfl⟩
      obtain ⟨b, hb⟩ : ∃ b, b = (s[k]'hlt).toNat % 16 := ⟨_, rfl⟩
      have ha16 : a < 16 := by omega
      have hb16 : b < 16 := by omega
      have ea : ((s[k]'hlt).toNat : Int) / 16 = (a : Int) := by omega
      have eb : ((s[k]'hlt).toNat : Int) % 16 = (b : Int) := by omega
      have ea' : ((s[k]'hlt).toNat : Int).tdiv 16 = (a : Int) := by rw [Int.tdiv_eq_ediv_of_nonneg (by omega)]; omega
      have eb' : ((s[k]'hlt).toNat : Int).tmod 16 = (b : Int) := by rw [Int.tmod_eq_emod_of_nonneg (by omega)]; omega
      have wa8 : IntKind.u8.wrap (a : Int) = (a : Int) := by rw [show IntKind.u8.wrap (a : Int) = (a : Int) % 256 by simp [IntKind.wrap, IntKind.bits, IntKind.signed]]; omega
      have wb8 : IntKind.u8.wrap (b : Int) = (b : Int) := by rw [show IntKind.u8.wrap (b : Int) = (b : Int) % 256 by simp [IntKind.wrap, IntKind.bits, IntKind.signed]]; omega
      have wa : IntKind.i64.wrap (a : Int) = (a : Int) := by rw [IntKind.wrap_i64]; omega
      have wb : IntKind.i64.wrap (b : Int) = (b : Int) := by rw [IntKind.wrap_i64]; omega
      obtain ⟨A1, hA1⟩ : ∃ A1, A1 = bs [hexd a] := ⟨_, rfl⟩
      obtain ⟨B1, hB1⟩ : ∃ B1, B1 = bs [hexd b] := ⟨_, rfl⟩
      have zA : A1.size = 1 := by rw [hA1, bs_size]; rfl
      have zB : B1.size = 1 := by rw [hB1, bs_size]; rfl
      have HHa : Hid (∀ W, Calls Tryd.prog 56 #[.int .i64 (a : Int)] W fun e w' => e = .returned (.string A1) ∧ W = w') := by rw [hA1]; exact fun W => hex_any a ha16 W
      have HHb : Hid (∀ W, Calls Tryd.prog 56 #[.int .i64 (b : Int)] W fun e w' => e = .returned (.string B1) ∧ W = w') := by rw [hB1]; exact fun W => hex_any b hb16 W
      have HN : Hid (S ++ A1 ++ B1 = bs ([120, 39] ++ hexed (s.data.toList.take (k + 1)))) := by
        show _ = _
        rw [HQ.out, ← ha, ← hb, HS.out, hA1, hB1, bs_append, bs_append]
        simp
      have hNs : (S ++ A1 ++ B1).size ≤ 2 + 2 * (k + 1) := by rw [ByteArray.size_append, ByteArray.size_append, zA, zB]; omega
      have HNs := Lib.hid hNs
      have hSA : S.size + A1.size ≤ 9223372036854775807 := by omega
      have hSB : (S ++ A1).size + B1.size ≤ 9223372036854775807 := by rw [ByteArray.size_append]; omega
      have hrs1 : ∀ W, (Op.stringOp .add S A1).run Tryd.prog W = .ok (.string (S ++ A1)) W := fun W => run_string_add_sum W S A1 hSA
      have hrs2 : ∀ W, (Op.stringOp .add (S ++ A1) B1).run Tryd.prog W = .ok (.string (S ++ A1 ++ B1)) W := fun W => run_string_add_sum W (S ++ A1) B1 hSB
      clear hNs hA1 hB1 ha hb HQ hx
      go_wp2_with fail
      go_region_held3 (fun w' => w'.cell? ⟨w.heap.size, 2, none⟩ = some (.string s)) ((first | assumption | go_keep))
        (first
          | (go_at_call_of 56 (Value.int IntKind.i64 (a : Int)); (with_reducible refine (HHa.out _).mono ?_); rintro e w3 ⟨rfl, rfl⟩)
          | (go_at_call_of 56 (Value.int IntKind.i64 (b : Int)); (with_reducible refine (HHb.out _).mono ?_); rintro e w3 ⟨rfl, rfl⟩))
      all_goals
        go_wp2_with fail
        go_roundw
        case rel => exact ⟨k + 1, _, by omega, by go_num, rfl, HNs.out, HN, hc, HBl.out.drew⟩
        case measure => simp [intOf]; omega
    · obtain rfl : k = s.size := by omega
      have HF : Hid (S ++ ⟨#[39]⟩ = bs (120 :: 39 :: (hexed s.data.toList ++ [39]))) := by
        show _ = _
        rw [HS.out, List.take_of_length_le (show s.data.toList.length ≤ s.size from Nat.le_refl _), show (⟨#[39]⟩ : ByteArray) = bs [39] from rfl, bs_append]
        rfl
      go_wp2_with fail
      go_ret
      exact ⟨ret_str (by rw [HF.out]), HBl.out⟩
end Go.Proofs.YtnpgjlhnlakgpaaDoor
namespace Go.Proofs.YtnpgjlhnlakgpaaDoor
open Go.RowKit

theorem right_kinds {d : Dt} (h : rightD d = true) : d.k = 0 ∨ d.k = 1 ∨ d.k = 2 ∨ d.k = 3 ∨ d.k = 4 ∨ d.k = 5 := by
  unfold rightD at h
  by_cases h4 : d.k = 4
  · omega
  · rw [if_neg h4] at h
    unfold rightN at h
    by_cases h0 : d.k = 0
    · omega
    · rw [if_neg h0] at h
      by_cases h1 : d.k = 1
      · omega
      · rw [if_neg h1] at h
        by_cases h2 : d.k = 2 ∨ d.k = 3
        · omega
        · rw [if_neg h2] at h
          by_cases h5 : d.k = 5
          · omega
          · rw [if_neg h5] at h; cases h
theorem rprint_all (d : Dt) (w : World) (hP : Pow w) (i0 : -9223372036854775808 ≤ d.i) (i1 : d.i ≤ 9223372036854775807) :
    Calls Tryd.prog 23 #[d.v] w fun e w' => e = .returned (.string (bs (printF d))) ∧ Below w.heap.size w w' := by
  cases hr : rightD d
  · exact rprint_bad d w hr
  · rcases right_kinds hr with h | h | h | h | h | h
    · exact rprint_null d w hr h
    · by_cases h1 : d.i = 1
      · exact rprint_true d w h1 hr h
      · exact rprint_false d w h1 hr h
    · exact rprint_int d w hP i0 i1 hr h
    · exact rprint_dec d w hP i0 i1 hr h
    · exact rprint_text d w hr h
    · exact rprint_bytes d w hr h

end Go.Proofs.YtnpgjlhnlakgpaaDoor

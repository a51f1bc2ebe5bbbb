/- The document's lexer: what a call tells (Got), its block of ten cells; wrong. The contract of the lexer's symbol. -/
import Derived.Test.YtnpgjlhnlakgpaaDoorG02
import Derived.Test.YtnpgjlhnlakgpaaDoorG03
import Derived.Lib.IndexLaws
namespace Go.Proofs.YtnpgjlhnlakgpaaDoor
open Go.RowKit

/-- What a call of the document's lexer tells. -/
def gotV (r : Rs) (i : Nat) : Value := match r with
  | .ok k s d n => .agg #[.int .i64 k, .string s, .int .i64 d.k, .int .i64 d.i, .string d.s, .int .i64 (i : Int), .int .i64 ((i + n : Nat) : Int), .int .i64 0, .int .i64 0, .bool false]
  | .bad e o => .agg #[.int .i64 0, .string ⟨#[]⟩, .int .i64 0, .int .i64 0, .string ⟨#[]⟩, .int .i64 0, .int .i64 0, .int .i64 e, .int .i64 ((i + o : Nat) : Int), .bool false]
/-- Its block, as it is made. -/
structure GB (w : World) (n : Nat) : Prop where
  c : w.cell? ⟨n, 0, none⟩ = some (.int .i64 0) ∧ w.cell? ⟨n, 1, none⟩ = some (.string ⟨#[]⟩) ∧ w.cell? ⟨n, 2, none⟩ = some (.int .i64 0) ∧ w.cell? ⟨n, 3, none⟩ = some (.int .i64 0) ∧ w.cell? ⟨n, 4, none⟩ = some (.string ⟨#[]⟩) ∧ w.cell? ⟨n, 5, none⟩ = some (.int .i64 0) ∧ w.cell? ⟨n, 6, none⟩ = some (.int .i64 0) ∧ w.cell? ⟨n, 7, none⟩ = some (.int .i64 0) ∧ w.cell? ⟨n, 8, none⟩ = some (.int .i64 0) ∧ w.cell? ⟨n, 9, none⟩ = some (.bool false)
  f : w.frozen? ⟨n, 0, none⟩ = false ∧ w.frozen? ⟨n, 1, none⟩ = false ∧ w.frozen? ⟨n, 2, none⟩ = false ∧ w.frozen? ⟨n, 3, none⟩ = false ∧ w.frozen? ⟨n, 4, none⟩ = false ∧ w.frozen? ⟨n, 5, none⟩ = false ∧ w.frozen? ⟨n, 6, none⟩ = false ∧ w.frozen? ⟨n, 7, none⟩ = false ∧ w.frozen? ⟨n, 8, none⟩ = false ∧ w.frozen? ⟨n, 9, none⟩ = false
theorem GB.lt {w : World} {n : Nat} (h : GB w n) : n < w.heap.size := World.block_lt_of_cell? w _ h.c.1
theorem GB.of_block {w w' : World} {n : Nat} (h : GB w n) (h1 : w'.heap[n]? = w.heap[n]?) : GB w' n := by
  have hc : ∀ o, w'.cell? ⟨n, o, none⟩ = w.cell? ⟨n, o, none⟩ := fun o => World.cell?_of_block (w := w) h1
  have hf : ∀ o, w'.frozen? ⟨n, o, none⟩ = w.frozen? ⟨n, o, none⟩ := fun o => World.frozen?_of_block (w := w) h1
  constructor
  · rw [hc, hc, hc, hc, hc, hc, hc, hc, hc, hc]; exact h.c
  · rw [hf, hf, hf, hf, hf, hf, hf, hf, hf, hf]; exact h.f
theorem GB.below {w w' : World} {n : Nat} (h : GB w n) (hB : Below w.heap.size w w') : GB w' n := h.of_block (hB.block n h.lt)
abbrev gotZ : Array Value := #[.int .i64 0, .string ⟨#[]⟩, .int .i64 0, .int .i64 0, .string ⟨#[]⟩, .int .i64 0, .int .i64 0, .int .i64 0, .int .i64 0, .bool false]
theorem GB.new (w : World) (t : TypeId) : GB (w.alloc (.cells #[.int .i64 0, .string ⟨#[]⟩, .int .i64 0, .int .i64 0, .string ⟨#[]⟩, .int .i64 0, .int .i64 0, .int .i64 0, .int .i64 0, .bool false] t)) w.heap.size := by
  have hc : ∀ o, (w.alloc (.cells #[.int .i64 0, .string ⟨#[]⟩, .int .i64 0, .int .i64 0, .string ⟨#[]⟩, .int .i64 0, .int .i64 0, .int .i64 0, .int .i64 0, .bool false] t)).cell? ⟨w.heap.size, o, none⟩ = (#[.int .i64 0, .string ⟨#[]⟩, .int .i64 0, .int .i64 0, .string ⟨#[]⟩, .int .i64 0, .int .i64 0, .int .i64 0, .int .i64 0, .bool false] : Array Value)[o]? := fun o => World.cell?_alloc_new _ _ _ _
  have hf : ∀ o, (w.alloc (.cells #[.int .i64 0, .string ⟨#[]⟩, .int .i64 0, .int .i64 0, .string ⟨#[]⟩, .int .i64 0, .int .i64 0, .int .i64 0, .int .i64 0, .bool false] t)).frozen? ⟨w.heap.size, o, none⟩ = false := fun o => World.frozen?_alloc_new ..
  exact ⟨⟨hc 0, hc 1, hc 2, hc 3, hc 4, hc 5, hc 6, hc 7, hc 8, hc 9⟩, hf 0, hf 1, hf 2, hf 3, hf 4, hf 5, hf 6, hf 7, hf 8, hf 9⟩
abbrev put10 (w : World) (n : Nat) (a0 a1 a2 a3 a4 a5 a6 a7 a8 a9 : Value) : World := ((((((((((w.setCell ⟨n, 0, none⟩ a0).setCell ⟨n, 1, none⟩ a1).setCell ⟨n, 2, none⟩ a2).setCell ⟨n, 3, none⟩ a3).setCell ⟨n, 4, none⟩ a4).setCell ⟨n, 5, none⟩ a5).setCell ⟨n, 6, none⟩ a6).setCell ⟨n, 7, none⟩ a7).setCell ⟨n, 8, none⟩ a8).setCell ⟨n, 9, none⟩ a9)
theorem below_put10 {B n : Nat} {w0 w : World} (h : Below B w0 w) (hn : B ≤ n) (a0 a1 a2 a3 a4 a5 a6 a7 a8 a9 : Value) : Below B w0 (put10 w n a0 a1 a2 a3 a4 a5 a6 a7 a8 a9) := by
  iterate 10 (refine Below.setCell ?_ hn _)
  exact h
theorem gb_new (w : World) : Below w.heap.size w (w.alloc (.cells gotZ 92)) := (Below.refl _ _).alloc (Nat.le_refl _) _

theorem wrong_any (e o : Int) (w : World) : Calls Tryd.prog 116 #[.int .i64 e, .int .i64 o] w fun r w' => r = .returned (.agg #[.int .i64 0, .string ⟨#[]⟩, .int .i64 0, .int .i64 0, .string ⟨#[]⟩, .int .i64 0, .int .i64 0, .int .i64 e, .int .i64 o, .bool false]) ∧ Below w.heap.size w w' := by
  go_enter Tryd.func116, Tryd.ntmps116
  go_wp2_with fail
  refine bodyPost_ret (v := .agg #[.int .i64 0, .string ⟨#[]⟩, .int .i64 0, .int .i64 0, .string ⟨#[]⟩, .int .i64 0, .int .i64 0, .int .i64 e, .int .i64 o, .bool false]) (by simp [results, Tryd.results116, go_sem]) rfl ⟨rfl, (Below.refl _ _).alloc (Nat.le_refl _) _⟩
theorem is_rdig {c : UInt8} {v : Bool} (h : isDig c = v) (w : World) : Calls Tryd.prog 58 #[.int .u8 (c.toNat : Int)] w fun e w' => e = .returned (.bool v) ∧ w' = w := by
  rw [← h]; exact rdigit_any c w
theorem is_rlet {c : UInt8} {v : Bool} (h : isLet c = v) (w : World) : Calls Tryd.prog 57 #[.int .u8 (c.toNat : Int)] w fun e w' => e = .returned (.bool v) ∧ w' = w := by
  rw [← h]; exact rletter_any c w

set_option maxHeartbeats 1000000 in
theorem rdigits_any {s : ByteArray} {i : Nat} (hs : s.size ≤ 4000) (hi : i ≤ s.size) (w : World) :
    Calls Tryd.prog 118 #[.string s, .int .i64 (i : Int)] w fun e w' => e = .returned (.int .i64 ((i + ((fromS s i).takeWhile isDig).length : Nat) : Int)) ∧ Below w.heap.size w w' := by
  obtain ⟨T, hT⟩ : ∃ T, i + ((fromS s i).takeWhile isDig).length = T := ⟨_, rfl⟩
  rw [hT]
  have HT := Lib.hid hT
  clear hT
  go_enter Tryd.func118, Tryd.ntmps118
  go_wp2_with fail
  go_loopw [1] (fun iv wr => ∃ k : Nat, k ≤ s.size ∧ iv = .int .i64 (k : Int) ∧ Below w.heap.size w wr ∧ Hid (k + ((fromS s k).takeWhile isDig).length = T)) (fun iv _ => s.size - (intOf iv).toNat)
  case atStart => exact ⟨i, hi, rfl, Below.refl _ _, HT⟩
  case round =>
    obtain ⟨k, hk, rfl, hB, HQ⟩ := hrel
    have HB := Lib.hid hB
    clear hB
    by_cases hlt : k < s.size
    · have hlti : (k : Int) < (s.size : Int) := by omega
      have q2 : decide ((k : Int) < (s.size : Int)) = true := by simp; omega
      have HF := Lib.hid (from_lt hlt)
      cases hp : isDig s[k]
      · have HE : Hid ((k : Int) = (T : Int)) := by
          show _ = _
          have := HQ.out
          rw [HF.out, List.takeWhile_cons, if_neg (by rw [hp]; decide)] at this
          simp at this; omega
        clear HQ HF
        go_wp2_with (first | (go_at_call 58; refine (is_rdig hp _).mono ?_; rintro e w9 ⟨rfl, hw9⟩; rw [hw9]; clear hw9) | fail)
        go_ret
        exact ⟨by rw [← HE.out]; rfl, HB.out⟩
      · have HE : Hid (k + 1 + ((fromS s (k + 1)).takeWhile isDig).length = T) := by
          show _ = _
          have := HQ.out
          rw [HF.out, List.takeWhile_cons, if_pos hp] at this
          simp at this; omega
        clear HQ HF
        go_wp2_with (first | (go_at_call 58; refine (is_rdig hp _).mono ?_; rintro e w9 ⟨rfl, hw9⟩; rw [hw9]; clear hw9) | fail)
        go_roundw
        case rel => exact ⟨k + 1, by omega, by go_num, HB.out, HE⟩
        case measure => simp [intOf]; omega
    · have q2 : decide ((k : Int) < (s.size : Int)) = false := by simp; omega
      have HE : Hid ((k : Int) = (T : Int)) := by
        show _ = _
        have := HQ.out
        rw [from_ge (s := s) (i := k) (by omega)] at this
        simp at this; omega
      clear HQ
      go_wp2_with fail
      go_ret
      exact ⟨by rw [← HE.out]; rfl, HB.out⟩
end Go.Proofs.YtnpgjlhnlakgpaaDoor
namespace Go.Proofs.YtnpgjlhnlakgpaaDoor
open Go.RowKit

theorem sym_index : ∀ c : UInt8, decide (0 ≤ Lib.indexByte [40, 41, 44, 46, 59, 42, 43, 45, 47, 61, 60, 62] c) = sym1 c := byte_all (by decide +kernel)
theorem sym_at {c : UInt8} {v : Int} (h : Lib.indexByte [40, 41, 44, 46, 59, 42, 43, 45, 47, 61, 60, 62] c = v) (w : World) :
    Calls Tryd.prog 78 #[.string ⟨#[40, 41, 44, 46, 59, 42, 43, 45, 47, 61, 60, 62]⟩, .int .u8 (c.toNat : Int)] w fun e w' => e = .returned (.int .i64 v) ∧ w' = w := by
  rw [← h]
  refine (Tryd.strings_IndexByte _ _ w).mono ?_
  rintro e w' ⟨rfl, rfl⟩
  simp
theorem LX.putv {w : World} {b m i j : Nat} {s : ByteArray} {v : Int} (h : LX w b m s i) (hv : v = (j : Int)) : LX (w.setCell ⟨b, 1, none⟩ (.int .i64 v)) b m s j := by
  subst hv; exact h.put j
theorem toList_bs (s : ByteArray) : s.toList = s.data.toList := ByteArray.toList_eq s

set_option maxRecDepth 100000 in
set_option maxHeartbeats 4000000 in
theorem symbol_any {w : World} {b m i : Nat} {s : ByteArray} (h : LX w b m s i) (hs : s.size ≤ 4000) (hi : i < s.size) :
    Calls Tryd.prog 85 #[.pointer (some ⟨b, 0, none⟩)] w (TokPost b m s i (symF (fromS s i)) w) := by
  have H := Lib.hid h
  have hb := h.lt
  have c1 := h.c1
  have c0 := h.c0
  have f1 := h.f1
  obtain ⟨k, hk⟩ : ∃ k : Nat, min (i + 2) s.size = k := ⟨_, rfl⟩
  have hmin : min ((i : Int) + 2) (s.size : Int) = (k : Int) := by omega
  have hk1 : i ≤ k := by omega
  have hk2 : k ≤ s.size := by omega
  obtain ⟨Tw, hTw⟩ : ∃ Tw, s.extract i k = Tw := ⟨_, rfl⟩
  have hTl : Tw.toList = (fromS s i).take 2 := by
    rw [← hTw, toList_bs]
    have h1 := ext_from s i (k - i)
    rw [show i + (k - i) = k by omega] at h1
    rw [h1]
    show (fromS s i).take (k - i) = _
    by_cases h2 : k - i = 2
    · rw [h2]
    · have := from_len s i
      rw [List.take_of_length_le (by omega), List.take_of_length_le (by omega)]
  have HF := Lib.hid (from_lt hi)
  obtain ⟨c, hc⟩ : ∃ c, s[i] = c := ⟨_, rfl⟩
  have HE1 := Lib.hid (ext_from s i 1)
  have HE2 := Lib.hid (ext_from s i 2)
  cases h2 : sym2 ((fromS s i).take 2)
  · have hno : (Tw.toList == [60, 61]) = false ∧ (Tw.toList == [62, 61]) = false ∧ (Tw.toList == [60, 62]) = false := by
      simp only [sym2, decide_eq_false_iff_not, not_or] at h2
      rw [hTl]
      simpa using h2
    obtain ⟨n1, n2, n3⟩ := hno
    have hxi : ∃ v, Lib.indexByte [40, 41, 44, 46, 59, 42, 43, 45, 47, 61, 60, 62] c = v := ⟨_, rfl⟩
    obtain ⟨v, hv⟩ := hxi
    have HV := Lib.hid hv
    cases h1 : sym1 c
    · have hvn : v < 0 := by
        have := sym_index c
        rw [h1, hv] at this
        simpa using this
      have HS : Hid (symF (fromS s i) = .bad 40 0) := by
        show _ = _
        unfold symF
        rw [if_neg (by rw [h2]; decide), HF.out, hc, if_neg (by simp [h1])]
      rw [HS.out]
      clear h h2 h1 HS hTl hv
      go_enter Tryd.func85, Tryd.ntmps85
      go_wp2_with fail
      have HLw := Lib.hid (H.out.alloc (.cells #[.int .i64 0, .string ⟨#[]⟩, .int .i64 0, .int .i64 0, .string ⟨#[]⟩, .int .i64 0] 30))
      have HKw := Lib.hid ((K1.refl b w).alloc (.cells #[.int .i64 0, .string ⟨#[]⟩, .int .i64 0, .int .i64 0, .string ⟨#[]⟩, .int .i64 0] 30))
      have HTw := Lib.hid (TB6.new w (.int .i64 0) (.string ⟨#[]⟩) (.int .i64 0) (.int .i64 0) (.string ⟨#[]⟩) (.int .i64 0) 30)
      generalize w.alloc (.cells #[.int .i64 0, .string ⟨#[]⟩, .int .i64 0, .int .i64 0, .string ⟨#[]⟩, .int .i64 0] 30) = W at *
      have d0 := HLw.out.c0
      have d1 := HLw.out.c1
      have df := HLw.out.f1
      have dl := HLw.out.lt
      obtain ⟨⟨tc0, tc1, tc2, tc3, tc4, tc5⟩, tf0, tf1, tf2, tf3, tf4, tf5⟩ := HTw.out
      have tlt := World.block_lt_of_cell? _ _ tc0
      go_region
      go_wp2_with (first | (go_at_call 78; refine (sym_at HV.out _).mono ?_; rintro e w2 ⟨rfl, rfl⟩) | fail)
      refine bodyPost_ret (v := .tuple #[(⟨0, ⟨#[]⟩, Dt.zero, 0⟩ : Tk).v, .int .i64 40, .int .i64 (i : Int)]) (by simp [results, Tryd.results85, go_sem, Dt.zero, tc0, tc1, tc2, tc3, tc4, tc5]) rfl ⟨by repeat' (first | with_reducible exact HKw.out | with_reducible refine K1.drew ?_ | with_reducible refine K1.drewN ?_ _ | with_reducible refine K1.setCell ?_ _ _ | with_reducible refine K1.setNew ?_ (by omega) _ _), _, _, _, _, _, _, rfl⟩
    · have hvn : 0 ≤ v := by
        have := sym_index c
        rw [h1, hv] at this
        simpa using this
      have HS : Hid (symF (fromS s i) = .ok 4 ⟨((fromS s i).take 1).toArray⟩ Dt.zero 1) := by
        show _ = _
        unfold symF
        rw [if_neg (by rw [h2]; decide), HF.out, hc, if_pos (by simp [h1])]
      obtain ⟨T1, hT1⟩ : ∃ T1, s.extract i (i + 1) = T1 := ⟨_, rfl⟩
      have HT1 : Hid ((⟨((fromS s i).take 1).toArray⟩ : ByteArray) = T1) := by show _ = _; rw [← hT1, HE1.out]; rfl
      rw [HS.out, HT1.out]
      clear h h2 h1 HS hTl hv
      go_enter Tryd.func85, Tryd.ntmps85
      go_wp2_with fail
      have HLw := Lib.hid (H.out.alloc (.cells #[.int .i64 0, .string ⟨#[]⟩, .int .i64 0, .int .i64 0, .string ⟨#[]⟩, .int .i64 0] 30))
      have HKw := Lib.hid ((K1.refl b w).alloc (.cells #[.int .i64 0, .string ⟨#[]⟩, .int .i64 0, .int .i64 0, .string ⟨#[]⟩, .int .i64 0] 30))
      have HTw := Lib.hid (TB6.new w (.int .i64 0) (.string ⟨#[]⟩) (.int .i64 0) (.int .i64 0) (.string ⟨#[]⟩) (.int .i64 0) 30)
      generalize w.alloc (.cells #[.int .i64 0, .string ⟨#[]⟩, .int .i64 0, .int .i64 0, .string ⟨#[]⟩, .int .i64 0] 30) = W at *
      have d0 := HLw.out.c0
      have d1 := HLw.out.c1
      have df := HLw.out.f1
      have dl := HLw.out.lt
      obtain ⟨⟨tc0, tc1, tc2, tc3, tc4, tc5⟩, tf0, tf1, tf2, tf3, tf4, tf5⟩ := HTw.out
      have tlt := World.block_lt_of_cell? _ _ tc0
      go_region
      go_wp2_with (first | (go_at_call 78; refine (sym_at HV.out _).mono ?_; rintro e w2 ⟨rfl, rfl⟩) | fail)
      go_region
      go_wp2_with fail
      refine bodyPost_ret (v := .tuple #[(⟨4, T1, Dt.zero, i⟩ : Tk).v, .int .i64 0, .int .i64 0]) (by simp [results, Tryd.results85, go_sem, Dt.zero, tc0, tc1, tc2, tc3, tc4, tc5]) rfl ⟨by repeat' (first | with_reducible exact HKw.out | with_reducible refine K1.drew ?_ | with_reducible refine K1.drewN ?_ _ | with_reducible refine K1.setCell ?_ _ _ | with_reducible refine K1.setNew ?_ (by omega) _ _), rfl, by repeat' (first | with_reducible exact HLw.out | with_reducible refine LX.drew ?_ | with_reducible refine LX.drewN ?_ _ | with_reducible refine LX.far ?_ (by omega) _ _ | with_reducible refine LX.put1 ?_ | with_reducible refine LX.putv (i := i) ?_ (by omega))⟩
  · have hk3 : k = i + 2 := by
      rcases Nat.lt_or_ge (i + 1) s.size with h3 | h3
      · omega
      · exfalso
        have h4 : ((fromS s i).take 2).length ≤ 1 := by rw [List.length_take, from_len]; omega
        simp only [sym2, decide_eq_true_eq] at h2
        rcases h2 with h2 | h2 | h2 <;> (rw [h2] at h4; simp at h4)
    subst hk3
    have HS : Hid (symF (fromS s i) = .ok 4 ⟨((fromS s i).take 2).toArray⟩ Dt.zero 2) := by
      show _ = _
      unfold symF
      rw [if_pos h2]
    have HT1 : Hid ((⟨((fromS s i).take 2).toArray⟩ : ByteArray) = Tw) := by show _ = _; rw [← hTw, HE2.out]; rfl
    rw [HS.out, HT1.out]
    simp only [sym2, decide_eq_true_eq] at h2
    rw [← hTl] at h2
    have hcs : ((Tw.toList == [60, 61]) = true) ∨ ((Tw.toList == [60, 61]) = false ∧ (Tw.toList == [62, 61]) = true) ∨ ((Tw.toList == [60, 61]) = false ∧ (Tw.toList == [62, 61]) = false ∧ (Tw.toList == [60, 62]) = true) := by
      rcases h2 with h2 | h2 | h2 <;> (rw [h2]; decide)
    clear h h2 HS hTl
    rcases hcs with n1 | ⟨n1, n2⟩ | ⟨n1, n2, n3⟩ <;>
    (go_enter Tryd.func85, Tryd.ntmps85
     go_wp2_with fail
     have HLw := Lib.hid (H.out.alloc (.cells #[.int .i64 0, .string ⟨#[]⟩, .int .i64 0, .int .i64 0, .string ⟨#[]⟩, .int .i64 0] 30))
     have HKw := Lib.hid ((K1.refl b w).alloc (.cells #[.int .i64 0, .string ⟨#[]⟩, .int .i64 0, .int .i64 0, .string ⟨#[]⟩, .int .i64 0] 30))
     have HTw := Lib.hid (TB6.new w (.int .i64 0) (.string ⟨#[]⟩) (.int .i64 0) (.int .i64 0) (.string ⟨#[]⟩) (.int .i64 0) 30)
     generalize w.alloc (.cells #[.int .i64 0, .string ⟨#[]⟩, .int .i64 0, .int .i64 0, .string ⟨#[]⟩, .int .i64 0] 30) = W at *
     have d0 := HLw.out.c0
     have d1 := HLw.out.c1
     have df := HLw.out.f1
     have dl := HLw.out.lt
     obtain ⟨⟨tc0, tc1, tc2, tc3, tc4, tc5⟩, tf0, tf1, tf2, tf3, tf4, tf5⟩ := HTw.out
     have tlt := World.block_lt_of_cell? _ _ tc0
     go_region
     go_wp2_with fail
     go_region
     go_wp2_with fail
     refine bodyPost_ret (v := .tuple #[(⟨4, Tw, Dt.zero, i⟩ : Tk).v, .int .i64 0, .int .i64 0]) (by simp [results, Tryd.results85, go_sem, Dt.zero, tc0, tc1, tc2, tc3, tc4, tc5]) rfl ⟨by repeat' (first | with_reducible exact HKw.out | with_reducible refine K1.drew ?_ | with_reducible refine K1.drewN ?_ _ | with_reducible refine K1.setCell ?_ _ _ | with_reducible refine K1.setNew ?_ (by omega) _ _), rfl, by repeat' (first | with_reducible exact HLw.out | with_reducible refine LX.drew ?_ | with_reducible refine LX.drewN ?_ _ | with_reducible refine LX.far ?_ (by omega) _ _ | with_reducible refine LX.put1 ?_ | with_reducible refine LX.putv (i := i) ?_ (by omega))⟩)
end Go.Proofs.YtnpgjlhnlakgpaaDoor

/- The document's lexer: what a call tells (Got), its block of ten cells; wrong. -/
import Derived.Test.YtnpgjlhnlakgpaaDoorLexF3
import Derived.Test.YtnpgjlhnlakgpaaDoorLexTB
namespace Go.Proofs.YtnpgjlhnlakgpaaDoor
open Go.RowKit

/-- What a call of the document's lexer tells. -/
def gotV (r : Rs) (i : Nat) : Value := match r with
  | .ok k s d n => .agg #[.int .i64 k, .string s, .int .i64 d.k, .int .i64 d.i, .string d.s, .int .i64 (i : Int), .int .i64 ((i + n : Nat) : Int), .int .i64 0, .int .i64 0, .bool false]
  | .bad e o => .agg #[.int .i64 0, .string ⟨#[]⟩, .int .i64 0, .int .i64 0, .string ⟨#[]⟩, .int .i64 0, .int .i64 0, .int .i64 e, .int .i64 ((i + o : Nat) : Int), .bool false]
/-- Its block, as it is made. -/
structure GB (w : World) (n : Nat) : Prop where
  c : w.cell? ⟨n, 0, none⟩ = some (.int .i64 0) ∧ w.cell? ⟨n, 1, none⟩ = some (.string ⟨#[]⟩) ∧ w.cell? ⟨n, 2, none⟩ = some (.int .i64 0) ∧ w.cell? ⟨n, 3, none⟩ = some (.int .i64 0) ∧ w.cell? ⟨n, 4, none⟩ = some (.string ⟨#[]⟩) ∧ w.cell? ⟨n, 5, none⟩ = some (.int .i64 0) ∧ w.cell? ⟨n, 6, none⟩ = some (.int .i64 0) ∧ w.cell? ⟨n, 7, none⟩ = some (.int .i64 0) ∧ w.cell? ⟨n, 8, none⟩ = some (.int .i64 0) ∧ w.cell? ⟨n, 9, none⟩ = some (.bool false)
  f : w.frozen? ⟨n, 0, none⟩ = false ∧ w.frozen? ⟨n, 1, none⟩ = false ∧ w.frozen? ⟨n, 2, none⟩ = false ∧ w.frozen? ⟨n, 3, none⟩ = false ∧ w.frozen? ⟨n, 4, none⟩ = false ∧ w.frozen? ⟨n, 5, none⟩ = false ∧ w.frozen? ⟨n, 6, none⟩ = false ∧ w.frozen? ⟨n, 7, none⟩ = false ∧ w.frozen? ⟨n, 8, none⟩ = false ∧ w.frozen? ⟨n, 9, none⟩ = false
theorem GB.lt {w : World} {n : Nat} (h : GB w n) : n < w.heap.size := World.block_lt_of_cell? w _ h.c.1
theorem GB.of_block {w w' : World} {n : Nat} (h : GB w n) (h1 : w'.heap[n]? = w.heap[n]?) : GB w' n := by
  have hc : ∀ o, w'.cell? ⟨n, o, none⟩ = w.cell? ⟨n, o, none⟩ := fun o => World.cell?_of_block (w := w) h1
  have hf : ∀ o, w'.frozen? ⟨n, o, none⟩ = w.frozen? ⟨n, o, none⟩ := fun o => World.frozen?_of_block (w := w) h1
  constructor
  · rw [hc, hc, hc, hc, hc, hc, hc, hc, hc, hc]; exact h.c
  · rw [hf, hf, hf, hf, hf, hf, hf, hf, hf, hf]; exact h.f
theorem GB.below {w w' : World} {n : Nat} (h : GB w n) (hB : Below w.heap.size w w') : GB w' n := h.of_block (hB.block n h.lt)
abbrev gotZ : Array Value := #[.int .i64 0, .string ⟨#[]⟩, .int .i64 0, .int .i64 0, .string ⟨#[]⟩, .int .i64 0, .int .i64 0, .int .i64 0, .int .i64 0, .bool false]
theorem GB.new (w : World) (t : TypeId) : GB (w.alloc (.cells #[.int .i64 0, .string ⟨#[]⟩, .int .i64 0, .int .i64 0, .string ⟨#[]⟩, .int .i64 0, .int .i64 0, .int .i64 0, .int .i64 0, .bool false] t)) w.heap.size := by
  have hc : ∀ o, (w.alloc (.cells #[.int .i64 0, .string ⟨#[]⟩, .int .i64 0, .int .i64 0, .string ⟨#[]⟩, .int .i64 0, .int .i64 0, .int .i64 0, .int .i64 0, .bool false] t)).cell? ⟨w.heap.size, o, none⟩ = (#[.int .i64 0, .string ⟨#[]⟩, .int .i64 0, .int .i64 0, .string ⟨#[]⟩, .int .i64 0, .int .i64 0, .int .i64 0, .int .i64 0, .bool false] : Array Value)[o]? := fun o => World.cell?_alloc_new _ _ _ _
  have hf : ∀ o, (w.alloc (.cells #[.int .i64 0, .string ⟨#[]⟩, .int .i64 0, .int .i64 0, .string ⟨#[]⟩, .int .i64 0, .int .i64 0, .int .i64 0, .int .i64 0, .bool false] t)).frozen? ⟨w.heap.size, o, none⟩ = false := fun o => World.frozen?_alloc_new ..
  exact ⟨⟨hc 0, hc 1, hc 2, hc 3, hc 4, hc 5, hc 6, hc 7, hc 8, hc 9⟩, hf 0, hf 1, hf 2, hf 3, hf 4, hf 5, hf 6, hf 7, hf 8, hf 9⟩
abbrev put10 (w : World) (n : Nat) (a0 a1 a2 a3 a4 a5 a6 a7 a8 a9 : Value) : World := ((((((((((w.setCell ⟨n, 0, none⟩ a0).setCell ⟨n, 1, none⟩ a1).setCell ⟨n, 2, none⟩ a2).setCell ⟨n, 3, none⟩ a3).setCell ⟨n, 4, none⟩ a4).setCell ⟨n, 5, none⟩ a5).setCell ⟨n, 6, none⟩ a6).setCell ⟨n, 7, none⟩ a7).setCell ⟨n, 8, none⟩ a8).setCell ⟨n, 9, none⟩ a9)
theorem below_put10 {B n : Nat} {w0 w : World} (h : Below B w0 w) (hn : B ≤ n) (a0 a1 a2 a3 a4 a5 a6 a7 a8 a9 : Value) : Below B w0 (put10 w n a0 a1 a2 a3 a4 a5 a6 a7 a8 a9) := by
  iterate 10 (refine Below.setCell ?_ hn _)
  exact h
theorem gb_new (w : World) : Below w.heap.size w (w.alloc (.cells gotZ 92)) := (Below.refl _ _).alloc (Nat.le_refl _) _

theorem wrong_any (e o : Int) (w : World) : Calls Tryd.prog 116 #[.int .i64 e, .int .i64 o] w fun r w' => r = .returned (.agg #[.int .i64 0, .string ⟨#[]⟩, .int .i64 0, .int .i64 0, .string ⟨#[]⟩, .int .i64 0, .int .i64 0, .int .i64 e, .int .i64 o, .bool false]) ∧ Below w.heap.size w w' := by
  go_enter Tryd.func116, Tryd.ntmps116
  go_wp2_with fail
  refine bodyPost_ret (v := .agg #[.int .i64 0, .string ⟨#[]⟩, .int .i64 0, .int .i64 0, .string ⟨#[]⟩, .int .i64 0, .int .i64 0, .int .i64 e, .int .i64 o, .bool false]) (by simp [results, Tryd.results116, go_sem]) rfl ⟨rfl, (Below.refl _ _).alloc (Nat.le_refl _) _⟩
theorem is_rdig {c : UInt8} {v : Bool} (h : isDig c = v) (w : World) : Calls Tryd.prog 58 #[.int .u8 (c.toNat : Int)] w fun e w' => e = .returned (.bool v) ∧ w' = w := by
  rw [← h]; exact rdigit_any c w
theorem is_rlet {c : UInt8} {v : Bool} (h : isLet c = v) (w : World) : Calls Tryd.prog 57 #[.int .u8 (c.toNat : Int)] w fun e w' => e = .returned (.bool v) ∧ w' = w := by
  rw [← h]; exact rletter_any c w

set_option maxHeartbeats 1000000 in
theorem rdigits_any {s : ByteArray} {i : Nat} (hs : s.size ≤ 4000) (hi : i ≤ s.size) (w : World) :
    Calls Tryd.prog 118 #[.string s, .int .i64 (i : Int)] w fun e w' => e = .returned (.int .i64 ((i + ((fromS s i).takeWhile isDig).length : Nat) : Int)) ∧ Below w.heap.size w w' := by
  obtain ⟨T, hT⟩ : ∃ T, i + ((fromS s i).takeWhile isDig).length = T := ⟨_, rfl⟩
  rw [hT]
  have HT := Lib.hid hT
  clear hT
  go_enter Tryd.func118, Tryd.ntmps118
  go_wp2_with fail
  go_loopw [1] (fun iv wr => ∃ k : Nat, k ≤ s.size ∧ iv = .int .i64 (k : Int) ∧ Below w.heap.size w wr ∧ Hid (k + ((fromS s k).takeWhile isDig).length = T)) (fun iv _ => s.size - (intOf iv).toNat)
  case atStart => exact ⟨i, hi, rfl, Below.refl _ _, HT⟩
  case round =>
    obtain ⟨k, hk, rfl, hB, HQ⟩ := hrel
    have HB := Lib.hid hB
    clear hB
    by_cases hlt : k < s.size
    · have hlti : (k : Int) < (s.size : Int) := by omega
      have q2 : decide ((k : Int) < (s.size : Int)) = true := by simp; omega
      have HF := Lib.hid (from_lt hlt)
      cases hp : isDig s[k]
      · have HE : Hid ((k : Int) = (T : Int)) := by
          show _ = _
          have := HQ.out
          rw [HF.out, List.takeWhile_cons, if_neg (by rw [hp]; decide)] at this
          simp at this; omega
        clear HQ HF
        go_wp2_with (first | (go_at_call 58; refine (is_rdig hp _).mono ?_; rintro e w9 ⟨rfl, hw9⟩; rw [hw9]; clear hw9) | fail)
        go_ret
        exact ⟨by rw [← HE.out]; rfl, HB.out⟩
      · have HE : Hid (k + 1 + ((fromS s (k + 1)).takeWhile isDig).length = T) := by
          show _ = _
          have := HQ.out
          rw [HF.out, List.takeWhile_cons, if_pos hp] at this
          simp at this; omega
        clear HQ HF
        go_wp2_with (first | (go_at_call 58; refine (is_rdig hp _).mono ?_; rintro e w9 ⟨rfl, hw9⟩; rw [hw9]; clear hw9) | fail)
        go_roundw
        case rel => exact ⟨k + 1, by omega, by go_num, HB.out, HE⟩
        case measure => simp [intOf]; omega
    · have q2 : decide ((k : Int) < (s.size : Int)) = false := by simp; omega
      have HE : Hid ((k : Int) = (T : Int)) := by
        show _ = _
        have := HQ.out
        rw [from_ge (s := s) (i := k) (by omega)] at this
        simp at this; omega
      clear HQ
      go_wp2_with fail
      go_ret
      exact ⟨by rw [← HE.out]; rfl, HB.out⟩
end Go.Proofs.YtnpgjlhnlakgpaaDoor

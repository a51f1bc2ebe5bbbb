/- Contracts of the lexer's small functions: digit, letter, next. -/
import Derived.Test.YtnpgjlhnlakgpaaDoorLexK
import Derived.BigQuiet
import Derived.PlainAid
namespace Go.Proofs.YtnpgjlhnlakgpaaDoor
open Go.RowKit

theorem digit_any (c : UInt8) (w : World) : Calls Tryd.prog 82 #[.int .u8 (c.toNat : Int)] w fun e w' => e = .returned (.bool (isDig c)) ∧ w' = w := by
  have hc := c.toNat_lt
  rcases (show (c.toNat : Int) < 48 ∨ (48 ≤ (c.toNat : Int) ∧ (c.toNat : Int) ≤ 57) ∨ 57 < (c.toNat : Int) from by omega) with h | h | h
  · have HM : Hid (isDig c = false) := by
      show isDig c = _
      unfold isDig
      simp
      omega
    rw [HM.out]
    go_enter Tryd.func82, Tryd.ntmps82
    go_wp2_with fail
    go_ret
    first | exact ⟨rfl, rfl⟩ | exact ⟨by simp <;> omega, rfl⟩
  · have HM : Hid (isDig c = true) := by
      show isDig c = _
      unfold isDig
      simp
      omega
    rw [HM.out]
    go_enter Tryd.func82, Tryd.ntmps82
    go_wp2_with fail
    go_ret
    first | exact ⟨rfl, rfl⟩ | exact ⟨by simp <;> omega, rfl⟩
  · have HM : Hid (isDig c = false) := by
      show isDig c = _
      unfold isDig
      simp
      omega
    rw [HM.out]
    go_enter Tryd.func82, Tryd.ntmps82
    go_wp2_with fail
    go_ret
    first | exact ⟨rfl, rfl⟩ | exact ⟨by simp <;> omega, rfl⟩
theorem letter_any (c : UInt8) (w : World) : Calls Tryd.prog 80 #[.int .u8 (c.toNat : Int)] w fun e w' => e = .returned (.bool (isLet c)) ∧ w' = w := by
  have hc := c.toNat_lt
  rcases (show (c.toNat : Int) < 65 ∨ (65 ≤ (c.toNat : Int) ∧ (c.toNat : Int) ≤ 90) ∨ (90 < (c.toNat : Int) ∧ (c.toNat : Int) < 95) ∨ (c.toNat : Int) = 95 ∨ (c.toNat : Int) = 96 ∨ (97 ≤ (c.toNat : Int) ∧ (c.toNat : Int) ≤ 122) ∨ 122 < (c.toNat : Int) from by omega) with h | h | h | h | h | h | h
  · have HM : Hid (isLet c = false) := by
      show isLet c = _
      unfold isLet
      simp
      omega
    rw [HM.out]
    go_enter Tryd.func80, Tryd.ntmps80
    go_wp2_with fail
    go_ret
    first | exact ⟨rfl, rfl⟩ | exact ⟨by simp <;> omega, rfl⟩
  · have HM : Hid (isLet c = true) := by
      show isLet c = _
      unfold isLet
      simp
      omega
    rw [HM.out]
    go_enter Tryd.func80, Tryd.ntmps80
    go_wp2_with fail
    go_ret
    first | exact ⟨rfl, rfl⟩ | exact ⟨by simp <;> omega, rfl⟩
  · have HM : Hid (isLet c = false) := by
      show isLet c = _
      unfold isLet
      simp
      omega
    rw [HM.out]
    go_enter Tryd.func80, Tryd.ntmps80
    go_wp2_with fail
    go_ret
    first | exact ⟨rfl, rfl⟩ | exact ⟨by simp <;> omega, rfl⟩
  · have HM : Hid (isLet c = true) := by
      show isLet c = _
      unfold isLet
      simp
      omega
    rw [HM.out]
    go_enter Tryd.func80, Tryd.ntmps80
    go_wp2_with fail
    go_ret
    first | exact ⟨rfl, rfl⟩ | exact ⟨by simp <;> omega, rfl⟩
  · have HM : Hid (isLet c = false) := by
      show isLet c = _
      unfold isLet
      simp
      omega
    rw [HM.out]
    go_enter Tryd.func80, Tryd.ntmps80
    go_wp2_with fail
    go_ret
    first | exact ⟨rfl, rfl⟩ | exact ⟨by simp <;> omega, rfl⟩
  · have HM : Hid (isLet c = true) := by
      show isLet c = _
      unfold isLet
      simp
      omega
    rw [HM.out]
    go_enter Tryd.func80, Tryd.ntmps80
    go_wp2_with fail
    go_ret
    first | exact ⟨rfl, rfl⟩ | exact ⟨by simp <;> omega, rfl⟩
  · have HM : Hid (isLet c = false) := by
      show isLet c = _
      unfold isLet
      simp
      omega
    rw [HM.out]
    go_enter Tryd.func80, Tryd.ntmps80
    go_wp2_with fail
    go_ret
    first | exact ⟨rfl, rfl⟩ | exact ⟨by simp <;> omega, rfl⟩
theorem rdigit_any (c : UInt8) (w : World) : Calls Tryd.prog 58 #[.int .u8 (c.toNat : Int)] w fun e w' => e = .returned (.bool (isDig c)) ∧ w' = w := by
  have hc := c.toNat_lt
  rcases (show (c.toNat : Int) < 48 ∨ (48 ≤ (c.toNat : Int) ∧ (c.toNat : Int) ≤ 57) ∨ 57 < (c.toNat : Int) from by omega) with h | h | h
  · have HM : Hid (isDig c = false) := by
      show isDig c = _
      unfold isDig
      simp
      omega
    rw [HM.out]
    go_enter Tryd.func58, Tryd.ntmps58
    go_wp2_with fail
    go_ret
    first | exact ⟨rfl, rfl⟩ | exact ⟨by simp <;> omega, rfl⟩
  · have HM : Hid (isDig c = true) := by
      show isDig c = _
      unfold isDig
      simp
      omega
    rw [HM.out]
    go_enter Tryd.func58, Tryd.ntmps58
    go_wp2_with fail
    go_ret
    first | exact ⟨rfl, rfl⟩ | exact ⟨by simp <;> omega, rfl⟩
  · have HM : Hid (isDig c = false) := by
      show isDig c = _
      unfold isDig
      simp
      omega
    rw [HM.out]
    go_enter Tryd.func58, Tryd.ntmps58
    go_wp2_with fail
    go_ret
    first | exact ⟨rfl, rfl⟩ | exact ⟨by simp <;> omega, rfl⟩
theorem rletter_any (c : UInt8) (w : World) : Calls Tryd.prog 57 #[.int .u8 (c.toNat : Int)] w fun e w' => e = .returned (.bool (isLet c)) ∧ w' = w := by
  have hc := c.toNat_lt
  rcases (show (c.toNat : Int) < 65 ∨ (65 ≤ (c.toNat : Int) ∧ (c.toNat : Int) ≤ 90) ∨ (90 < (c.toNat : Int) ∧ (c.toNat : Int) < 95) ∨ (c.toNat : Int) = 95 ∨ (c.toNat : Int) = 96 ∨ (97 ≤ (c.toNat : Int) ∧ (c.toNat : Int) ≤ 122) ∨ 122 < (c.toNat : Int) from by omega) with h | h | h | h | h | h | h
  · have HM : Hid (isLet c = false) := by
      show isLet c = _
      unfold isLet
      simp
      omega
    rw [HM.out]
    go_enter Tryd.func57, Tryd.ntmps57
    go_wp2_with fail
    go_ret
    first | exact ⟨rfl, rfl⟩ | exact ⟨by simp <;> omega, rfl⟩
  · have HM : Hid (isLet c = true) := by
      show isLet c = _
      unfold isLet
      simp
      omega
    rw [HM.out]
    go_enter Tryd.func57, Tryd.ntmps57
    go_wp2_with fail
    go_ret
    first | exact ⟨rfl, rfl⟩ | exact ⟨by simp <;> omega, rfl⟩
  · have HM : Hid (isLet c = false) := by
      show isLet c = _
      unfold isLet
      simp
      omega
    rw [HM.out]
    go_enter Tryd.func57, Tryd.ntmps57
    go_wp2_with fail
    go_ret
    first | exact ⟨rfl, rfl⟩ | exact ⟨by simp <;> omega, rfl⟩
  · have HM : Hid (isLet c = true) := by
      show isLet c = _
      unfold isLet
      simp
      omega
    rw [HM.out]
    go_enter Tryd.func57, Tryd.ntmps57
    go_wp2_with fail
    go_ret
    first | exact ⟨rfl, rfl⟩ | exact ⟨by simp <;> omega, rfl⟩
  · have HM : Hid (isLet c = false) := by
      show isLet c = _
      unfold isLet
      simp
      omega
    rw [HM.out]
    go_enter Tryd.func57, Tryd.ntmps57
    go_wp2_with fail
    go_ret
    first | exact ⟨rfl, rfl⟩ | exact ⟨by simp <;> omega, rfl⟩
  · have HM : Hid (isLet c = true) := by
      show isLet c = _
      unfold isLet
      simp
      omega
    rw [HM.out]
    go_enter Tryd.func57, Tryd.ntmps57
    go_wp2_with fail
    go_ret
    first | exact ⟨rfl, rfl⟩ | exact ⟨by simp <;> omega, rfl⟩
  · have HM : Hid (isLet c = false) := by
      show isLet c = _
      unfold isLet
      simp
      omega
    rw [HM.out]
    go_enter Tryd.func57, Tryd.ntmps57
    go_wp2_with fail
    go_ret
    first | exact ⟨rfl, rfl⟩ | exact ⟨by simp <;> omega, rfl⟩

/-- The byte so far ahead. -/
def nxB (s : ByteArray) (i : Nat) (n : Int) : UInt8 := (fromS s (i + n.toNat)).headD 0
theorem next_any {w : World} {b m i : Nat} {s : ByteArray} (h : LX w b m s i) (hs : s.size ≤ 4000) (hi : i ≤ s.size) (n : Int) (h0 : 0 ≤ n) (h1 : n ≤ 1) :
    Calls Tryd.prog 77 #[.pointer (some ⟨b, 0, none⟩), .int .i64 n] w fun e w' => e = .returned (.int .u8 ((nxB s i n).toNat : Int)) ∧ Below w.heap.size w w' := by
  have c0 := h.c0
  have c1 := h.c1
  have hb := h.lt
  have q1 := IntWalk.i64_in ((i : Int) + n) (by omega)
  clear h
  by_cases hlt : i + n.toNat < s.size
  · have HN : Hid (nxB s i n = s[i + n.toNat]) := by show nxB s i n = _; unfold nxB; rw [from_lt hlt]; rfl
    have q2 : decide ((i : Int) + n < (s.size : Int)) = true := by simp; omega
    obtain ⟨k, hk⟩ : ∃ k : Nat, i + n.toNat = k := ⟨_, rfl⟩
    have q3 : (i : Int) + n = (k : Int) := by omega
    simp only [hk] at HN hlt
    rw [HN.out]
    clear HN
    go_enter Tryd.func77, Tryd.ntmps77
    go_wp2_with fail
    go_quiet (fail)
    go_wp2_with fail
    go_quiet (fail)
    go_wp2_with fail
    go_ret
    exact ⟨rfl, drN (below_drewN _) _⟩
  · have HN : Hid (nxB s i n = 0) := by show nxB s i n = _; unfold nxB; rw [from_ge (by omega)]; rfl
    have q2 : decide ((i : Int) + n < (s.size : Int)) = false := by simp; omega
    rw [HN.out]
    clear HN
    go_enter Tryd.func77, Tryd.ntmps77
    go_wp2_with fail
    go_quiet (fail)
    go_wp2_with fail
    go_ret
    exact ⟨rfl, below_drewN _⟩
end Go.Proofs.YtnpgjlhnlakgpaaDoor

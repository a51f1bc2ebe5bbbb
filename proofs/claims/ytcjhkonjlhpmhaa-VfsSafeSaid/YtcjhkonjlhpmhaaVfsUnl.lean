/- The contract of unlike: in how many places a text differs from a longer one. -/
import Derived.Test.YtcjhkonjlhpmhaaVfsFx
namespace Go.Proofs.Ytcjhkonjlhpmhaa
open Go.RowKit Go.Maps

theorem unl_le (a b : List UInt8) : ∀ k, unl a b k ≤ k
  | 0 => Nat.le_refl _
  | k + 1 => by
    unfold unl
    have := unl_le a b k
    split <;> omega
theorem unl_eq {a b : List UInt8} {k : Nat} (h : a.getD k 0 = b.getD k 0) : unl a b (k + 1) = unl a b k := by
  show unl a b k + _ = _; rw [if_pos h]; rfl
theorem unl_ne {a b : List UInt8} {k : Nat} (h : ¬ a.getD k 0 = b.getD k 0) : unl a b (k + 1) = unl a b k + 1 := by
  show unl a b k + _ = _; rw [if_neg h]

set_option maxHeartbeats 2000000 in
theorem unlike_any (a b : ByteArray) (hab : b.size ≤ a.size) (ha : a.size ≤ 4194304) (w : World) :
    Calls Try.prog 22 #[.string a, .string b] w fun e w' => e = .returned (.int .i64 (unl a.data.toList b.data.toList b.size : Int)) ∧ Below w.heap.size w w' := by
  go_enter Try.func22, Try.ntmps22
  go_wp2_with fail
  go_loopw [5, 6] (fun nv iv wr => ∃ i : Nat, i ≤ b.size ∧ iv = .int .i64 (i : Int) ∧ nv = .int .i64 (unl a.data.toList b.data.toList i : Int) ∧ Below w.heap.size w wr) (fun _ iv _ => b.size - (intOf iv).toNat)
  case atStart => exact ⟨0, Nat.zero_le _, rfl, rfl, Below.refl _ _⟩
  case round =>
    obtain ⟨i, hi, rfl, rfl, hbw⟩ := hrel
    have HBW := Lib.hid hbw
    clear hbw
    have hle := unl_le a.data.toList b.data.toList i
    by_cases hlt : i < b.size
    · have hia : i < a.size := by omega
      have ea : a.data.toList.getD i 0 = a[i] := by
        rw [List.getD_eq_getElem?_getD, List.getElem?_eq_getElem (by simpa using hia)]; simp; rfl
      have eb : b.data.toList.getD i 0 = b[i] := by
        rw [List.getD_eq_getElem?_getD, List.getElem?_eq_getElem (by simpa using hlt)]; simp; rfl
      by_cases heq : a.data.toList.getD i 0 = b.data.toList.getD i 0
      · have HN := Lib.hid (unl_eq heq)
        have hx : Hid (((a[i].toNat : Int) != (b[i].toNat : Int)) = false) := by
          rw [ea, eb] at heq; rw [heq]; show _ = _; simp
        generalize unl a.data.toList b.data.toList i = n at *
        clear heq ea eb
        go_wp2_with fail
        go_quiet (fail)
        simp only [hx.out]
        go_wp2_with fail
        go_roundw
        case rel => exact ⟨i + 1, by omega, by go_num, by rw [HN.out], HBW.out.trans ⟨rfl, rfl, rfl, Nat.le_refl _, fun _ _ => rfl⟩⟩
        case measure => simp [intOf]; omega
      · have HN := Lib.hid (unl_ne heq)
        have hx : Hid (((a[i].toNat : Int) != (b[i].toNat : Int)) = true) := by
          rw [ea, eb] at heq; show _ = _
          simp only [bne_iff_ne, ne_eq]
          intro e
          exact heq (UInt8.toNat_inj.1 (by omega))
        generalize unl a.data.toList b.data.toList i = n at *
        clear heq ea eb
        go_wp2_with fail
        go_quiet (fail)
        simp only [hx.out]
        go_wp2_with fail
        go_roundw
        case rel => exact ⟨i + 1, by omega, by go_num, by rw [HN.out]; go_num, HBW.out.trans ⟨rfl, rfl, rfl, Nat.le_refl _, fun _ _ => rfl⟩⟩
        case measure => simp [intOf]; omega
    · obtain rfl : i = b.size := by omega
      go_wp2_with fail
      go_ret
      exact ⟨rfl, HBW.out⟩
end Go.Proofs.Ytcjhkonjlhpmhaa

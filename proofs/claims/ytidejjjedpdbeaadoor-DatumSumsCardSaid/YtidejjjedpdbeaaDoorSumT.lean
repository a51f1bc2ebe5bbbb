/- Plain laws of sums, products and quotients. -/
import Derived.Test.YtidejjjedpdbeaaDoorNumT
namespace Go.Proofs.YtidejjjedpdbeaaDoor
open Go.RowKit

theorem arI_comm (op a b one : Int) (h : op = 3 ∨ op = 5) : arI op a b one = arI op b a one := by
  rcases h with rfl | rfl
  · show (wrap64 (a + b), room (a + b)) = (wrap64 (b + a), room (b + a)); rw [Int.add_comm]
  · show quo (a * b) one = quo (b * a) one; rw [Int.mul_comm]
theorem arith_comm (k op a b one : Int) (h : op = 3 ∨ op = 5) : arith k op a b one = arith k op b a one := by unfold arith; rw [arI_comm op a b one h]
theorem numR_comm (op : Int) (d d' : Dt) (h : op = 3 ∨ op = 5) : numR op d d' = numR op d' d := by
  unfold numR
  by_cases hk : d.k = 3 ∨ d'.k = 3
  · rw [if_pos hk, if_pos hk.symm]
    by_cases ho : (asDecR d).2 = true ∧ (asDecR d').2 = true
    · rw [if_pos ho, if_pos ⟨ho.2, ho.1⟩, arith_comm 3 op _ _ _ h]
    · rw [if_neg ho, if_neg (fun x => ho ⟨x.2, x.1⟩)]
  · rw [if_neg hk, if_neg (fun x => hk x.symm), arith_comm 2 op _ _ _ h]
theorem numA_comm (op k i k' i' : Int) (hk : k = 2 ∨ k = 3) (hk' : k' = 2 ∨ k' = 3) (h : op = 3 ∨ op = 5) : numA [nd k i, nd k' i'] (numR op (nd k i) (nd k' i')) = numA [nd k' i', nd k i] (numR op (nd k' i') (nd k i)) := by
  rw [numA_two k i k' i' hk hk', numA_two k' i' k i hk' hk, numR_comm op _ _ h]
theorem numA_form (op k i k' i' : Int) (hk : k = 2 ∨ k = 3) (hk' : k' = 2 ∨ k' = 3) : ∃ xk xi e, numA [nd k i, nd k' i'] (numR op (nd k i) (nd k' i')) = (⟨xk, xi, ⟨#[]⟩⟩, e) ∧ (e = 0 ∨ e = 4) := by
  rw [numA_two k i k' i' hk hk']
  have hf : ∃ xk xi b, numR op (nd k i) (nd k' i') = (⟨xk, xi, ⟨#[]⟩⟩, b) := by
    unfold numR
    split
    · split
      · exact ⟨_, _, _, rfl⟩
      · exact ⟨0, 0, false, rfl⟩
    · exact ⟨_, _, _, rfl⟩
  obtain ⟨xk, xi, b, h⟩ := hf
  rw [h]
  cases b
  · exact ⟨0, 0, 4, rfl, .inr rfl⟩
  · exact ⟨xk, xi, 0, rfl, .inl rfl⟩
theorem wrap_room (z : Int) (h : room z = true) : wrap64 z = z := by have := (room_iff z).1 h; unfold wrap64; omega
/-- What the amount of a number is as a DEC. -/
theorem sc_spec (k i : Int) (hk : k = 2 ∨ k = 3) (h : (asDecR (nd k i)).2 = true) : (asDecR (nd k i)).1.i * 1 = i * unitOf k := by
  rw [asDecR_nd k i hk] at h ⊢
  rcases hk with rfl | rfl
  · rw [if_neg (show ¬((2 : Int) = 3) by decide)] at h ⊢
    by_cases hr : room (i * 10000) = true
    · rw [if_pos hr]; show i * 10000 * 1 = i * 10000; omega
    · rw [if_neg hr] at h; cases h
  · rw [if_pos rfl]; show i * 1 = i * 1; rfl
theorem sums_back (k i k' i' xk xi : Int) (hk : k = 2 ∨ k = 3) (hk' : k' = 2 ∨ k' = 3) (i0 : -9223372036854775808 ≤ i) (i1 : i < 9223372036854775808)
    (h : numA [nd k i, nd k' i'] (numR 3 (nd k i) (nd k' i')) = (⟨xk, xi, ⟨#[]⟩⟩, 0)) :
    ∃ zi, numA [nd xk xi, nd k' i'] (numR 4 (nd xk xi) (nd k' i')) = (⟨xk, zi, ⟨#[]⟩⟩, 0) ∧ cmpR 7 (nd xk zi) (nd k i) = (⟨1, 1, ⟨#[]⟩⟩, 0) ∧ (xk = 2 ∨ xk = 3) ∧
      (-9223372036854775808 ≤ xi ∧ xi < 9223372036854775808 ∧ xi ≤ 9223372036854775807) ∧ (-9223372036854775808 ≤ zi ∧ zi < 9223372036854775808 ∧ zi ≤ 9223372036854775807) := by
  rw [numA_two k i k' i' hk hk'] at h
  have hr : (numR 3 (nd k i) (nd k' i')).2 = true := by
    cases hb : (numR 3 (nd k i) (nd k' i')).2
    · rw [hb] at h; simp at h
    · rfl
  rw [hr, if_pos rfl] at h
  have h1 : (numR 3 (nd k i) (nd k' i')).1 = ⟨xk, xi, ⟨#[]⟩⟩ := congrArg Prod.fst h
  clear h
  by_cases hd : k = 3 ∨ k' = 3
  · have e1 : numR 3 (nd k i) (nd k' i') = if (asDecR (nd k i)).2 = true ∧ (asDecR (nd k' i')).2 = true then arith 3 3 (asDecR (nd k i)).1.i (asDecR (nd k' i')).1.i 10000 else (Dt.zero, false) := if_pos hd
    rw [e1] at hr h1
    clear e1
    by_cases ho : (asDecR (nd k i)).2 = true ∧ (asDecR (nd k' i')).2 = true
    · rw [if_pos ho] at hr h1
      obtain ⟨bd1, bd2⟩ := asDecR_bd (nd k i) i0 i1
      have hsc := sc_spec k i hk ho.1
      generalize (asDecR (nd k i)).1.i = s1 at *
      have hr' : room (s1 + (asDecR (nd k' i')).1.i) = true := hr
      have hx : (⟨3, wrap64 (s1 + (asDecR (nd k' i')).1.i), ⟨#[]⟩⟩ : Dt) = ⟨xk, xi, ⟨#[]⟩⟩ := h1
      rw [wrap_room _ hr'] at hx
      obtain ⟨rfl, rfl⟩ : 3 = xk ∧ s1 + (asDecR (nd k' i')).1.i = xi := ⟨congrArg Dt.k hx, congrArg Dt.i hx⟩
      have hrr := (room_iff _).1 hr'
      refine ⟨s1, ?_, ?_, .inr rfl, ⟨hrr.1, hrr.2, by omega⟩, bd1, bd2, by omega⟩
      · rw [numA_two 3 _ k' i' (.inr rfl) hk']
        have e2 : numR 4 (nd 3 (s1 + (asDecR (nd k' i')).1.i)) (nd k' i') = if (asDecR (nd 3 (s1 + (asDecR (nd k' i')).1.i))).2 = true ∧ (asDecR (nd k' i')).2 = true then arith 3 4 (asDecR (nd 3 (s1 + (asDecR (nd k' i')).1.i))).1.i (asDecR (nd k' i')).1.i 10000 else (Dt.zero, false) := if_pos (.inl rfl)
        have e3 : asDecR (nd 3 (s1 + (asDecR (nd k' i')).1.i)) = (nd 3 (s1 + (asDecR (nd k' i')).1.i), true) := by rw [asDecR_nd 3 _ (.inr rfl), if_pos rfl]
        rw [e2, e3, if_pos (show (nd 3 (s1 + (asDecR (nd k' i')).1.i), true).2 = true ∧ (asDecR (nd k' i')).2 = true from ⟨rfl, ho.2⟩)]
        show (if room (s1 + (asDecR (nd k' i')).1.i - (asDecR (nd k' i')).1.i) = true then ((⟨3, wrap64 (s1 + (asDecR (nd k' i')).1.i - (asDecR (nd k' i')).1.i), ⟨#[]⟩⟩ : Dt), (0 : Int)) else (Dt.zero, 4)) = _
        rw [show s1 + (asDecR (nd k' i')).1.i - (asDecR (nd k' i')).1.i = s1 by omega, if_pos ((room_iff s1).2 ⟨bd1, bd2⟩), wrap_room s1 ((room_iff s1).2 ⟨bd1, bd2⟩)]
      · rw [cmpR_two 7 3 s1 k i (.inr rfl) hk, cmpOp7, show decide (s1 * unitOf 3 = i * unitOf k) = true by rw [decide_eq_true_eq]; exact hsc]; rfl
    · rw [if_neg ho] at hr; cases hr
  · have h2 : k = 2 := by rcases hk with h | h; exact h; exact absurd (.inl h) hd
    have h2' : k' = 2 := by rcases hk' with h | h; exact h; exact absurd (.inr h) hd
    subst h2 h2'
    have hr' : room (i + i') = true := hr
    have hx : (⟨2, wrap64 (i + i'), ⟨#[]⟩⟩ : Dt) = ⟨xk, xi, ⟨#[]⟩⟩ := h1
    rw [wrap_room _ hr'] at hx
    obtain ⟨rfl, rfl⟩ : 2 = xk ∧ i + i' = xi := ⟨congrArg Dt.k hx, congrArg Dt.i hx⟩
    have hrr := (room_iff _).1 hr'
    refine ⟨i, ?_, ?_, .inl rfl, ⟨hrr.1, hrr.2, by omega⟩, i0, i1, by omega⟩
    · rw [numA_two 2 _ 2 i' (.inl rfl) (.inl rfl)]
      show (if room (i + i' - i') = true then ((⟨2, wrap64 (i + i' - i'), ⟨#[]⟩⟩ : Dt), (0 : Int)) else (Dt.zero, 4)) = _
      rw [show i + i' - i' = i by omega, if_pos ((room_iff i).2 ⟨i0, i1⟩), wrap_room i ((room_iff i).2 ⟨i0, i1⟩)]
    · rw [cmpR_two 7 2 i 2 i (.inl rfl) (.inl rfl), cmpOp7, show decide (i * unitOf 2 = i * unitOf 2) = true by simp]; rfl
/-- A quotient of two INTs. -/
theorem div_ints (a b : Int) : numA [nd 2 a, nd 2 b] (numR 6 (nd 2 a) (nd 2 b)) = if b ≠ 0 ∧ room (a.tdiv b) = true then (⟨2, a.tdiv b, ⟨#[]⟩⟩, 0) else (⟨0, 0, ⟨#[]⟩⟩, 4) := by
  rw [numA_two 2 a 2 b (.inl rfl) (.inl rfl)]
  show (if (quo (a * 1) b).2 = true then ((⟨2, (quo (a * 1) b).1, ⟨#[]⟩⟩ : Dt), (0 : Int)) else (Dt.zero, 4)) = _
  rw [Int.mul_one]
  unfold quo
  by_cases h : b ≠ 0 ∧ room (a.tdiv b) = true
  · rw [if_pos h, if_pos h]; rfl
  · rw [if_neg h, if_neg h]; rfl
theorem tdiv_parts (a b : Int) (hb : b ≠ 0) : a = a.tdiv b * b + a.tmod b ∧ (a.tmod b).natAbs < b.natAbs ∧ (a.tmod b < 0 → a < 0) ∧ (0 < a.tmod b → 0 < a) ∧ (a.tmod b).natAbs ≤ a.natAbs := by
  refine ⟨?_, ?_, ?_, ?_, ?_⟩
  · have := Int.mul_tdiv_add_tmod a b; rw [Int.mul_comm] at this; omega
  · rw [Int.natAbs_tmod]; exact Nat.mod_lt _ (by omega)
  · intro h
    by_cases ha : 0 ≤ a
    · have := Int.tmod_nonneg b ha; omega
    · omega
  · intro h
    by_cases ha : a ≤ 0
    · have h2 := Int.tmod_nonneg b (show 0 ≤ -a by omega)
      rw [Int.neg_tmod] at h2; omega
    · omega
  · rw [Int.natAbs_tmod]; exact Nat.mod_le _ _
theorem div_none (a b : Int) (h0 : -9223372036854775808 ≤ a) (h1 : a < 9223372036854775808) (hb : b ≠ 0) (h : ¬room (a.tdiv b) = true) : b = -1 ∧ a = -9223372036854775808 := by
  have hq : (a.tdiv b).natAbs = a.natAbs / b.natAbs := Int.natAbs_tdiv a b
  have hle : a.natAbs / b.natAbs ≤ a.natAbs := Nat.div_le_self _ _
  rw [room_iff] at h
  by_cases hb1 : b.natAbs = 1
  · rw [hb1, Nat.div_one] at hq
    rcases (by omega : b = 1 ∨ b = -1) with rfl | rfl
    · rw [Int.tdiv_one] at h; omega
    · rw [Int.tdiv_neg, Int.tdiv_one] at h; omega
  · have : a.natAbs / b.natAbs ≤ a.natAbs / 2 := Nat.div_le_div_left (by omega) (by omega)
    omega
end Go.Proofs.YtidejjjedpdbeaaDoor

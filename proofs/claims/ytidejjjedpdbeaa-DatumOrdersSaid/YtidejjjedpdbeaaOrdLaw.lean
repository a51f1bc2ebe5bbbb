/- The plain law behind DatumOrders: the comparison of two values is a total order. -/
import Derived.Test.YtidejjjedpdbeaaDatCmp
import Derived.Test.YtidejjjedpdbeaaDatEq
namespace Go.Proofs.Ytidejjjedpdbeaa
open Go.RowKit

theorem cb_refl : ∀ a : List UInt8, Lib.compareBytes a a = 0
  | [] => by simp [Lib.compareBytes]
  | x :: r => by simp [Lib.compareBytes, cb_refl r]
theorem cb_bd : ∀ a b : List UInt8, -1 ≤ Lib.compareBytes a b ∧ Lib.compareBytes a b ≤ 1
  | [], [] => by simp [Lib.compareBytes]
  | [], _ :: _ => by simp [Lib.compareBytes]
  | _ :: _, [] => by simp [Lib.compareBytes]
  | x :: r, y :: s => by
    have := cb_bd r s
    unfold Lib.compareBytes
    split
    · omega
    · split
      · omega
      · exact this
theorem cb_zero : ∀ a b : List UInt8, Lib.compareBytes a b = 0 → a = b
  | [], [] => by simp
  | [], _ :: _ => by simp [Lib.compareBytes]
  | _ :: _, [] => by simp [Lib.compareBytes]
  | x :: r, y :: s => by
    have := cb_zero r s
    unfold Lib.compareBytes
    split
    · intro h; omega
    · split
      · intro h; omega
      · intro h
        have hxy : x = y := by
          rename_i h1 h2
          exact UInt8.le_antisymm (UInt8.not_lt.1 h2) (UInt8.not_lt.1 h1)
        rw [this h, hxy]
theorem cb_turn : ∀ a b : List UInt8, Lib.compareBytes a b = - Lib.compareBytes b a
  | [], [] => by simp [Lib.compareBytes]
  | [], _ :: _ => by simp [Lib.compareBytes]
  | _ :: _, [] => by simp [Lib.compareBytes]
  | x :: r, y :: s => by
    have := cb_turn r s
    unfold Lib.compareBytes
    by_cases h1 : x < y
    · have h2 : ¬ y < x := UInt8.lt_asymm h1
      simp [h1, h2]
    · by_cases h2 : y < x
      · simp [h1, h2]
      · simp [h1, h2, this]
theorem cb_trans : ∀ a b c : List UInt8, Lib.compareBytes a b ≤ 0 → Lib.compareBytes b c ≤ 0 → Lib.compareBytes a c ≤ 0 ∧ (Lib.compareBytes a c = 0 → Lib.compareBytes a b = 0 ∧ Lib.compareBytes b c = 0)
  | [], [], [] => by simp [Lib.compareBytes]
  | [], [], _ :: _ => by simp [Lib.compareBytes]
  | [], _ :: _, [] => by simp [Lib.compareBytes]
  | [], _ :: _, _ :: _ => by simp [Lib.compareBytes]
  | _ :: _, [], _ => by simp [Lib.compareBytes]
  | _ :: _, _ :: _, [] => by simp [Lib.compareBytes]
  | x :: r, y :: s, z :: t => by
    have ih := cb_trans r s t
    simp only [Lib.compareBytes, UInt8.lt_iff_toNat_lt]
    by_cases h1 : x.toNat < y.toNat <;> by_cases h2 : y.toNat < x.toNat <;> by_cases h3 : y.toNat < z.toNat <;> by_cases h4 : z.toNat < y.toNat <;> by_cases h5 : x.toNat < z.toNat <;> by_cases h6 : z.toNat < x.toNat <;>
      first
        | (exfalso; omega)
        | (simp only [h1, h2, h3, h4, h5, h6, if_true, if_false]; omega)

theorem or3 (a b c : Int) : orL [a, b, c] = if a = 0 then (if b = 0 then c else b) else a := by
  simp only [orL]
  by_cases h : c = 0
  · simp [h]
  · simp [h]

theorem dco_eq (ak ai bk bi : Int) (sa sb : ByteArray) : dco ak ai sa bk bi sb = if ak < bk then -1 else if bk < ak then 1 else if ai < bi then -1 else if bi < ai then 1 else Lib.compareBytes sa.data.toList sb.data.toList := by
  unfold dco cmpI cmpS
  rw [or3]
  by_cases h1 : ak < bk
  · simp [h1]
  · by_cases h2 : bk < ak
    · simp [h1, h2]
    · by_cases h3 : ai < bi
      · simp [h1, h2, h3]
      · by_cases h4 : bi < ai
        · simp [h1, h2, h3, h4]
        · simp [h1, h2, h3, h4]

theorem ba_ext {a b : ByteArray} (h : a.data.toList = b.data.toList) : a = b := by
  cases a; cases b; congr 1; exact Array.toList_inj.1 h

theorem dco_bd (ak ai bk bi : Int) (sa sb : ByteArray) : -1 ≤ dco ak ai sa bk bi sb ∧ dco ak ai sa bk bi sb ≤ 1 := by
  have := cb_bd sa.data.toList sb.data.toList
  rw [dco_eq]
  repeat' split
  all_goals omega
theorem dco_zero (ak ai bk bi : Int) (sa sb : ByteArray) : dco ak ai sa bk bi sb = 0 ↔ (ak = bk ∧ ai = bi ∧ sa = sb) := by
  have h0 := cb_zero sa.data.toList sb.data.toList
  rw [dco_eq]
  constructor
  · intro h
    by_cases h1 : ak < bk
    · rw [if_pos h1] at h; omega
    rw [if_neg h1] at h
    by_cases h2 : bk < ak
    · rw [if_pos h2] at h; omega
    rw [if_neg h2] at h
    by_cases h3 : ai < bi
    · rw [if_pos h3] at h; omega
    rw [if_neg h3] at h
    by_cases h4 : bi < ai
    · rw [if_pos h4] at h; omega
    rw [if_neg h4] at h
    exact ⟨by omega, by omega, ba_ext (h0 h)⟩
  · rintro ⟨rfl, rfl, rfl⟩
    simp [cb_refl]
theorem dco_turn (ak ai bk bi : Int) (sa sb : ByteArray) : dco bk bi sb ak ai sa = - dco ak ai sa bk bi sb := by
  have h0 := cb_turn sb.data.toList sa.data.toList
  rw [dco_eq, dco_eq]
  by_cases h1 : ak < bk <;> by_cases h2 : bk < ak <;> by_cases h3 : ai < bi <;> by_cases h4 : bi < ai <;> first | (exfalso; omega) | (simp only [h1, h2, h3, h4, if_true, if_false] <;> omega)
theorem dco_thr (ak ai bk bi ck ci : Int) (sa sb sc : ByteArray) (h1 : dco ak ai sa bk bi sb ≤ 0) (h2 : dco bk bi sb ck ci sc ≤ 0) : dco ak ai sa ck ci sc ≤ 0 := by
  have h0 := cb_trans sa.data.toList sb.data.toList sc.data.toList
  rw [dco_eq] at h1 h2 ⊢
  by_cases a1 : ak < bk <;> by_cases a2 : bk < ak <;> by_cases a3 : ai < bi <;> by_cases a4 : bi < ai <;> first | (exfalso; omega) | skip
  all_goals simp only [a1, a2, a3, a4, if_true, if_false] at h1
  all_goals first | (exfalso; omega) | skip
  all_goals by_cases b1 : bk < ck <;> by_cases b2 : ck < bk <;> by_cases b3 : bi < ci <;> by_cases b4 : ci < bi <;> first | (exfalso; omega) | skip
  all_goals simp only [b1, b2, b3, b4, if_true, if_false] at h2
  all_goals first | (exfalso; omega) | skip
  all_goals repeat' split
  all_goals first | omega | (exact (h0 h1 h2).1)

/-- What the law tests, of the three comparisons. -/
theorem ord_facts (ak ai bk bi ck ci : Int) (sa sb sc : ByteArray) :
    (-1 ≤ dco ak ai sa bk bi sb ∧ dco ak ai sa bk bi sb ≤ 1) ∧ (0 < dco ak ai sa bk bi sb ∨ 0 < dco bk bi sb ck ci sc ∨ dco ak ai sa ck ci sc ≤ 0) ∧
    (dco ak ai sa bk bi sb < 0 ∨ dco bk bi sb ck ci sc < 0 ∨ 0 ≤ dco ak ai sa ck ci sc) ∧ (dco ak ai sa bk bi sb = 0 → dco bk bi sb ck ci sc = dco ak ai sa ck ci sc) := by
  refine ⟨dco_bd .., ?_, ?_, ?_⟩
  · by_cases h1 : 0 < dco ak ai sa bk bi sb
    · exact Or.inl h1
    · by_cases h2 : 0 < dco bk bi sb ck ci sc
      · exact Or.inr (Or.inl h2)
      · exact Or.inr (Or.inr (dco_thr ak ai bk bi ck ci sa sb sc (by omega) (by omega)))
  · by_cases h1 : dco ak ai sa bk bi sb < 0
    · exact Or.inl h1
    · by_cases h2 : dco bk bi sb ck ci sc < 0
      · exact Or.inr (Or.inl h2)
      · have t1 := dco_turn ak ai bk bi sa sb
        have t2 := dco_turn bk bi ck ci sb sc
        have t3 := dco_turn ak ai ck ci sa sc
        have := dco_thr ck ci bk bi ak ai sc sb sa (by omega) (by omega)
        exact Or.inr (Or.inr (by omega))
  · intro h
    obtain ⟨rfl, rfl, rfl⟩ := (dco_zero ..).1 h
    rfl
end Go.Proofs.Ytidejjjedpdbeaa

/- Plain laws of numbers: what Apply answers at INT and DEC. -/
import Derived.Test.YtidejjjedpdbeaaDoorLawKit
import Derived.Test.YtidejjjedpdbeaaDoorAppAdd
import Derived.Test.YtidejjjedpdbeaaDoorAppSub
import Derived.Test.YtidejjjedpdbeaaDoorAppMul
import Derived.Test.YtidejjjedpdbeaaDoorAppDiv
namespace Go.Proofs.YtidejjjedpdbeaaDoor
open Go.RowKit

/-- A number: kind 2 is INT, kind 3 DEC. -/
def nd (k i : Int) : Dt := ⟨k, i, ⟨#[]⟩⟩
theorem right_nd (k i : Int) (hk : k = 2 ∨ k = 3) : rightD (nd k i) = true := by
  rcases hk with rfl | rfl <;> simp [rightD, rightN, nd] <;> rfl
theorem isOf_nd (k i : Int) (hk : k = 2 ∨ k = 3) : isOf [2, 3] (nd k i) = true := by
  rcases hk with rfl | rfl <;> rfl
theorem numA_one (k i : Int) (hk : k = 2 ∨ k = 3) (r : Dt × Bool) : numA [nd k i] r = if r.2 then (r.1, 0) else (Dt.zero, 4) := by
  rcases hk with rfl | rfl <;> rfl
theorem numA_two (k i k' i' : Int) (hk : k = 2 ∨ k = 3) (hk' : k' = 2 ∨ k' = 3) (r : Dt × Bool) : numA [nd k i, nd k' i'] r = if r.2 then (r.1, 0) else (Dt.zero, 4) := by
  rcases hk with rfl | rfl <;> rcases hk' with rfl | rfl <;> rfl
theorem room_iff (z : Int) : room z = true ↔ (-9223372036854775808 ≤ z ∧ z < 9223372036854775808) := by unfold room; simp only [Bool.and_eq_true, decide_eq_true_eq]
theorem cmpR_two (op k i k' i' : Int) (hk : k = 2 ∨ k = 3) (hk' : k' = 2 ∨ k' = 3) : cmpR op (nd k i) (nd k' i') = (truthD (cmpOp op (cmpI (i * unitOf k) (i' * unitOf k'))), 0) := by
  have hs : cmpS ⟨#[]⟩ ⟨#[]⟩ = 0 := rfl
  have hI : ∀ a b : Int, cmpI (a * 1) (b * 1) = cmpI a b := fun a b => by rw [Int.mul_one, Int.mul_one]
  have hM : ∀ a b : Int, cmpI (a * 10000) (b * 10000) = cmpI a b := fun a b => by unfold cmpI; split <;> split <;> first | rfl | omega | (split <;> first | rfl | omega)
  have hd : ∀ (k a b : Int), dco k a ⟨#[]⟩ k b ⟨#[]⟩ = cmpI a b := fun k a b => by
    have h0 : cmpI k k = 0 := by unfold cmpI; rw [if_neg (by omega), if_neg (by omega)]
    unfold dco
    simp only [orL, h0, hs, if_true]
    split <;> rename_i h
    · exact h.symm
    · rfl
  have key : cmpR op (nd k i) (nd k' i') = (truthD (cmpOp op (ordN k i ⟨#[]⟩ k' i' ⟨#[]⟩)), 0) := by
    rcases hk with rfl | rfl <;> rcases hk' with rfl | rfl <;> rfl
  rw [key]
  unfold ordN
  split
  · rename_i h
    subst h
    rw [hd]
    unfold unitOf
    rcases hk with rfl | rfl
    · rw [if_pos rfl, hM]
    · rw [if_neg (by omega), hI]
  · rfl
theorem cmpOp7 (a b : Int) : cmpOp 7 (cmpI a b) = decide (a = b) := by
  unfold cmpOp cmpI; rw [if_pos rfl]
  split
  · rw [show decide (a = b) = false by rw [decide_eq_false_iff_not]; omega]; rfl
  · split
    · rw [show decide (a = b) = false by rw [decide_eq_false_iff_not]; omega]; rfl
    · rw [show decide (a = b) = true by rw [decide_eq_true_eq]; omega]; rfl
theorem cmpOp9 (a b : Int) : cmpOp 9 (cmpI a b) = decide (a < b) := by
  unfold cmpOp cmpI; rw [if_neg (by decide), if_neg (by decide), if_pos rfl]
  split
  · rw [show decide (a < b) = true by rw [decide_eq_true_eq]; omega]; rfl
  · split
    · rw [show decide (a < b) = false by rw [decide_eq_false_iff_not]; omega]; rfl
    · rw [show decide (a < b) = false by rw [decide_eq_false_iff_not]; omega]; rfl
theorem cmpOp11 (a b : Int) : cmpOp 11 (cmpI a b) = decide (b < a) := by
  unfold cmpOp cmpI; rw [if_neg (by decide), if_neg (by decide), if_neg (by decide), if_neg (by decide), if_pos rfl]
  split
  · rw [show decide (b < a) = false by rw [decide_eq_false_iff_not]; omega]; rfl
  · split
    · rw [show decide (b < a) = true by rw [decide_eq_true_eq]; omega]; rfl
    · rw [show decide (b < a) = false by rw [decide_eq_false_iff_not]; omega]; rfl
theorem asDecR_nd (k i : Int) (hk : k = 2 ∨ k = 3) : asDecR (nd k i) = if k = 3 then (nd 3 i, true) else if room (i * 10000) then (nd 3 (i * 10000), true) else (nd 3 0, false) := by
  have h23 : ¬((2 : Int) = 3) := by decide
  rcases hk with rfl | rfl
  · show (if (2 : Int) = 3 then (nd 2 i, true) else ((⟨3, (decI i).1, ⟨#[]⟩⟩ : Dt), (decI i).2)) = _
    rw [if_neg h23, if_neg h23]
    unfold decI
    split <;> rfl
  · rfl
/-- The DEC of a number. -/
theorem asDec_room (i : Int) (h : room (i * 10000) = true) : asDecR (nd 2 i) = (nd 3 (i * 10000), true) := by
  rw [asDecR_nd 2 i (.inl rfl), if_neg (show ¬((2 : Int) = 3) by decide), if_pos h]
theorem asDec_none (i : Int) (h : room (i * 10000) = false) : asDecR (nd 2 i) = (nd 3 0, false) := by
  rw [asDecR_nd 2 i (.inl rfl), if_neg (show ¬((2 : Int) = 3) by decide), if_neg (show ¬(room (i * 10000) = true) by rw [h]; simp)]
theorem dec_room (i : Int) (h : room (i * 10000) = true) : numA [nd 2 i] (asDecR (nd 2 i)) = (nd 3 (i * 10000), 0) := by
  rw [numA_one 2 i (.inl rfl), asDec_room i h]; rfl
theorem dec_none (i : Int) (h : room (i * 10000) = false) : numA [nd 2 i] (asDecR (nd 2 i)) = (Dt.zero, 4) := by
  rw [numA_one 2 i (.inl rfl), asDec_none i h]; rfl
theorem dec_dec (i : Int) : numA [nd 3 i] (asDecR (nd 3 i)) = (nd 3 i, 0) := by
  rw [numA_one 3 i (.inr rfl), asDecR_nd 3 i (.inr rfl), if_pos rfl]; rfl
end Go.Proofs.YtidejjjedpdbeaaDoor

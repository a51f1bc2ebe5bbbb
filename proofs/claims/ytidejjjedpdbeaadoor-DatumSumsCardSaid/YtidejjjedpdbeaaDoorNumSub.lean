/- Contract of datum.number at two values, operator 4. -/
import Derived.Test.YtidejjjedpdbeaaDoorQuo
import Derived.Test.YtidejjjedpdbeaaDoorNumNeg
namespace Go.Proofs.YtidejjjedpdbeaaDoor
open Go.RowKit

set_option maxHeartbeats 2000000 in
theorem number4_int (d d' : Dt) (b o cap : Nat) (w : World) (hbk : b < w.heap.size) (hc : DCells w b o [d, d']) (hk : d.k ≠ 3) (hk' : d'.k ≠ 3)
    (x0 : -9223372036854775808 ≤ d.i) (x1 : d.i < 9223372036854775808) (y0 : -9223372036854775808 ≤ d'.i) (y1 : d'.i < 9223372036854775808) :
    Calls Tryd.prog 29 #[.int .i64 4, .slice (some ⟨b, o, none⟩) 2 cap] w fun e w' => e = .returned (.tuple #[(arith 2 4 d.i d'.i 1).1.v, .bool (arith 2 4 d.i d'.i 1).2]) ∧ Below w.heap.size w w' := by
  have e0 := hc 0 (by simp)
  have e1 := hc 1 (by simp)
  have d0 : dnth [d, d'] 0 = d := rfl
  have d1 : dnth [d, d'] 1 = d' := rfl
  rw [d0] at e0
  rw [d1] at e1
  clear d0 d1
  simp only [Nat.zero_mul, Nat.one_mul, Nat.add_zero] at e0 e1
  obtain ⟨c0, c1, c2⟩ := e0
  obtain ⟨c3, c4, c5⟩ := e1
  have hne : (w.heap.size == b) = false := by simp; omega
  have hne2 : (w.heap.size + 1 == b) = false := by simp; omega
  have k1 : (d.k == 3) = false := by simpa using hk
  have k2 : (d'.k == 3) = false := by simpa using hk'
  rw [show arith 2 4 d.i d'.i 1 = (⟨2, (arI 4 d.i d'.i 1).1, ⟨#[]⟩⟩, (arI 4 d.i d'.i 1).2) from rfl]
  rw [show arI 4 d.i d'.i 1 = (wrap64 (d.i - d'.i), room (d.i - d'.i)) from rfl]
  obtain ⟨s, hs⟩ : ∃ s, s = wrap64 (d.i - d'.i) := ⟨_, rfl⟩
  have hS := hs
  have HR : Hid (room (d.i - d'.i) = ((decide (s < d.i) == decide (0 < d'.i)) || (d'.i == 0))) := by
    show room (d.i - d'.i) = _
    rw [hs]
    unfold wrap64 room
    rw [Bool.eq_iff_iff]
    simp only [Bool.and_eq_true, Bool.or_eq_true, decide_eq_true_eq, beq_iff_eq, decide_eq_decide]
    omega
  have HS := Lib.hid hs
  clear hc x0 x1 y0 y1 hs hS
  dsimp only
  go_enter Tryd.func29, Tryd.ntmps29
  go_wp2_with fail
  all_goals
    have hBB := (boxes3 w #[.int .i64 2, .int .i64 (wrap64 (d.i - d'.i)), .string ⟨#[]⟩] #[.int .i64 d.k, .int .i64 d.i, .string d.s] #[.int .i64 d'.k, .int .i64 d'.i, .string d'.s] 24 24 24).1
    cases hz : (d'.i == 0)
    all_goals have hz2 := hz
    all_goals simp only [beq_iff_eq, beq_eq_false_iff_ne, ne_eq] at hz2
    all_goals first
      | (have hrb : room (d.i - d'.i) = true := by rw [HR.out, HS.out, hz]; simp [*]
         rw [hrb]
         refine bodyPost_ret (v := .tuple #[.agg #[.int .i64 2, .int .i64 (wrap64 (d.i - d'.i)), .string ⟨#[]⟩], .bool true]) (by simp [results, Tryd.results29, go_sem, hz2] <;> assumption) rfl ⟨rfl, hBB⟩)
      | (have hrb : room (d.i - d'.i) = false := by rw [HR.out, HS.out, hz]; simp [*]
         rw [hrb]
         refine bodyPost_ret (v := .tuple #[.agg #[.int .i64 2, .int .i64 (wrap64 (d.i - d'.i)), .string ⟨#[]⟩], .bool false]) (by simp [results, Tryd.results29, go_sem] <;> assumption) rfl ⟨rfl, hBB⟩)
end Go.Proofs.YtidejjjedpdbeaaDoor

/- Contract of datum.number at - and ABS of one value. -/
import Derived.Test.YtidejjjedpdbeaaDoorNumDec
namespace Go.Proofs.YtidejjjedpdbeaaDoor
open Go.RowKit

theorem wrap_wrap (x : Int) : IntKind.i64.wrap x = wrap64 x := by rw [IntKind.wrap_i64]; unfold wrap64; omega
def negR (d : Dt) : Dt × Bool := (⟨d.k, wrap64 (-d.i), ⟨#[]⟩⟩, d.i != -9223372036854775808)
def absR (d : Dt) : Dt × Bool := if 0 ≤ d.i then (d, true) else negR d

set_option maxHeartbeats 1000000 in
theorem number_neg (op : Int) (hop : op = 1 ∨ op = 19) (d : Dt) (b o cap : Nat) (w : World) (hbk : b < w.heap.size) (hc : DCells w b o [d]) :
    Calls Tryd.prog 29 #[.int .i64 op, .slice (some ⟨b, o, none⟩) 1 cap] w fun e w' => e = .returned (.tuple #[(if op = 1 then negR d else absR d).1.v, .bool (if op = 1 then negR d else absR d).2]) ∧ Below w.heap.size w w' := by
  have hcd := hc 0 (by simp)
  simp only [Nat.zero_mul, Nat.add_zero] at hcd
  obtain ⟨c1, c2, c3⟩ := hcd
  have hcc : w.cell? ⟨b, o, none⟩ = some (.int .i64 d.k) ∧ w.cell? ⟨b, o + 1, none⟩ = some (.int .i64 d.i) ∧ w.cell? ⟨b, o + 2, none⟩ = some (.string d.s) := ⟨c1, c2, c3⟩
  obtain ⟨d1, d2, d3⟩ := hcc
  have hne : (w.heap.size == b) = false := by simp; omega
  clear hc c1 c2 c3
  have hB := (boxes2 w #[.int .i64 0, .int .i64 0, .string ⟨#[]⟩] #[.int .i64 d.k, .int .i64 d.i, .string d.s] 24 24).1
  have HB := Lib.hid hB
  clear hB
  rcases hop with rfl | rfl
  · have HR := Lib.hid (show (if (1 : Int) = 1 then negR d else absR d) = (⟨d.k, wrap64 (-d.i), ⟨#[]⟩⟩, d.i != -9223372036854775808) from rfl)
    rw [HR.out]
    clear HR
    go_enter Tryd.func29, Tryd.ntmps29
    go_wp2_with fail
    go_region_with fail
    go_wp2_with fail
    all_goals
      refine bodyPost_ret (v := .tuple #[.agg #[.int .i64 d.k, .int .i64 (wrap64 (-d.i)), .string ⟨#[]⟩], .bool (d.i != -9223372036854775808)]) (by simp [results, Tryd.results29, go_sem, wrap_wrap]) rfl ⟨rfl, ?_⟩
      repeat' (first | exact (boxes2 w _ _ _ _).1 | exact HB.out | refine Below.setCell ?_ ?_ _ | refine Below.drew ?_ | exact Nat.le_refl w.heap.size | exact Nat.le_succ w.heap.size)
  · by_cases hi : 0 ≤ d.i
    · have HR := Lib.hid (show (if (19 : Int) = 1 then negR d else absR d) = (d, true) by rw [if_neg (by decide), absR, if_pos hi])
      have hi2 : decide (0 ≤ d.i) = true := by simpa using hi
      rw [HR.out]
      clear HR
      go_enter Tryd.func29, Tryd.ntmps29
      go_wp2_with fail
      all_goals
        refine bodyPost_ret (v := .tuple #[.agg #[.int .i64 d.k, .int .i64 d.i, .string d.s], .bool true]) (by simp [results, Tryd.results29, go_sem]) rfl ⟨rfl, ?_⟩
        repeat' (first | exact (boxes2 w _ _ _ _).1 | exact HB.out | refine Below.setCell ?_ ?_ _ | refine Below.drew ?_ | exact Nat.le_refl w.heap.size | exact Nat.le_succ w.heap.size)
    · have HR := Lib.hid (show (if (19 : Int) = 1 then negR d else absR d) = (⟨d.k, wrap64 (-d.i), ⟨#[]⟩⟩, d.i != -9223372036854775808) by rw [if_neg (by decide), absR, if_neg hi]; rfl)
      have hi2 : decide (0 ≤ d.i) = false := by simpa using hi
      rw [HR.out]
      clear HR
      go_enter Tryd.func29, Tryd.ntmps29
      go_wp2_with fail
      go_region_with fail
      go_wp2_with fail
      all_goals
        refine bodyPost_ret (v := .tuple #[.agg #[.int .i64 d.k, .int .i64 (wrap64 (-d.i)), .string ⟨#[]⟩], .bool (d.i != -9223372036854775808)]) (by simp [results, Tryd.results29, go_sem, wrap_wrap]) rfl ⟨rfl, ?_⟩
        repeat' (first | exact (boxes2 w _ _ _ _).1 | exact HB.out | refine Below.setCell ?_ ?_ _ | refine Below.drew ?_ | exact Nat.le_refl w.heap.size | exact Nat.le_succ w.heap.size)
end Go.Proofs.YtidejjjedpdbeaaDoor

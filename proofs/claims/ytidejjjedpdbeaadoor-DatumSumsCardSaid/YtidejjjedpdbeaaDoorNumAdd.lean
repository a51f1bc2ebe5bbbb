/- Contract of datum.number at two values, operator 3. -/
import Derived.Test.YtidejjjedpdbeaaDoorQuo
import Derived.Test.YtidejjjedpdbeaaDoorNumNeg
namespace Go.Proofs.YtidejjjedpdbeaaDoor
open Go.RowKit

set_option maxHeartbeats 2000000 in
theorem number3_int (d d' : Dt) (b o cap : Nat) (w : World) (hbk : b < w.heap.size) (hc : DCells w b o [d, d']) (hk : d.k ≠ 3) (hk' : d'.k ≠ 3)
    (x0 : -9223372036854775808 ≤ d.i) (x1 : d.i < 9223372036854775808) (y0 : -9223372036854775808 ≤ d'.i) (y1 : d'.i < 9223372036854775808) :
    Calls Tryd.prog 29 #[.int .i64 3, .slice (some ⟨b, o, none⟩) 2 cap] w fun e w' => e = .returned (.tuple #[(arith 2 3 d.i d'.i 1).1.v, .bool (arith 2 3 d.i d'.i 1).2]) ∧ Below w.heap.size w w' := by
  have HS := Lib.hid (fun w => sum_any d.i d'.i w x0 x1 y0 y1)
  have e0 := hc 0 (by simp)
  have e1 := hc 1 (by simp)
  have d0 : dnth [d, d'] 0 = d := rfl
  have d1 : dnth [d, d'] 1 = d' := rfl
  rw [d0] at e0
  rw [d1] at e1
  clear d0 d1
  simp only [Nat.zero_mul, Nat.one_mul, Nat.add_zero] at e0 e1
  obtain ⟨c0, c1, c2⟩ := e0
  obtain ⟨c3, c4, c5⟩ := e1
  have hne : (w.heap.size == b) = false := by simp; omega
  have hne2 : (w.heap.size + 1 == b) = false := by simp; omega
  have k1 : (d.k == 3) = false := by simpa using hk
  have k2 : (d'.k == 3) = false := by simpa using hk'
  rw [show arith 2 3 d.i d'.i 1 = (⟨2, (arI 3 d.i d'.i 1).1, ⟨#[]⟩⟩, (arI 3 d.i d'.i 1).2) from rfl]
  rw [show arI 3 d.i d'.i 1 = (wrap64 (d.i + d'.i), room (d.i + d'.i)) from rfl]
  clear hc x0 x1 y0 y1
  dsimp only
  generalize wrap64 (d.i + d'.i) = ri at *
  generalize room (d.i + d'.i) = rb at *
  go_enter Tryd.func29, Tryd.ntmps29
  go_wp2_with fail
  refine (HS.out _).mono ?_
  rintro e w2 ⟨rfl, hb2⟩
  have hb3 := (((Below.refl (w.alloc (.cells #[.int .i64 0, .int .i64 0, .string ⟨#[]⟩] 24)).heap.size _).alloc (Nat.le_refl _) (.cells #[.int .i64 d.k, .int .i64 d.i, .string d.s] 24)).alloc (by simp) (.cells #[.int .i64 d'.k, .int .i64 d'.i, .string d'.s] 24)).trans (hb2.mono (by simp))
  rw [World.size_alloc] at hb3
  obtain ⟨⟨b1, b2, b3⟩, ⟨f1, f2, f3⟩, hB, hz⟩ := box_new hb3
  have HB := Lib.hid hB
  clear hb2 hb3 hB HS
  go_wp2_with fail
  refine bodyPost_ret (v := .tuple #[.agg #[.int .i64 2, .int .i64 ri, .string ⟨#[]⟩], .bool rb]) (by simp [results, Tryd.results29, go_sem, b1, b2, b3]) rfl ⟨rfl, ?_⟩
  repeat' (first | exact HB.out | refine Below.setCell ?_ ?_ _ | exact Nat.le_refl w.heap.size)
end Go.Proofs.YtidejjjedpdbeaaDoor

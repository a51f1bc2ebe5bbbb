/- Contract of datum.number at the operators of one value. -/
import Derived.Test.YtidejjjedpdbeaaDoorAsDecW
namespace Go.Proofs.YtidejjjedpdbeaaDoor
open Go.RowKit

set_option maxHeartbeats 1000000 in
theorem number_dec (d : Dt) (b o cap : Nat) (w : World) (hbk : b < w.heap.size) (hc : DCells w b o [d]) (h0 : -9223372036854775808 ≤ d.i) (h1 : d.i < 9223372036854775808) :
    Calls Tryd.prog 29 #[.int .i64 20, .slice (some ⟨b, o, none⟩) 1 cap] w fun e w' => e = .returned (.tuple #[(asDecR d).1.v, .bool (asDecR d).2]) ∧ Below w.heap.size w w' := by
  have HA := Lib.hid (fun w => asDec_any d.k d.i d.s w h0 h1)
  have hcd := hc 0 (by simp)
  simp only [Nat.zero_mul, Nat.add_zero] at hcd
  obtain ⟨c1, c2, c3⟩ := hcd
  have hcc : w.cell? ⟨b, o, none⟩ = some (.int .i64 d.k) ∧ w.cell? ⟨b, o + 1, none⟩ = some (.int .i64 d.i) ∧ w.cell? ⟨b, o + 2, none⟩ = some (.string d.s) := ⟨c1, c2, c3⟩
  obtain ⟨d1, d2, d3⟩ := hcc
  have hne : (w.heap.size == b) = false := by simp; omega
  clear h0 h1 hc c1 c2 c3
  go_enter Tryd.func29, Tryd.ntmps29
  go_wp2_with fail
  refine (HA.out _).mono ?_
  rintro e w2 ⟨rfl, hb2⟩
  have hb3 := ((Below.refl (w.alloc (.cells #[.int .i64 0, .int .i64 0, .string ⟨#[]⟩] 24)).heap.size _).alloc (Nat.le_refl _) (.cells #[.int .i64 d.k, .int .i64 d.i, .string d.s] 24)).trans (hb2.mono (by simp))
  rw [World.size_alloc] at hb3
  obtain ⟨⟨b1, b2, b3⟩, ⟨f1, f2, f3⟩, hB, hz⟩ := box_new hb3
  have HB := Lib.hid hB
  clear hb2 hb3 hB HA
  have HE : Hid ((asDecR ⟨d.k, d.i, d.s⟩) = asDecR d) := by show _ = _; cases d; rfl
  rw [HE.out]
  clear HE
  generalize hrb : (asDecR d).2 = rb
  generalize hra : (asDecR d).1 = ra
  have HRA := Lib.hid hra
  have HRB := Lib.hid hrb
  clear hra hrb
  obtain ⟨tk, ti, ts⟩ := ra
  go_wp2_with fail
  refine bodyPost_ret (v := .tuple #[.agg #[.int .i64 tk, .int .i64 ti, .string ts], .bool rb]) (by simp [results, Tryd.results29, go_sem, b1, b2, b3]) rfl ⟨by rw [HRA.out, HRB.out], ?_⟩
  repeat' (first | exact HB.out | refine Below.setCell ?_ ?_ _ | exact Nat.le_refl w.heap.size)
end Go.Proofs.YtidejjjedpdbeaaDoor

/- The document's two, at a sum. -/
import Derived.Test.YtidejjjedpdbeaaDoorG15
import Derived.Test.YtidejjjedpdbeaaDoorG11
namespace Go.Proofs.YtidejjjedpdbeaaDoor
open Go.RowKit

def In64 (a : Int) : Prop := -9223372036854775808 ≤ a ∧ a ≤ 9223372036854775807
instance (a : Int) : Decidable (In64 a) := by unfold In64; infer_instance

set_option maxRecDepth 100000 in
set_option maxHeartbeats 4000000 in
theorem two_plus (kind unit : Int) {w : World} {va vb : Value} {a b : Int} (ha : BigV w va a) (hb : BigV w vb b) (fa : Fit a) (fb : Fit b) (fab : Fit (a + b)) :
    Calls Tryd.prog 61 #[.int .i64 3, .int .i64 kind, va, vb, .int .i64 unit] w fun e w' => ∃ ok, ok = decide (In64 (a + b)) ∧ e = .returned (.tuple #[.agg #[.int .i64 (if ok then kind else 0), .int .i64 (if ok then a + b else 0), .string ⟨#[]⟩], .int .i64 (if ok then 0 else 4)]) ∧ Below w.heap.size w w' := by
  obtain ⟨pa, ca, rfl⟩ := ha.form
  obtain ⟨pb, cb, rfl⟩ := hb.form
  generalize (digs a.natAbs).length = la at *
  generalize (digs b.natAbs).length = lb at *
  generalize decide (a < 0) = ma at *
  generalize decide (b < 0) = mb at *
  obtain ⟨hB3, hz3, -, -, X3⟩ := boxes3 w #[.bool ma, .slice pa la ca] #[.bool mb, .slice pb lb cb] #[.int .i64 0, .int .i64 0, .string ⟨#[]⟩] 76 76 24
  have HP := Lib.hid (plus_v (ha.below hB3) (hb.below hB3) fa fb)
  have HB := Lib.hid hB3
  have HZ := Lib.hid hz3
  have HX := Lib.hid X3
  have hres : ∃ (ok : Bool) (r : Int), ok = decide (In64 (a + b)) ∧ r = (if ok then a + b else 0) ∧ ∀ W v, BigV W v (a + b) → Calls Tryd.prog 57 #[v] W fun e w' => e = .returned (.tuple #[.int .i64 r, .bool ok]) ∧ Below W.heap.size W w' := by
    refine ⟨decide (In64 (a + b)), if decide (In64 (a + b)) then a + b else 0, rfl, rfl, fun W v hv => ?_⟩
    have h := fits_v hv fab
    by_cases hin : In64 (a + b)
    · rw [decide_eq_true hin]
      unfold In64 at hin
      rw [if_pos hin, decide_eq_true hin] at h
      exact h
    · rw [decide_eq_false hin]
      unfold In64 at hin
      rw [if_neg hin, decide_eq_false hin] at h
      exact h
  obtain ⟨ok, r, hok, hr, hF⟩ := hres
  have HOK := Lib.hid hok
  have HR := Lib.hid hr
  have HF := Lib.hid hF
  have HRs := Lib.hid (fun W => result_any kind r ok W)
  clear ha hb hB3 hz3 X3 fa fb fab hok hr hF
  go_enter Tryd.func61, Tryd.ntmps61
  go_wp2_with fail
  refine HP.out.mono ?_
  rintro e w1 ⟨v1, rfl, hv1, hb1⟩
  have HV := Lib.hid hv1
  have HB1 := Lib.hid hb1
  clear hv1 hb1
  go_wp2_with fail
  refine (HF.out _ _ HV.out).mono ?_
  rintro e w2 ⟨rfl, hb2⟩
  have HB2 := Lib.hid hb2
  clear hb2
  go_wp2_with fail
  refine (HRs.out _).mono ?_
  rintro e w3 ⟨rfl, hb3⟩
  have HB3 := Lib.hid hb3
  clear hb3
  have hs1 := HB1.out.size
  have hs2 := HB2.out.size
  have HBA := Lib.hid ((HB1.out.trans (HB2.out.mono hs1)).trans (HB3.out.mono (Nat.le_trans hs1 hs2)))
  obtain ⟨⟨d0, d1, d2⟩, ⟨g0, g1, g2⟩⟩ := box_kept HBA.out (n := w.heap.size + 2) (by rw [HZ.out]; omega) (x := .int .i64 0) (y := .int .i64 0) (z := .string ⟨#[]⟩) (by rw [HX.out]; rfl) (by rw [HX.out]; rfl) (by rw [HX.out]; rfl) (fun i => World.frozen?_alloc_at _ _ _ _ (by simp))
  have HW := Lib.hid (HB.out.trans (HBA.out.mono (by rw [HZ.out]; omega)))
  have hE : (if ok = true then r else 0) = (if ok = true then a + b else 0) := by rw [HR.out]; cases ok <;> rfl
  rw [hE]
  have HE := Lib.hid hE
  clear hE hs1 hs2 HBA
  generalize hkk : (if ok = true then kind else 0) = kk at *
  have Kkk := Lib.hid hkk
  clear hkk
  generalize hrr : (if ok = true then a + b else 0) = rr at *
  have Krr := Lib.hid hrr
  clear hrr
  generalize hee : (if ok = true then (0 : Int) else 4) = ee at *
  have Kee := Lib.hid hee
  clear hee
  go_wp2_with fail
  exact bodyPost_ret (v := .tuple #[.agg #[.int .i64 kk, .int .i64 rr, .string ⟨#[]⟩], .int .i64 ee]) (by simp [results, Tryd.results61, go_sem, d0, d1, d2]) rfl ⟨ok, HOK.out, by rw [Kkk.out, Krr.out, Kee.out], ((HW.out.setCell (p := ⟨w.heap.size + 2, 0, none⟩) (Nat.le_add_right _ _) _).setCell (p := ⟨w.heap.size + 2, 1, none⟩) (Nat.le_add_right _ _) _).setCell (p := ⟨w.heap.size + 2, 2, none⟩) (Nat.le_add_right _ _) _⟩
end Go.Proofs.YtidejjjedpdbeaaDoor

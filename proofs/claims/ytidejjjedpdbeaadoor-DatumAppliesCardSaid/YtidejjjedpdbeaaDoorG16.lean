/- The document's Over, said of whole numbers. The document's two, at a difference, a product, a quotient. The document's two, at every operator. -/
import Derived.Test.YtidejjjedpdbeaaDoorBigOver
import Derived.Test.YtidejjjedpdbeaaDoorBigTwoA
namespace Go.Proofs.YtidejjjedpdbeaaDoor
open Go.RowKit

theorem tdiv_abs (a b : Int) : a.tdiv b = if decide (a < 0) = decide (b < 0) then ((a.natAbs / b.natAbs : Nat) : Int) else -((a.natAbs / b.natAbs : Nat) : Int) := by
  have hd : ∀ m n : Nat, (m : Int).tdiv (n : Int) = ((m / n : Nat) : Int) := fun m n => by rw [Int.ofNat_tdiv]
  by_cases ha : a < 0
  · obtain ⟨m, rfl⟩ : ∃ m : Nat, a = -(m : Int) := ⟨a.natAbs, by omega⟩
    by_cases hb : b < 0
    · obtain ⟨n, rfl⟩ : ∃ n : Nat, b = -(n : Int) := ⟨b.natAbs, by omega⟩
      rw [decide_eq_true ha, decide_eq_true hb, if_pos rfl, Int.neg_tdiv, Int.tdiv_neg, hd]
      simp
    · obtain ⟨n, rfl⟩ : ∃ n : Nat, b = (n : Int) := ⟨b.natAbs, by omega⟩
      rw [decide_eq_true ha, decide_eq_false hb, if_neg (by decide), Int.neg_tdiv, hd]
      simp
  · obtain ⟨m, rfl⟩ : ∃ m : Nat, a = (m : Int) := ⟨a.natAbs, by omega⟩
    by_cases hb : b < 0
    · obtain ⟨n, rfl⟩ : ∃ n : Nat, b = -(n : Int) := ⟨b.natAbs, by omega⟩
      rw [decide_eq_false ha, decide_eq_true hb, if_neg (by decide), Int.tdiv_neg, hd]
      simp
    · obtain ⟨n, rfl⟩ : ∃ n : Nat, b = (n : Int) := ⟨b.natAbs, by omega⟩
      rw [decide_eq_false ha, decide_eq_false hb, if_pos rfl, hd]
      simp

theorem over_v {w : World} {va vb : Value} {a b : Int} (ha : BigV w va a) (hb : BigV w vb b) (fa : a.natAbs < 1000000 ^ 50) (fb : b.natAbs < 1000000 ^ 50) (hb0 : b ≠ 0) :
    Calls Tryd.prog 78 #[va, vb] w fun e w' => e = .returned (.tuple #[.int .i64 (if In64 (a.tdiv b) then a.tdiv b else 0), .bool (decide (In64 (a.tdiv b)))]) ∧ Below w.heap.size w w' := by
  obtain ⟨ra, rfl, ha⟩ := ha
  obtain ⟨rb, rfl, hb⟩ := hb
  refine (over_nat (decide (a < 0)) (decide (b < 0)) ra rb _ _ (by omega) fa fb w ha hb).mono ?_
  rintro e w' ⟨z, ok, hz, rfl, rfl, hbw⟩
  rw [← tdiv_abs] at hz
  subst hz
  exact ⟨by simp only [decide_eq_true_eq], hbw⟩
end Go.Proofs.YtidejjjedpdbeaaDoor
namespace Go.Proofs.YtidejjjedpdbeaaDoor
open Go.RowKit
theorem fits_res {z : Int} (f : Fit z) : ∃ (ok : Bool) (r : Int), ok = decide (In64 z) ∧ r = (if ok then z else 0) ∧ ∀ W v, BigV W v z → Calls Tryd.prog 57 #[v] W fun e w' => e = .returned (.tuple #[.int .i64 r, .bool ok]) ∧ Below W.heap.size W w' := by
  refine ⟨decide (In64 z), if decide (In64 z) then z else 0, rfl, rfl, fun W v hv => ?_⟩
  have h := fits_v hv f
  simp only [decide_eq_true_eq]
  exact h
theorem over_res {a b : Int} (fa : a.natAbs < 1000000 ^ 50) (fb : b.natAbs < 1000000 ^ 50) (hb0 : b ≠ 0) : ∃ (ok : Bool) (r : Int), ok = decide (In64 (a.tdiv b)) ∧ r = (if ok then a.tdiv b else 0) ∧ ∀ W u v, BigV W u a → BigV W v b → Calls Tryd.prog 78 #[u, v] W fun e w' => e = .returned (.tuple #[.int .i64 r, .bool ok]) ∧ Below W.heap.size W w' := by
  refine ⟨decide (In64 (a.tdiv b)), if decide (In64 (a.tdiv b)) then a.tdiv b else 0, rfl, rfl, fun W u v hu hv => ?_⟩
  have h := over_v hu hv fa fb hb0
  simp only [decide_eq_true_eq]
  exact h
theorem mul_lt40 {a b : Int} (ha : a.natAbs < 1000000 ^ 20) (hb : b.natAbs < 1000000 ^ 20) : (a * b).natAbs < 1000000 ^ 50 := by
  rw [Int.natAbs_mul]
  have h1 : a.natAbs * b.natAbs ≤ 1000000 ^ 20 * b.natAbs := Nat.mul_le_mul_right _ (by omega)
  have h2 : 1000000 ^ 20 * b.natAbs < 1000000 ^ 20 * 1000000 ^ 20 := Nat.mul_lt_mul_of_pos_left hb (by decide)
  rw [← Nat.pow_add] at h2
  exact Nat.lt_trans (Nat.lt_of_le_of_lt h1 h2) (Nat.pow_lt_pow_right (by decide) (by decide))
theorem in64_lt20 {a : Int} (h : In64 a) : a.natAbs < 1000000 ^ 20 := by
  have h1 : a.natAbs < 1000000 ^ 4 := by unfold In64 at h; omega
  exact Nat.lt_trans h1 (Nat.pow_lt_pow_right (by decide) (by decide))
theorem in64_lt {a : Int} (h : In64 a) : a.natAbs < 1000000 ^ 50 := Nat.lt_trans (in64_lt20 h) (Nat.pow_lt_pow_right (by decide) (by decide))
theorem fit20 {a : Int} (h : a.natAbs < 1000000 ^ 20) : Fit a := Nat.lt_trans h (Nat.pow_lt_pow_right (by decide) (by decide))
theorem held_last {W0 w1 w2 : World} (h : Below W0.heap.size W0 w1 ∧ ∀ b o, b < W0.heap.size → w1.cell? ⟨b, o, none⟩ = W0.cell? ⟨b, o, none⟩) (hb : Below w1.heap.size w1 w2) : Below W0.heap.size W0 w2 := h.1.trans (hb.mono h.1.size)

set_option maxRecDepth 100000 in
set_option maxHeartbeats 4000000 in
theorem two_minus (kind unit : Int) {w : World} {va vb : Value} {a b : Int} (ha : BigV w va a) (hb : BigV w vb b) (fa : Fit a) (fb : Fit b) (fab : Fit (a - b)) :
    Calls Tryd.prog 61 #[.int .i64 4, .int .i64 kind, va, vb, .int .i64 unit] w fun e w' => ∃ ok, ok = decide (In64 (a - b)) ∧ e = .returned (.tuple #[.agg #[.int .i64 (if ok then kind else 0), .int .i64 (if ok then a - b else 0), .string ⟨#[]⟩], .int .i64 (if ok then 0 else 4)]) ∧ Below w.heap.size w w' := by
  have VA := Lib.hid ha
  have VB := Lib.hid hb
  obtain ⟨ok, r, hok, hr, hF⟩ := fits_res fab
  have HOK := Lib.hid hok
  have HR := Lib.hid hr
  have HF := Lib.hid hF
  have HRs := Lib.hid (fun W => result_any kind r ok W)
  obtain ⟨pa, ca, rfl⟩ := ha.form
  obtain ⟨pb, cb, rfl⟩ := hb.form
  have hlb : (digs b.natAbs).length = 0 ↔ b.natAbs = 0 := digs_nil
  generalize (digs a.natAbs).length = la at *
  generalize (digs b.natAbs).length = lb at *
  generalize decide (a < 0) = ma at *
  generalize decide (b < 0) = mb at *
  obtain ⟨hB3, hz3, X1, X2, X3⟩ := boxes3 w #[.bool ma, .slice pa la ca] #[.bool mb, .slice pb lb cb] #[.int .i64 0, .int .i64 0, .string ⟨#[]⟩] 76 76 24
  have F3 : ∀ i, World.frozen? (((w.alloc (.cells #[.bool ma, .slice pa la ca] 76)).alloc (.cells #[.bool mb, .slice pb lb cb] 76)).alloc (.cells #[.int .i64 0, .int .i64 0, .string ⟨#[]⟩] 24)) ⟨w.heap.size + 2, i, none⟩ = false := fun i => World.frozen?_alloc_at _ _ _ _ (by simp)
  have a0 := X1 0
  have a1 := X1 1
  have b0 := X2 0
  have b1 := X2 1
  have HX := Lib.hid X3
  have HF3 := Lib.hid F3
  clear ha hb X1 X2 X3 F3 hok hr hF
  have HM := Lib.hid (fun (W : World) (v1 : Value) (h1 : BigV W v1 b) => minus_v h1)
  have HP := Lib.hid (fun (W : World) (v1 v2 : Value) (h1 : BigV W v1 a) (h2 : BigV W v2 (-b)) => plus_v h1 h2 fa (by unfold Fit at *; rwa [Int.natAbs_neg]))
  clear fa fb fab
  go_enter Tryd.func61, Tryd.ntmps61
  go_wp2_with fail
  generalize (((w.alloc (.cells #[.bool ma, .slice pa la ca] 76)).alloc (.cells #[.bool mb, .slice pb lb cb] 76)).alloc (.cells #[.int .i64 0, .int .i64 0, .string ⟨#[]⟩] 24)) = W0 at *
  have hz0 : w.heap.size < W0.heap.size := by omega
  have hz1 : w.heap.size + 1 < W0.heap.size := by omega
  have hz2 : w.heap.size + 2 < W0.heap.size := by omega
  have c0 : W0.cell? ⟨w.heap.size, 0, none⟩ = some (.bool ma) := by rw [a0]; rfl
  have c1 : W0.cell? ⟨w.heap.size, 1, none⟩ = some (.slice pa la ca) := by rw [a1]; rfl
  have e0 : W0.cell? ⟨w.heap.size + 1, 0, none⟩ = some (.bool mb) := by rw [b0]; rfl
  have e1 : W0.cell? ⟨w.heap.size + 1, 1, none⟩ = some (.slice pb lb cb) := by rw [b1]; rfl
  have d0' : W0.cell? ⟨w.heap.size + 2, 0, none⟩ = some (.int .i64 0) := by rw [HX.out]; rfl
  have d1' : W0.cell? ⟨w.heap.size + 2, 1, none⟩ = some (.int .i64 0) := by rw [HX.out]; rfl
  have d2' : W0.cell? ⟨w.heap.size + 2, 2, none⟩ = some (.string ⟨#[]⟩) := by rw [HX.out]; rfl
  have HD := Lib.hid (show W0.cell? ⟨w.heap.size + 2, 0, none⟩ = some (.int .i64 0) ∧ W0.cell? ⟨w.heap.size + 2, 1, none⟩ = some (.int .i64 0) ∧ W0.cell? ⟨w.heap.size + 2, 2, none⟩ = some (.string ⟨#[]⟩) from ⟨d0', d1', d2'⟩)
  replace VA := Lib.hid (VA.out.below hB3)
  replace VB := Lib.hid (VB.out.below hB3)
  have HB := Lib.hid hB3
  clear a0 a1 b0 b1 hz3 hB3 d0' d1' d2' HX
  try (go_wp2_with fail)
  go_region_held3 (fun w' => Below W0.heap.size W0 w' ∧ ∀ b o, b < W0.heap.size → w'.cell? ⟨b, o, none⟩ = W0.cell? ⟨b, o, none⟩) ((first | (with_reducible exact held_drew) | (with_reducible exact held_below ‹_› ‹_›)))
    (first
      | (go_at_call 59; (with_reducible refine (HM.out _ _ (VB.out.below (KwB.mk (by assumption : _ ∧ _).1).b)).mono ?_); rintro e w1 ⟨v1, rfl, hv1, hb1⟩)
      | (go_at_call 77; (with_reducible refine (HP.out _ _ _ (VA.out.below (KwB.mk (by assumption : _ ∧ _).1).b) hv1).mono ?_); rintro e w2 ⟨v2, rfl, hv2, hb2⟩)
      | (go_at_call 57; (with_reducible refine (HF.out _ _ hv2).mono ?_); rintro e w3 ⟨rfl, hb3⟩))
  go_wp2_with fail
  refine (HRs.out _).mono ?_
  rintro e w9 ⟨rfl, hb9⟩
  have HBV := held_last (by assumption) hb9
  have HBA := Lib.hid HBV
  clear HBV
  obtain ⟨⟨d0, d1, d2⟩, ⟨g0, g1, g2⟩⟩ := box_kept HBA.out (n := w.heap.size + 2) hz2 HD.out.1 HD.out.2.1 HD.out.2.2 HF3.out
  have HW := Lib.hid (HB.out.trans (HBA.out.mono (by omega)))
  have hE : (if ok = true then r else 0) = (if ok = true then a - b else 0) := by rw [HR.out]; cases ok <;> rfl
  rw [hE]
  have HE := Lib.hid hE
  clear hE HBA c0 c1 e0 e1
  generalize hkk : (if ok = true then kind else 0) = kk at *
  have Kkk := Lib.hid hkk
  clear hkk
  generalize hrr : (if ok = true then a - b else 0) = rr at *
  have Krr := Lib.hid hrr
  clear hrr
  generalize hee : (if ok = true then (0 : Int) else 4) = ee at *
  have Kee := Lib.hid hee
  clear hee
  go_wp2_with fail
  exact bodyPost_ret (v := .tuple #[.agg #[.int .i64 kk, .int .i64 rr, .string ⟨#[]⟩], .int .i64 ee]) (by simp [results, Tryd.results61, go_sem, d0, d1, d2]) rfl ⟨ok, HOK.out, by rw [Kkk.out, Krr.out, Kee.out], ((HW.out.setCell (p := ⟨w.heap.size + 2, 0, none⟩) (Nat.le_add_right _ _) _).setCell (p := ⟨w.heap.size + 2, 1, none⟩) (Nat.le_add_right _ _) _).setCell (p := ⟨w.heap.size + 2, 2, none⟩) (Nat.le_add_right _ _) _⟩

set_option maxRecDepth 100000 in
set_option maxHeartbeats 4000000 in
theorem two_times (kind unit : Int) {w : World} {va vb : Value} {a b : Int} (ha : BigV w va a) (hb : BigV w vb b) (fa : a.natAbs < 1000000 ^ 20) (fb : b.natAbs < 1000000 ^ 20) (hu : In64 unit) (hu0 : unit ≠ 0) :
    Calls Tryd.prog 61 #[.int .i64 5, .int .i64 kind, va, vb, .int .i64 unit] w fun e w' => ∃ ok, ok = decide (In64 ((a * b).tdiv unit)) ∧ e = .returned (.tuple #[.agg #[.int .i64 (if ok then kind else 0), .int .i64 (if ok then (a * b).tdiv unit else 0), .string ⟨#[]⟩], .int .i64 (if ok then 0 else 4)]) ∧ Below w.heap.size w w' := by
  have VA := Lib.hid ha
  have VB := Lib.hid hb
  obtain ⟨ok, r, hok, hr, hF⟩ := over_res (a := a * b) (b := unit) (mul_lt40 fa fb) (in64_lt hu) hu0
  have HOK := Lib.hid hok
  have HR := Lib.hid hr
  have HF := Lib.hid hF
  have HRs := Lib.hid (fun W => result_any kind r ok W)
  obtain ⟨pa, ca, rfl⟩ := ha.form
  obtain ⟨pb, cb, rfl⟩ := hb.form
  have hlb : (digs b.natAbs).length = 0 ↔ b.natAbs = 0 := digs_nil
  generalize (digs a.natAbs).length = la at *
  generalize (digs b.natAbs).length = lb at *
  generalize decide (a < 0) = ma at *
  generalize decide (b < 0) = mb at *
  obtain ⟨hB3, hz3, X1, X2, X3⟩ := boxes3 w #[.bool ma, .slice pa la ca] #[.bool mb, .slice pb lb cb] #[.int .i64 0, .int .i64 0, .string ⟨#[]⟩] 76 76 24
  have F3 : ∀ i, World.frozen? (((w.alloc (.cells #[.bool ma, .slice pa la ca] 76)).alloc (.cells #[.bool mb, .slice pb lb cb] 76)).alloc (.cells #[.int .i64 0, .int .i64 0, .string ⟨#[]⟩] 24)) ⟨w.heap.size + 2, i, none⟩ = false := fun i => World.frozen?_alloc_at _ _ _ _ (by simp)
  have a0 := X1 0
  have a1 := X1 1
  have b0 := X2 0
  have b1 := X2 1
  have HX := Lib.hid X3
  have HF3 := Lib.hid F3
  clear ha hb X1 X2 X3 F3 hok hr hF
  have HM := Lib.hid (fun (W : World) (v1 v2 : Value) (h1 : BigV W v1 a) (h2 : BigV W v2 b) => times_v h1 h2 (fit20 fa) (fit20 fb))
  have HO := Lib.hid (fun (W : World) => of_v unit hu.1 hu.2 W)
  have hu1 := hu.1
  have hu2 := hu.2
  clear fa fb
  go_enter Tryd.func61, Tryd.ntmps61
  go_wp2_with fail
  generalize (((w.alloc (.cells #[.bool ma, .slice pa la ca] 76)).alloc (.cells #[.bool mb, .slice pb lb cb] 76)).alloc (.cells #[.int .i64 0, .int .i64 0, .string ⟨#[]⟩] 24)) = W0 at *
  have hz0 : w.heap.size < W0.heap.size := by omega
  have hz1 : w.heap.size + 1 < W0.heap.size := by omega
  have hz2 : w.heap.size + 2 < W0.heap.size := by omega
  have c0 : W0.cell? ⟨w.heap.size, 0, none⟩ = some (.bool ma) := by rw [a0]; rfl
  have c1 : W0.cell? ⟨w.heap.size, 1, none⟩ = some (.slice pa la ca) := by rw [a1]; rfl
  have e0 : W0.cell? ⟨w.heap.size + 1, 0, none⟩ = some (.bool mb) := by rw [b0]; rfl
  have e1 : W0.cell? ⟨w.heap.size + 1, 1, none⟩ = some (.slice pb lb cb) := by rw [b1]; rfl
  have d0' : W0.cell? ⟨w.heap.size + 2, 0, none⟩ = some (.int .i64 0) := by rw [HX.out]; rfl
  have d1' : W0.cell? ⟨w.heap.size + 2, 1, none⟩ = some (.int .i64 0) := by rw [HX.out]; rfl
  have d2' : W0.cell? ⟨w.heap.size + 2, 2, none⟩ = some (.string ⟨#[]⟩) := by rw [HX.out]; rfl
  have HD := Lib.hid (show W0.cell? ⟨w.heap.size + 2, 0, none⟩ = some (.int .i64 0) ∧ W0.cell? ⟨w.heap.size + 2, 1, none⟩ = some (.int .i64 0) ∧ W0.cell? ⟨w.heap.size + 2, 2, none⟩ = some (.string ⟨#[]⟩) from ⟨d0', d1', d2'⟩)
  replace VA := Lib.hid (VA.out.below hB3)
  replace VB := Lib.hid (VB.out.below hB3)
  have HB := Lib.hid hB3
  clear a0 a1 b0 b1 hz3 hB3 d0' d1' d2' HX
  try (go_wp2_with fail)
  refine (HM.out _ _ _ VA.out VB.out).mono ?_
  rintro e w1 ⟨v1, rfl, hv1, hb1⟩
  go_wp2_with fail
  refine (HO.out _).mono ?_
  rintro e w2 ⟨v2, rfl, hv2, hb2⟩
  go_wp2_with fail
  refine (HF.out _ _ _ (hv1.below hb2) hv2).mono ?_
  rintro e w3 ⟨rfl, hb3⟩
  have hHeld := held_of ((hb1.trans (hb2.mono hb1.size)).trans (hb3.mono (Nat.le_trans hb1.size hb2.size)))
  clear hu1 hu2
  go_wp2_with fail
  refine (HRs.out _).mono ?_
  rintro e w9 ⟨rfl, hb9⟩
  have HBV := held_last (by assumption) hb9
  have HBA := Lib.hid HBV
  clear HBV
  obtain ⟨⟨d0, d1, d2⟩, ⟨g0, g1, g2⟩⟩ := box_kept HBA.out (n := w.heap.size + 2) hz2 HD.out.1 HD.out.2.1 HD.out.2.2 HF3.out
  have HW := Lib.hid (HB.out.trans (HBA.out.mono (by omega)))
  have hE : (if ok = true then r else 0) = (if ok = true then (a * b).tdiv unit else 0) := by rw [HR.out]; cases ok <;> rfl
  rw [hE]
  have HE := Lib.hid hE
  clear hE HBA c0 c1 e0 e1
  generalize hkk : (if ok = true then kind else 0) = kk at *
  have Kkk := Lib.hid hkk
  clear hkk
  generalize hrr : (if ok = true then (a * b).tdiv unit else 0) = rr at *
  have Krr := Lib.hid hrr
  clear hrr
  generalize hee : (if ok = true then (0 : Int) else 4) = ee at *
  have Kee := Lib.hid hee
  clear hee
  go_wp2_with fail
  exact bodyPost_ret (v := .tuple #[.agg #[.int .i64 kk, .int .i64 rr, .string ⟨#[]⟩], .int .i64 ee]) (by simp [results, Tryd.results61, go_sem, d0, d1, d2]) rfl ⟨ok, HOK.out, by rw [Kkk.out, Krr.out, Kee.out], ((HW.out.setCell (p := ⟨w.heap.size + 2, 0, none⟩) (Nat.le_add_right _ _) _).setCell (p := ⟨w.heap.size + 2, 1, none⟩) (Nat.le_add_right _ _) _).setCell (p := ⟨w.heap.size + 2, 2, none⟩) (Nat.le_add_right _ _) _⟩

set_option maxRecDepth 100000 in
set_option maxHeartbeats 4000000 in
theorem two_over (kind unit : Int) {w : World} {va vb : Value} {a b : Int} (ha : BigV w va a) (hb : BigV w vb b) (fa : a.natAbs < 1000000 ^ 20) (fb : b.natAbs < 1000000 ^ 20) (hu : In64 unit) (hb0 : b ≠ 0) :
    Calls Tryd.prog 61 #[.int .i64 6, .int .i64 kind, va, vb, .int .i64 unit] w fun e w' => ∃ ok, ok = decide (In64 ((a * unit).tdiv b)) ∧ e = .returned (.tuple #[.agg #[.int .i64 (if ok then kind else 0), .int .i64 (if ok then (a * unit).tdiv b else 0), .string ⟨#[]⟩], .int .i64 (if ok then 0 else 4)]) ∧ Below w.heap.size w w' := by
  have VA := Lib.hid ha
  have VB := Lib.hid hb
  obtain ⟨ok, r, hok, hr, hF⟩ := over_res (a := a * unit) (b := b) (mul_lt40 fa (in64_lt20 hu)) (Nat.lt_trans fb (by decide)) hb0
  have HOK := Lib.hid hok
  have HR := Lib.hid hr
  have HF := Lib.hid hF
  have HRs := Lib.hid (fun W => result_any kind r ok W)
  obtain ⟨pa, ca, rfl⟩ := ha.form
  obtain ⟨pb, cb, rfl⟩ := hb.form
  have hlb : (digs b.natAbs).length = 0 ↔ b.natAbs = 0 := digs_nil
  generalize (digs a.natAbs).length = la at *
  generalize (digs b.natAbs).length = lb at *
  generalize decide (a < 0) = ma at *
  generalize decide (b < 0) = mb at *
  obtain ⟨hB3, hz3, X1, X2, X3⟩ := boxes3 w #[.bool ma, .slice pa la ca] #[.bool mb, .slice pb lb cb] #[.int .i64 0, .int .i64 0, .string ⟨#[]⟩] 76 76 24
  have F3 : ∀ i, World.frozen? (((w.alloc (.cells #[.bool ma, .slice pa la ca] 76)).alloc (.cells #[.bool mb, .slice pb lb cb] 76)).alloc (.cells #[.int .i64 0, .int .i64 0, .string ⟨#[]⟩] 24)) ⟨w.heap.size + 2, i, none⟩ = false := fun i => World.frozen?_alloc_at _ _ _ _ (by simp)
  have a0 := X1 0
  have a1 := X1 1
  have b0 := X2 0
  have b1 := X2 1
  have HX := Lib.hid X3
  have HF3 := Lib.hid F3
  clear ha hb X1 X2 X3 F3 hok hr hF
  have HM := Lib.hid (fun (W : World) (v1 v2 : Value) (h1 : BigV W v1 a) (h2 : BigV W v2 unit) => times_v h1 h2 (fit20 fa) (fit20 (in64_lt20 hu)))
  have HO := Lib.hid (fun (W : World) => of_v unit hu.1 hu.2 W)
  have hlt : ((lb : Int) == 0) = false := by simp; omega
  have hlt2 : lb ≠ 0 := by omega
  clear fa fb hlb
  go_enter Tryd.func61, Tryd.ntmps61
  go_wp2_with fail
  generalize (((w.alloc (.cells #[.bool ma, .slice pa la ca] 76)).alloc (.cells #[.bool mb, .slice pb lb cb] 76)).alloc (.cells #[.int .i64 0, .int .i64 0, .string ⟨#[]⟩] 24)) = W0 at *
  have hz0 : w.heap.size < W0.heap.size := by omega
  have hz1 : w.heap.size + 1 < W0.heap.size := by omega
  have hz2 : w.heap.size + 2 < W0.heap.size := by omega
  have c0 : W0.cell? ⟨w.heap.size, 0, none⟩ = some (.bool ma) := by rw [a0]; rfl
  have c1 : W0.cell? ⟨w.heap.size, 1, none⟩ = some (.slice pa la ca) := by rw [a1]; rfl
  have e0 : W0.cell? ⟨w.heap.size + 1, 0, none⟩ = some (.bool mb) := by rw [b0]; rfl
  have e1 : W0.cell? ⟨w.heap.size + 1, 1, none⟩ = some (.slice pb lb cb) := by rw [b1]; rfl
  have d0' : W0.cell? ⟨w.heap.size + 2, 0, none⟩ = some (.int .i64 0) := by rw [HX.out]; rfl
  have d1' : W0.cell? ⟨w.heap.size + 2, 1, none⟩ = some (.int .i64 0) := by rw [HX.out]; rfl
  have d2' : W0.cell? ⟨w.heap.size + 2, 2, none⟩ = some (.string ⟨#[]⟩) := by rw [HX.out]; rfl
  have HD := Lib.hid (show W0.cell? ⟨w.heap.size + 2, 0, none⟩ = some (.int .i64 0) ∧ W0.cell? ⟨w.heap.size + 2, 1, none⟩ = some (.int .i64 0) ∧ W0.cell? ⟨w.heap.size + 2, 2, none⟩ = some (.string ⟨#[]⟩) from ⟨d0', d1', d2'⟩)
  replace VA := Lib.hid (VA.out.below hB3)
  replace VB := Lib.hid (VB.out.below hB3)
  have HB := Lib.hid hB3
  clear a0 a1 b0 b1 hz3 hB3 d0' d1' d2' HX
  try (go_wp2_with fail)
  go_region_held3 (fun w' => Below W0.heap.size W0 w' ∧ ∀ b o, b < W0.heap.size → w'.cell? ⟨b, o, none⟩ = W0.cell? ⟨b, o, none⟩) ((first | (with_reducible exact held_drew) | (with_reducible exact held_below ‹_› ‹_›)))
    (first
      | (go_at_call 60; (with_reducible refine (HO.out _).mono ?_); rintro e w1 ⟨v1, rfl, hv1, hb1⟩)
      | (go_at_call 75; (with_reducible refine (HM.out _ _ _ (VA.out.below (KwB.mk (by assumption : _ ∧ _).1).b) hv1).mono ?_); rintro e w2 ⟨v2, rfl, hv2, hb2⟩)
      | (go_at_call 78; (with_reducible refine (HF.out _ _ _ hv2 (VB.out.below (KwB.mk (by assumption : _ ∧ _).1).b)).mono ?_); rintro e w3 ⟨rfl, hb3⟩))
  go_wp2_with fail
  refine (HRs.out _).mono ?_
  rintro e w9 ⟨rfl, hb9⟩
  have HBV := held_last (by assumption) hb9
  have HBA := Lib.hid HBV
  clear HBV
  obtain ⟨⟨d0, d1, d2⟩, ⟨g0, g1, g2⟩⟩ := box_kept HBA.out (n := w.heap.size + 2) hz2 HD.out.1 HD.out.2.1 HD.out.2.2 HF3.out
  have HW := Lib.hid (HB.out.trans (HBA.out.mono (by omega)))
  have hE : (if ok = true then r else 0) = (if ok = true then (a * unit).tdiv b else 0) := by rw [HR.out]; cases ok <;> rfl
  rw [hE]
  have HE := Lib.hid hE
  clear hE HBA c0 c1 e0 e1
  generalize hkk : (if ok = true then kind else 0) = kk at *
  have Kkk := Lib.hid hkk
  clear hkk
  generalize hrr : (if ok = true then (a * unit).tdiv b else 0) = rr at *
  have Krr := Lib.hid hrr
  clear hrr
  generalize hee : (if ok = true then (0 : Int) else 4) = ee at *
  have Kee := Lib.hid hee
  clear hee
  go_wp2_with fail
  exact bodyPost_ret (v := .tuple #[.agg #[.int .i64 kk, .int .i64 rr, .string ⟨#[]⟩], .int .i64 ee]) (by simp [results, Tryd.results61, go_sem, d0, d1, d2]) rfl ⟨ok, HOK.out, by rw [Kkk.out, Krr.out, Kee.out], ((HW.out.setCell (p := ⟨w.heap.size + 2, 0, none⟩) (Nat.le_add_right _ _) _).setCell (p := ⟨w.heap.size + 2, 1, none⟩) (Nat.le_add_right _ _) _).setCell (p := ⟨w.heap.size + 2, 2, none⟩) (Nat.le_add_right _ _) _⟩
end Go.Proofs.YtidejjjedpdbeaaDoor
namespace Go.Proofs.YtidejjjedpdbeaaDoor
open Go.RowKit

set_option maxRecDepth 100000 in
set_option maxHeartbeats 4000000 in
theorem two_zero (kind unit : Int) {w : World} {va vb : Value} {a : Int} (ha : BigV w va a) (hb : BigV w vb 0) :
    Calls Tryd.prog 61 #[.int .i64 6, .int .i64 kind, va, vb, .int .i64 unit] w fun e w' => e = .returned (.tuple #[Dt.zero.v, .int .i64 4]) ∧ Below w.heap.size w w' := by
  obtain ⟨pa, ca, rfl⟩ := ha.form
  obtain ⟨pb, cb, rfl⟩ := hb.form
  have hlb : (digs (0 : Int).natAbs).length = 0 := digs_nil.2 rfl
  have hm : decide ((0 : Int) < 0) = false := rfl
  rw [hlb, hm]
  generalize (digs a.natAbs).length = la at *
  generalize decide (a < 0) = ma at *
  clear ha hb hlb hm
  obtain ⟨hB3, hz3, -, -, X3⟩ := boxes3 w #[.bool ma, .slice pa la ca] #[.bool false, .slice pb 0 cb] #[.int .i64 0, .int .i64 0, .string ⟨#[]⟩] 76 76 24
  have HB := Lib.hid hB3
  clear hB3 hz3 X3
  go_enter Tryd.func61, Tryd.ntmps61
  go_wp2_with fail
  exact bodyPost_ret (v := .tuple #[.agg #[.int .i64 0, .int .i64 0, .string ⟨#[]⟩], .int .i64 4]) (by simp [results, Tryd.results61, go_sem]) rfl ⟨rfl, HB.out⟩

def twoZ (op a b unit : Int) : Int := if op = 3 then a + b else if op = 4 then a - b else if op = 5 then (a * b).tdiv unit else (a * unit).tdiv b
def twoOk (op a b unit : Int) : Bool := (op != 6 || b != 0) && decide (In64 (twoZ op a b unit))
/-- What two answers. -/
def twoD (kind op a b unit : Int) : Dt × Int := if twoOk op a b unit then (⟨kind, twoZ op a b unit, ⟨#[]⟩⟩, 0) else (Dt.zero, 4)

theorem two_any (op kind unit : Int) (hop : op = 3 ∨ op = 4 ∨ op = 5 ∨ op = 6) {w : World} {va vb : Value} {a b : Int} (ha : BigV w va a) (hb : BigV w vb b) (fa : In64 a) (fb : In64 b) (hu : In64 unit) (hu0 : unit ≠ 0) :
    Calls Tryd.prog 61 #[.int .i64 op, .int .i64 kind, va, vb, .int .i64 unit] w fun e w' => e = .returned (.tuple #[(twoD kind op a b unit).1.v, .int .i64 (twoD kind op a b unit).2]) ∧ Below w.heap.size w w' := by
  have fab : ∀ z : Int, z.natAbs < 1000000 ^ 5 → Fit z := fun z h => Nat.lt_trans h (Nat.pow_lt_pow_right (by decide) (by decide))
  have f1 : a.natAbs < 1000000 ^ 4 := by unfold In64 at fa; omega
  have f2 : b.natAbs < 1000000 ^ 4 := by unfold In64 at fb; omega
  rcases hop with rfl | rfl | rfl | rfl
  · refine (two_plus kind unit ha hb (fit20 (in64_lt20 fa)) (fit20 (in64_lt20 fb)) (fab _ (by omega))).mono ?_
    rintro e w' ⟨ok, rfl, rfl, h⟩
    refine ⟨?_, h⟩
    unfold twoD twoOk twoZ
    simp only [if_true]
    by_cases hz : In64 (a + b) <;> simp [hz, Dt.zero]
  · refine (two_minus kind unit ha hb (fit20 (in64_lt20 fa)) (fit20 (in64_lt20 fb)) (fab _ (by omega))).mono ?_
    rintro e w' ⟨ok, rfl, rfl, h⟩
    refine ⟨?_, h⟩
    unfold twoD twoOk twoZ
    by_cases hz : In64 (a - b) <;> simp [hz, Dt.zero]
  · refine (two_times kind unit ha hb (in64_lt20 fa) (in64_lt20 fb) hu hu0).mono ?_
    rintro e w' ⟨ok, rfl, rfl, h⟩
    refine ⟨?_, h⟩
    unfold twoD twoOk twoZ
    by_cases hz : In64 ((a * b).tdiv unit) <;> simp [hz, Dt.zero]
  · by_cases hb0 : b = 0
    · subst hb0
      refine (two_zero kind unit ha hb).mono ?_
      rintro e w' ⟨rfl, h⟩
      exact ⟨rfl, h⟩
    · refine (two_over kind unit ha hb (in64_lt20 fa) (in64_lt20 fb) hu hb0).mono ?_
      rintro e w' ⟨ok, rfl, rfl, h⟩
      refine ⟨?_, h⟩
      unfold twoD twoOk twoZ
      by_cases hz : In64 ((a * unit).tdiv b) <;> simp [hz, hb0, Dt.zero]
end Go.Proofs.YtidejjjedpdbeaaDoor

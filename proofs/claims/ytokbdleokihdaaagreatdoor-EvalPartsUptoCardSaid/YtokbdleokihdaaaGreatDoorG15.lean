/- The document's Plus: a sum of whole numbers; Times, added, less said of whole numbers. The document's Plus at two signs; Plus said of whole numbers. The document's Fits, at a number that is not negative. The document's Number: a number times ten thousand. -/
import Derived.Test.YtokbdleokihdaaaGreatDoorG14
import Derived.Test.YtokbdleokihdaaaGreatDoorBigMul
import Derived.Deep.Cut
namespace Go.Proofs.YtokbdleokihdaaaGreatDoor
open Go.RowKit

theorem natAbs_len {z : Int} {k : Nat} (h : z.natAbs < 1000000 ^ k) : (digs z.natAbs).length ≤ k := digs_len h
theorem times_v {w : World} {va vb : Value} {a b : Int} (ha : BigV w va a) (hb : BigV w vb b) (fa : Fit a) (fb : Fit b) :
    Calls Tryz.prog 50 #[va, vb] w fun e w' => ∃ v, e = .returned v ∧ BigV w' v (a * b) ∧ Below w.heap.size w w' := by
  obtain ⟨ra, rfl, ha⟩ := ha
  obtain ⟨rb, rfl, hb⟩ := hb
  refine (bigtimes_any _ _ ra rb a.natAbs b.natAbs w ha hb (by have := fa.len; omega) (by have := fb.len; omega)).mono ?_
  rintro e w' ⟨v, rfl, hrow, hb⟩
  refine ⟨_, rfl, ⟨v, ?_, by rw [Int.natAbs_mul]; exact hrow⟩, hb⟩
  have h1 : 0 < (digs (a.natAbs * b.natAbs)).length ↔ a.natAbs * b.natAbs ≠ 0 := by rw [Nat.pos_iff_ne_zero, Ne, digs_nil]
  have h2 : ((decide (a < 0) != decide (b < 0)) && decide (0 < (digs (a.natAbs * b.natAbs)).length)) = decide (a * b < 0) := by
    rw [Bool.eq_iff_iff]
    simp only [Bool.and_eq_true, bne_iff_ne, ne_eq, decide_eq_true_eq, h1, Nat.mul_eq_zero, not_or, decide_eq_decide]
    rcases Int.lt_trichotomy a 0 with ha | rfl | ha
    · rcases Int.lt_trichotomy b 0 with hb | rfl | hb
      · have := Int.mul_pos_of_neg_of_neg ha hb
        omega
      · simp
      · have := Int.mul_neg_of_neg_of_pos ha hb
        omega
    · simp
    · rcases Int.lt_trichotomy b 0 with hb | rfl | hb
      · have := Int.mul_neg_of_pos_of_neg ha hb
        omega
      · simp
      · have := Int.mul_pos ha hb
        omega
  rw [h2]

theorem urow_tail3 {w : World} {v : Value} {ds : List Nat} {a b : Nat} {m n : Bool} {x y : Value} (h : URow w v ds) (ha : Bg w a m x) (hb : Bg w b n y) (hne : a ≠ b) (f1 f3 : Bool) (v2 : Value) :
    URow (((w.setCell ⟨a, 0, none⟩ (.bool f1)).setCell ⟨b, 0, none⟩ (.bool f3)).setCell ⟨b, 1, none⟩ v2) v ds :=
  ((h.set ha 0 _).set (hb.set (by exact hne) _) 0 _).set ((hb.set (by exact hne) _).set0 f3) 1 v2
theorem below_tail3 {B : Nat} {w0 w : World} {a b : Nat} (h : Below B w0 w) (ha : B ≤ a) (hb : B ≤ b) (f1 f3 : Bool) (v2 : Value) :
    Below B w0 (((w.setCell ⟨a, 0, none⟩ (.bool f1)).setCell ⟨b, 0, none⟩ (.bool f3)).setCell ⟨b, 1, none⟩ v2) :=
  ((h.setCell (p := ⟨a, 0, none⟩) ha _).setCell (p := ⟨b, 0, none⟩) hb _).setCell (p := ⟨b, 1, none⟩) hb _

set_option maxRecDepth 100000 in
set_option maxHeartbeats 4000000 in
theorem plus_same (m : Bool) (va vb : Value) (x y : Nat) (w : World) (ha : URow w va (digs x)) (hb : URow w vb (digs y)) (hla : (digs x).length ≤ 900) (hlb : (digs y).length ≤ 900) :
    Calls Tryz.prog 52 #[.agg #[.bool m, va], .agg #[.bool m, vb]] w fun e w' => ∃ v, e = .returned (.agg #[.bool (m && decide (0 < (digs (x + y)).length)), v]) ∧ URow w' v (digs (x + y)) ∧ Below w.heap.size w w' := by
  obtain ⟨hB3, hz3, -⟩ := boxes3 w #[.bool m, va] #[.bool m, vb] #[.bool false, .slice none 0 0] 65 65 65
  have b2 := Bg.new ((w.alloc (.cells #[.bool m, va] 65)).alloc (.cells #[.bool m, vb] 65)) false (.slice none 0 0) 65
  have b0 := ((Bg.new w m va 65).alloc (.cells #[.bool m, vb] 65)).alloc (.cells #[.bool false, .slice none 0 0] 65)
  have e2 : ((w.alloc (.cells #[.bool m, va] 65)).alloc (.cells #[.bool m, vb] 65)).heap.size = w.heap.size + 2 := by simp
  rw [e2] at b2
  have HC := Lib.hid (added_any m m va vb x y _ (ha.below hB3) (hb.below hB3) (by omega) (by omega))
  obtain ⟨pa, ca, rfl, -, -⟩ := id ha
  obtain ⟨pb, cb, rfl, -, -⟩ := id hb
  have HB3 := Lib.hid hB3
  have H2 := Lib.hid b2
  have H0 := Lib.hid b0
  have HZ3 := Lib.hid hz3
  clear ha hb e2 b2 b0 hB3 hz3
  go_enter Tryz.func52, Tryz.ntmps52
  rcases m with _ | _
  · go_wp2_with fail
    refine HC.out.mono ?_
    rintro e w1 ⟨v, rfl, hown, hb1⟩
    rw [HZ3.out] at hown hb1
    have G2 := H2.out.below hb1 (by omega)
    have G0 := H0.out.below hb1 (by omega)
    have hu := URow.of_owns hown
    obtain ⟨p', cp', rfl, -, -⟩ := id hu
    generalize hLd : (digs (x + y)).length = L at *
    have HLd := Lib.hid hLd
    have HW2 := HB3.out.trans (hb1.mono (by omega))
    have hl2 := G2.lt
    clear hLd hown hb1 HC
    go_upto_region 3 with fail
    have HU := Lib.hid (hu.below ((Below.refl w1.heap.size w1).alloc (Nat.le_refl _) (.cells #[.bool false, .slice p' L cp'] 65)))
    have HG2 := G2.alloc (.cells #[.bool false, .slice p' L cp'] 65)
    have HG0 := G0.alloc (.cells #[.bool false, .slice p' L cp'] 65)
    have HGo := Bg.new w1 false (.slice p' L cp') 65
    have HW := Lib.hid (HW2.alloc (by omega) (.cells #[.bool false, .slice p' L cp'] 65))
    clear hu HW2
    generalize w1.alloc (.cells #[.bool false, .slice p' L cp'] 65) = W2 at *
    generalize w1.heap.size = o at *
    have t0 := HG0.c0
    have t20 := HG2.c0
    have t21 := HG2.c1
    have t2f := HG2.f0
    have t2g := HG2.f1
    have t30 := HGo.c0
    have t31 := HGo.c1
    have t3f := HGo.f0
    have t3g := HGo.f1
    have KG2 := Lib.hid HG2
    have KGo := Lib.hid HGo
    clear HG2 HG0 HGo G2 G0
    by_cases hL : 0 < L
    · go_wp2_with fail
      exact bodyPost_ret (v := .agg #[.bool false, .slice p' L cp']) (by simp [results, Tryz.results52, go_sem, t20, t21]) rfl ⟨.slice p' L cp', by rw [HLd.out]; simp [hL], urow_tail3 HU.out KGo.out KG2.out (by omega) _ _ _, below_tail3 HW.out (by omega) (by omega) _ _ _⟩
    · obtain rfl : L = 0 := by omega
      go_wp2_with fail
      exact bodyPost_ret (v := .agg #[.bool false, .slice p' 0 cp']) (by simp [results, Tryz.results52, go_sem, t20, t21]) rfl ⟨.slice p' 0 cp', by rw [HLd.out]; simp, urow_tail3 HU.out KGo.out KG2.out (by omega) _ _ _, below_tail3 HW.out (by omega) (by omega) _ _ _⟩
  · go_wp2_with fail
    refine HC.out.mono ?_
    rintro e w1 ⟨v, rfl, hown, hb1⟩
    rw [HZ3.out] at hown hb1
    have G2 := H2.out.below hb1 (by omega)
    have G0 := H0.out.below hb1 (by omega)
    have hu := URow.of_owns hown
    obtain ⟨p', cp', rfl, -, -⟩ := id hu
    generalize hLd : (digs (x + y)).length = L at *
    have HLd := Lib.hid hLd
    have HW2 := HB3.out.trans (hb1.mono (by omega))
    have hl2 := G2.lt
    clear hLd hown hb1 HC
    go_upto_region 3 with fail
    have HU := Lib.hid (hu.below ((Below.refl w1.heap.size w1).alloc (Nat.le_refl _) (.cells #[.bool false, .slice p' L cp'] 65)))
    have HG2 := G2.alloc (.cells #[.bool false, .slice p' L cp'] 65)
    have HG0 := G0.alloc (.cells #[.bool false, .slice p' L cp'] 65)
    have HGo := Bg.new w1 false (.slice p' L cp') 65
    have HW := Lib.hid (HW2.alloc (by omega) (.cells #[.bool false, .slice p' L cp'] 65))
    clear hu HW2
    generalize w1.alloc (.cells #[.bool false, .slice p' L cp'] 65) = W2 at *
    generalize w1.heap.size = o at *
    have t0 := HG0.c0
    have t20 := HG2.c0
    have t21 := HG2.c1
    have t2f := HG2.f0
    have t2g := HG2.f1
    have t30 := HGo.c0
    have t31 := HGo.c1
    have t3f := HGo.f0
    have t3g := HGo.f1
    have KG2 := Lib.hid HG2
    have KGo := Lib.hid HGo
    clear HG2 HG0 HGo G2 G0
    by_cases hL : 0 < L
    · go_wp2_with fail
      exact bodyPost_ret (v := .agg #[.bool true, .slice p' L cp']) (by simp [results, Tryz.results52, go_sem, t20, t21]) rfl ⟨.slice p' L cp', by rw [HLd.out]; simp [hL], urow_tail3 HU.out KGo.out KG2.out (by omega) _ _ _, below_tail3 HW.out (by omega) (by omega) _ _ _⟩
    · obtain rfl : L = 0 := by omega
      go_wp2_with fail
      exact bodyPost_ret (v := .agg #[.bool false, .slice p' 0 cp']) (by simp [results, Tryz.results52, go_sem, t20, t21]) rfl ⟨.slice p' 0 cp', by rw [HLd.out]; simp, urow_tail3 HU.out KGo.out KG2.out (by omega) _ _ _, below_tail3 HW.out (by omega) (by omega) _ _ _⟩

/-- What is held against what. -/
theorem amt_said {w : World} (m n : Bool) {va vb : Value} {x y : Nat} (ha : URow w va (digs x)) (hb : URow w vb (digs y)) (hla : (digs x).length ≤ 900) (hlb : (digs y).length ≤ 900) :
    Calls Tryz.prog 49 #[.agg #[.bool m, va], .agg #[.bool n, vb]] w fun e w' => e = .returned (.int .i64 (cmpN x y)) ∧ Below w.heap.size w w' := by
  have := amounts_any m n va vb _ _ w ha hb (by omega) (by omega)
  rwa [amt_cmp] at this
set_option maxRecDepth 100000 in
set_option maxHeartbeats 4000000 in
theorem plus_zero (m n : Bool) (hmn : (m == n) = false) (va vb : Value) (x : Nat) (w : World) (ha : URow w va (digs x)) (hb : URow w vb (digs x)) (hla : (digs x).length ≤ 900) :
    Calls Tryz.prog 52 #[.agg #[.bool m, va], .agg #[.bool n, vb]] w fun e w' => e = .returned (.agg #[.bool false, .slice none 0 0]) ∧ Below w.heap.size w w' := by
  obtain ⟨hB3, hz3, -⟩ := boxes3 w #[.bool m, va] #[.bool n, vb] #[.bool false, .slice none 0 0] 65 65 65
  have b2 := Bg.new ((w.alloc (.cells #[.bool m, va] 65)).alloc (.cells #[.bool n, vb] 65)) false (.slice none 0 0) 65
  have e2 : ((w.alloc (.cells #[.bool m, va] 65)).alloc (.cells #[.bool n, vb] 65)).heap.size = w.heap.size + 2 := by simp
  rw [e2] at b2
  have HC := Lib.hid (amt_said m n (ha.below hB3) (hb.below hB3) hla hla)
  rw [show cmpN x x = 0 by unfold cmpN; simp] at HC
  obtain ⟨pa, ca, rfl, -, -⟩ := id ha
  obtain ⟨pb, cb, rfl, -, -⟩ := id hb
  have HB3 := Lib.hid hB3
  have H2 := Lib.hid b2
  have HZ3 := Lib.hid hz3
  clear ha hb e2 b2 hB3 hz3
  go_enter Tryz.func52, Tryz.ntmps52
  go_wp2_with fail
  refine HC.out.mono ?_
  rintro e w1 ⟨rfl, hb1⟩
  rw [HZ3.out] at hb1
  have G2 := H2.out.below hb1 (by omega)
  have HW := Lib.hid (HB3.out.trans (hb1.mono (by omega)))
  have t20 := G2.c0
  have t21 := G2.c1
  have t2f := G2.f0
  have t2g := G2.f1
  clear hb1 G2 HC H2 HB3
  go_wp2_with fail
  exact bodyPost_ret (v := .agg #[.bool false, .slice none 0 0]) (by simp [results, Tryz.results52, go_sem, t20, t21]) rfl ⟨rfl, (HW.out.setCell (p := ⟨w.heap.size + 2, 0, none⟩) (Nat.le_add_right _ _) _).setCell (p := ⟨w.heap.size + 2, 1, none⟩) (Nat.le_add_right _ _) _⟩
end Go.Proofs.YtokbdleokihdaaaGreatDoor
namespace Go.Proofs.YtokbdleokihdaaaGreatDoor
open Go.RowKit

set_option maxRecDepth 100000 in
set_option maxHeartbeats 4000000 in
theorem plus_gt (m n : Bool) (hmn : (m == n) = false) (va vb : Value) (x y : Nat) (hxy : y < x) (w : World) (ha : URow w va (digs x)) (hb : URow w vb (digs y)) (hla : (digs x).length ≤ 900) (hlb : (digs y).length ≤ 900) :
    Calls Tryz.prog 52 #[.agg #[.bool m, va], .agg #[.bool n, vb]] w fun e w' => ∃ v, e = .returned (.agg #[.bool m, v]) ∧ URow w' v (digs (x - y)) ∧ Below w.heap.size w w' := by
  obtain ⟨hB3, hz3, -⟩ := boxes3 w #[.bool m, va] #[.bool n, vb] #[.bool false, .slice none 0 0] 65 65 65
  have b2 := Bg.new ((w.alloc (.cells #[.bool m, va] 65)).alloc (.cells #[.bool n, vb] 65)) false (.slice none 0 0) 65
  have b1 := (Bg.new (w.alloc (.cells #[.bool m, va] 65)) n vb 65).alloc (.cells #[.bool false, .slice none 0 0] 65)
  have b0 := ((Bg.new w m va 65).alloc (.cells #[.bool n, vb] 65)).alloc (.cells #[.bool false, .slice none 0 0] 65)
  have e2 : ((w.alloc (.cells #[.bool m, va] 65)).alloc (.cells #[.bool n, vb] 65)).heap.size = w.heap.size + 2 := by simp
  have e1 : (w.alloc (.cells #[.bool m, va] 65)).heap.size = w.heap.size + 1 := by simp
  rw [e2] at b2
  rw [e1] at b1
  have HC := Lib.hid (fun W (hW : Below w.heap.size w W) => amt_said m n (ha.below hW) (hb.below hW) hla hlb)
  rw [show cmpN x y = 1 by unfold cmpN; rw [if_neg (by omega), if_pos hxy]] at HC
  have HL := Lib.hid (fun W (hW : Below w.heap.size w W) => less_any m n va vb x y (Nat.le_of_lt hxy) W (ha.below hW) (hb.below hW) (by omega) (by omega))
  obtain ⟨pa, ca, rfl, -, -⟩ := id ha
  obtain ⟨pb, cb, rfl, -, -⟩ := id hb
  have HB3 := Lib.hid hB3
  have H2 := Lib.hid b2
  have H1 := Lib.hid b1
  have H0 := Lib.hid b0
  have HZ3 := Lib.hid hz3
  clear ha hb e2 e1 b2 b1 b0 hB3 hz3 hla hlb hxy
  go_enter Tryz.func52, Tryz.ntmps52
  go_wp2_with fail
  refine (HC.out _ HB3.out).mono ?_
  rintro e w1 ⟨rfl, hb1⟩
  rw [HZ3.out] at hb1
  replace H2 := Lib.hid (H2.out.below hb1 (by omega))
  replace H1 := Lib.hid (H1.out.below hb1 (by omega))
  replace H0 := Lib.hid (H0.out.below hb1 (by omega))
  replace HB3 := Lib.hid (HB3.out.trans (hb1.mono (by omega)))
  have s00 := H0.out.c0
  have s01 := H0.out.c1
  have s10 := H1.out.c0
  have s11 := H1.out.c1
  clear hb1
  go_wp2_with fail
  refine (HC.out _ HB3.out).mono ?_
  rintro e w2 ⟨rfl, hb1⟩
  have hlt1 := H2.out.lt
  replace H2 := Lib.hid (H2.out.below hb1 (by omega))
  replace H1 := Lib.hid (H1.out.below hb1 (by omega))
  replace H0 := Lib.hid (H0.out.below hb1 (by omega))
  replace HB3 := Lib.hid (HB3.out.trans (hb1.mono (by omega)))
  clear s00 s01 s10 s11 hb1 hlt1
  have s00 := H0.out.c0
  have s01 := H0.out.c1
  have s10 := H1.out.c0
  have s11 := H1.out.c1
  go_wp2_with fail
  refine (HL.out _ HB3.out).mono ?_
  rintro e w3 ⟨v, rfl, hv, hb1⟩
  obtain ⟨rv, rfl, hv⟩ := hv
  rw [Int.natAbs_natCast] at hv
  have hneg : decide (((x - y : Nat) : Int) < 0) = false := decide_eq_false (Int.not_lt.2 (Int.natCast_nonneg _))
  rw [hneg]
  have hlt1 := H2.out.lt
  replace H2 := Lib.hid (H2.out.below hb1 (by omega))
  replace H1 := Lib.hid (H1.out.below hb1 (by omega))
  replace H0 := Lib.hid (H0.out.below hb1 (by omega))
  replace HB3 := Lib.hid (HB3.out.trans (hb1.mono (by omega)))
  obtain ⟨p', cp', rfl, -, -⟩ := id hv
  clear s00 s01 s10 s11 hb1 hlt1 hneg HC HL
  have hl2 := H2.out.lt
  have HV := Lib.hid hv
  clear hv
  go_upto_region 9 with fail
  have HU := Lib.hid (HV.out.below ((Below.refl w3.heap.size w3).alloc (Nat.le_refl _) (.cells #[.bool false, .slice p' (digs (x - y)).length cp'] 65)))
  have KG2 := Lib.hid (H2.out.alloc (.cells #[.bool false, .slice p' (digs (x - y)).length cp'] 65))
  have KG1 := Lib.hid (H1.out.alloc (.cells #[.bool false, .slice p' (digs (x - y)).length cp'] 65))
  have KG0 := Lib.hid (H0.out.alloc (.cells #[.bool false, .slice p' (digs (x - y)).length cp'] 65))
  have KGo := Lib.hid (Bg.new w3 false (.slice p' (digs (x - y)).length cp') 65)
  have HW := Lib.hid (HB3.out.alloc (by omega) (.cells #[.bool false, .slice p' (digs (x - y)).length cp'] 65))
  clear HV H2 H1 H0 HB3
  generalize w3.alloc (.cells #[.bool false, .slice p' (digs (x - y)).length cp'] 65) = W2 at *
  generalize w3.heap.size = o at *
  have t0 := KG0.out.c0
  have t1 := KG1.out.c0
  have t20 := KG2.out.c0
  have t21 := KG2.out.c1
  have t2f := KG2.out.f0
  have t2g := KG2.out.f1
  have t30 := KGo.out.c0
  have t31 := KGo.out.c1
  have t3f := KGo.out.f0
  have t3g := KGo.out.f1
  go_wp2_with fail
  exact bodyPost_ret (v := .agg #[.bool m, .slice p' (digs (x - y)).length cp']) (by simp [results, Tryz.results52, go_sem, t20, t21]) rfl ⟨_, rfl, urow_tail3 HU.out KGo.out KG2.out (by omega) _ _ _, below_tail3 HW.out (by omega) (by omega) _ _ _⟩

set_option maxRecDepth 100000 in
set_option maxHeartbeats 4000000 in
theorem plus_lt (m n : Bool) (hmn : (m == n) = false) (va vb : Value) (x y : Nat) (hxy : x < y) (w : World) (ha : URow w va (digs x)) (hb : URow w vb (digs y)) (hla : (digs x).length ≤ 900) (hlb : (digs y).length ≤ 900) :
    Calls Tryz.prog 52 #[.agg #[.bool m, va], .agg #[.bool n, vb]] w fun e w' => ∃ v, e = .returned (.agg #[.bool n, v]) ∧ URow w' v (digs (y - x)) ∧ Below w.heap.size w w' := by
  obtain ⟨hB3, hz3, -⟩ := boxes3 w #[.bool m, va] #[.bool n, vb] #[.bool false, .slice none 0 0] 65 65 65
  have b2 := Bg.new ((w.alloc (.cells #[.bool m, va] 65)).alloc (.cells #[.bool n, vb] 65)) false (.slice none 0 0) 65
  have b1 := (Bg.new (w.alloc (.cells #[.bool m, va] 65)) n vb 65).alloc (.cells #[.bool false, .slice none 0 0] 65)
  have b0 := ((Bg.new w m va 65).alloc (.cells #[.bool n, vb] 65)).alloc (.cells #[.bool false, .slice none 0 0] 65)
  have e2 : ((w.alloc (.cells #[.bool m, va] 65)).alloc (.cells #[.bool n, vb] 65)).heap.size = w.heap.size + 2 := by simp
  have e1 : (w.alloc (.cells #[.bool m, va] 65)).heap.size = w.heap.size + 1 := by simp
  rw [e2] at b2
  rw [e1] at b1
  have HC := Lib.hid (fun W (hW : Below w.heap.size w W) => amt_said m n (ha.below hW) (hb.below hW) hla hlb)
  rw [show cmpN x y = -1 by unfold cmpN; rw [if_pos hxy]] at HC
  have HL := Lib.hid (fun W (hW : Below w.heap.size w W) => less_any n m vb va y x (Nat.le_of_lt hxy) W (hb.below hW) (ha.below hW) (by omega) (by omega))
  obtain ⟨pa, ca, rfl, -, -⟩ := id ha
  obtain ⟨pb, cb, rfl, -, -⟩ := id hb
  have HB3 := Lib.hid hB3
  have H2 := Lib.hid b2
  have H1 := Lib.hid b1
  have H0 := Lib.hid b0
  have HZ3 := Lib.hid hz3
  clear ha hb e2 e1 b2 b1 b0 hB3 hz3 hla hlb hxy
  go_enter Tryz.func52, Tryz.ntmps52
  go_wp2_with fail
  refine (HC.out _ HB3.out).mono ?_
  rintro e w1 ⟨rfl, hb1⟩
  rw [HZ3.out] at hb1
  replace H2 := Lib.hid (H2.out.below hb1 (by omega))
  replace H1 := Lib.hid (H1.out.below hb1 (by omega))
  replace H0 := Lib.hid (H0.out.below hb1 (by omega))
  replace HB3 := Lib.hid (HB3.out.trans (hb1.mono (by omega)))
  have s00 := H0.out.c0
  have s01 := H0.out.c1
  have s10 := H1.out.c0
  have s11 := H1.out.c1
  clear hb1
  go_wp2_with fail
  refine (HC.out _ HB3.out).mono ?_
  rintro e w2 ⟨rfl, hb1⟩
  have hlt1 := H2.out.lt
  replace H2 := Lib.hid (H2.out.below hb1 (by omega))
  replace H1 := Lib.hid (H1.out.below hb1 (by omega))
  replace H0 := Lib.hid (H0.out.below hb1 (by omega))
  replace HB3 := Lib.hid (HB3.out.trans (hb1.mono (by omega)))
  clear s00 s01 s10 s11 hb1 hlt1
  have s00 := H0.out.c0
  have s01 := H0.out.c1
  have s10 := H1.out.c0
  have s11 := H1.out.c1
  go_wp2_with fail
  refine (HL.out _ HB3.out).mono ?_
  rintro e w3 ⟨v, rfl, hv, hb1⟩
  obtain ⟨rv, rfl, hv⟩ := hv
  rw [Int.natAbs_natCast] at hv
  have hneg : decide (((y - x : Nat) : Int) < 0) = false := decide_eq_false (Int.not_lt.2 (Int.natCast_nonneg _))
  rw [hneg]
  have hlt1 := H2.out.lt
  replace H2 := Lib.hid (H2.out.below hb1 (by omega))
  replace H1 := Lib.hid (H1.out.below hb1 (by omega))
  replace H0 := Lib.hid (H0.out.below hb1 (by omega))
  replace HB3 := Lib.hid (HB3.out.trans (hb1.mono (by omega)))
  obtain ⟨p', cp', rfl, -, -⟩ := id hv
  clear s00 s01 s10 s11 hb1 hlt1 hneg HC HL
  have hl2 := H2.out.lt
  have HV := Lib.hid hv
  clear hv
  go_upto_region 12 with fail
  have HU := Lib.hid (HV.out.below ((Below.refl w3.heap.size w3).alloc (Nat.le_refl _) (.cells #[.bool false, .slice p' (digs (y - x)).length cp'] 65)))
  have KG2 := Lib.hid (H2.out.alloc (.cells #[.bool false, .slice p' (digs (y - x)).length cp'] 65))
  have KG1 := Lib.hid (H1.out.alloc (.cells #[.bool false, .slice p' (digs (y - x)).length cp'] 65))
  have KG0 := Lib.hid (H0.out.alloc (.cells #[.bool false, .slice p' (digs (y - x)).length cp'] 65))
  have KGo := Lib.hid (Bg.new w3 false (.slice p' (digs (y - x)).length cp') 65)
  have HW := Lib.hid (HB3.out.alloc (by omega) (.cells #[.bool false, .slice p' (digs (y - x)).length cp'] 65))
  clear HV H2 H1 H0 HB3
  generalize w3.alloc (.cells #[.bool false, .slice p' (digs (y - x)).length cp'] 65) = W2 at *
  generalize w3.heap.size = o at *
  have t0 := KG0.out.c0
  have t1 := KG1.out.c0
  have t20 := KG2.out.c0
  have t21 := KG2.out.c1
  have t2f := KG2.out.f0
  have t2g := KG2.out.f1
  have t30 := KGo.out.c0
  have t31 := KGo.out.c1
  have t3f := KGo.out.f0
  have t3g := KGo.out.f1
  go_wp2_with fail
  exact bodyPost_ret (v := .agg #[.bool n, .slice p' (digs (y - x)).length cp']) (by simp [results, Tryz.results52, go_sem, t20, t21]) rfl ⟨_, rfl, urow_tail3 HU.out KGo.out KG2.out (by omega) _ _ _, below_tail3 HW.out (by omega) (by omega) _ _ _⟩

theorem plus_v {w : World} {va vb : Value} {a b : Int} (ha : BigV w va a) (hb : BigV w vb b) (fa : Fit a) (fb : Fit b) :
    Calls Tryz.prog 52 #[va, vb] w fun e w' => ∃ v, e = .returned v ∧ BigV w' v (a + b) ∧ Below w.heap.size w w' := by
  obtain ⟨ra, rfl, ha⟩ := ha
  obtain ⟨rb, rfl, hb⟩ := hb
  have la : (digs a.natAbs).length ≤ 900 := by have := fa.len; omega
  have lb : (digs b.natAbs).length ≤ 900 := by have := fb.len; omega
  by_cases hs : decide (a < 0) = decide (b < 0)
  · rw [hs]
    refine (plus_same _ ra rb a.natAbs b.natAbs w (by exact ha) hb la lb).mono ?_
    rintro e w' ⟨v, rfl, hrow, hb⟩
    have hs' := decide_eq_decide.1 hs
    have hz : (a + b).natAbs = a.natAbs + b.natAbs := by omega
    have h1 : 0 < (digs (a.natAbs + b.natAbs)).length ↔ a.natAbs + b.natAbs ≠ 0 := by rw [Nat.pos_iff_ne_zero, Ne, digs_nil]
    have h2 : (decide (b < 0) && decide (0 < (digs (a.natAbs + b.natAbs)).length)) = decide (a + b < 0) := by
      rw [Bool.eq_iff_iff]
      simp only [Bool.and_eq_true, decide_eq_true_eq, h1]
      omega
    exact ⟨_, rfl, ⟨v, by rw [h2], by rw [hz]; exact hrow⟩, hb⟩
  · have hmn : (decide (a < 0) == decide (b < 0)) = false := by simpa using hs
    have hs' : ¬ (a < 0 ↔ b < 0) := fun h => hs (decide_eq_decide.2 h)
    rcases Nat.lt_trichotomy a.natAbs b.natAbs with h | h | h
    · refine (plus_lt _ _ hmn ra rb a.natAbs b.natAbs h w ha hb la lb).mono ?_
      rintro e w' ⟨v, rfl, hrow, hb⟩
      have hz : (a + b).natAbs = b.natAbs - a.natAbs := by omega
      have h2 : decide (b < 0) = decide (a + b < 0) := decide_eq_decide.2 (by omega)
      exact ⟨_, rfl, ⟨v, by rw [h2], by rw [hz]; exact hrow⟩, hb⟩
    · rw [← h] at hb
      refine (plus_zero _ _ hmn ra rb a.natAbs w ha hb la).mono ?_
      rintro e w' ⟨rfl, hb⟩
      have hz : a + b = 0 := by omega
      rw [hz]
      exact ⟨_, rfl, ⟨.slice none 0 0, by simp, ⟨none, 0, by simp [digs_zero], by simp [digs_zero], .inl (by simp [digs_zero])⟩⟩, hb⟩
    · refine (plus_gt _ _ hmn ra rb a.natAbs b.natAbs h w ha hb la lb).mono ?_
      rintro e w' ⟨v, rfl, hrow, hb⟩
      have hz : (a + b).natAbs = a.natAbs - b.natAbs := by omega
      have h2 : decide (a < 0) = decide (a + b < 0) := decide_eq_decide.2 (by omega)
      exact ⟨_, rfl, ⟨v, by rw [h2], by rw [hz]; exact hrow⟩, hb⟩
end Go.Proofs.YtokbdleokihdaaaGreatDoor
namespace Go.Proofs.YtokbdleokihdaaaGreatDoor
open Go.RowKit

theorem val_drop {l : List Nat} {k : Nat} (h : k < l.length) : val (l.drop k) = l.getD k 0 + 1000000 * val (l.drop (k + 1)) := by
  rw [List.drop_eq_getElem_cons h, val]
  simp [List.getD_eq_getElem?_getD, h]
theorem val_drop_le (l : List Nat) (k : Nat) : val (l.drop k) ≤ val l := by
  have h : val l = val (l.take k ++ l.drop k) := by rw [List.take_append_drop]
  rw [h, val_append]
  have h1 : 1 * val (l.drop k) ≤ 1000000 ^ (l.take k).length * val (l.drop k) := Nat.mul_le_mul_right _ (pow_pos' _)
  omega

theorem ret_pair {k : IntKind} {a b : Int} {c d : Bool} (h : a = b) (h' : c = d) : Ending.returned (Value.tuple #[Value.int k a, .bool c]) = .returned (Value.tuple #[Value.int k b, .bool d]) := by rw [h, h']

set_option maxRecDepth 100000 in
set_option maxHeartbeats 4000000 in
theorem fits_pos (z : Nat) (va : Value) (w : World) (ha : URow w va (digs z)) (hf : Fit (z : Int)) :
    Calls Tryz.prog 36 #[.agg #[.bool false, va]] w fun e w' => e = .returned (.tuple #[.int .i64 (if z ≤ 9223372036854775807 then (z : Int) else 0), .bool (decide (z ≤ 9223372036854775807))]) ∧ Below w.heap.size w w' := by
  obtain ⟨hB, hz, -⟩ := boxes1 w #[.bool false, va] 65
  have b0 := Bg.new w false va 65
  have hbig : BigV w (.agg #[.bool false, va]) (z : Int) := ⟨va, by simp, by simpa using ha⟩
  have HV := Lib.hid hbig
  have hlen : (digs z).length ≤ 700 := by have := hf.len; simpa using this
  have HF := Lib.hid hf
  obtain ⟨pa, ca, rfl, -, ha'⟩ := id ha
  have HA := Lib.hid ha'
  have HB := Lib.hid hB
  have H0 := Lib.hid b0
  have HZ := Lib.hid hz
  generalize hna : (digs z).length = na at *
  have HNA := Lib.hid hna
  clear ha ha' hB b0 hz hbig hf hna
  go_enter Tryz.func36, Tryz.ntmps36
  go_wp2_with fail
  refine (of_v 9223372036854775807 (by omega) (by omega) _).mono ?_
  rintro e w1 ⟨v1, rfl, hv1, hb1⟩
  rw [HZ.out] at hb1
  replace H0 := Lib.hid (H0.out.below hb1 (by omega))
  replace HB := Lib.hid (HB.out.trans (hb1.mono (by omega)))
  have hl1 := H0.out.lt
  clear hb1
  obtain ⟨p1, c1, rfl⟩ := hv1.form
  have hneg : decide ((9223372036854775807 : Int) < 0) = false := by decide
  rw [hneg] at hv1 ⊢
  clear hneg
  generalize hL1 : (digs (9223372036854775807 : Int).natAbs).length = L1 at *
  clear hL1
  go_upto_region 2 with fail
  replace H0 := Lib.hid (H0.out.alloc (.cells #[.bool false, .slice p1 L1 c1] 65))
  have HM := Lib.hid (Bg.new w1 false (.slice p1 L1 c1) 65)
  have HV1 := Lib.hid (hv1.below ((Below.refl w1.heap.size w1).alloc (Nat.le_refl _) (.cells #[.bool false, .slice p1 L1 c1] 65)))
  replace HB := Lib.hid (HB.out.alloc (by omega) (.cells #[.bool false, .slice p1 L1 c1] 65))
  clear hv1
  generalize w1.alloc (.cells #[.bool false, .slice p1 L1 c1] 65) = W2 at *
  generalize w1.heap.size = o at *
  have s0 := H0.out.c0
  have s1 := H0.out.c1
  have m0 := HM.out.c0
  have m1 := HM.out.c1
  by_cases hle : z ≤ 9223372036854775807
  · have HLe := Lib.hid hle
    have HC : Hid (Calls Tryz.prog 49 #[.agg #[.bool false, .slice pa na ca], .agg #[.bool false, .slice p1 L1 c1]] W2 fun e w' => e = .returned (.int .i64 (cmpN z 9223372036854775807)) ∧ Below W2.heap.size W2 w') := amounts_v (HV.out.below HB.out) HV1.out HF.out (fit64 (by omega) (by omega))
    have hc : cmpN z 9223372036854775807 = -1 ∨ cmpN z 9223372036854775807 = 0 := by unfold cmpN; by_cases h : z < 9223372036854775807 <;> simp [h]; omega
    have hcd : ¬ (0 : Int) < cmpN z 9223372036854775807 := by omega
    generalize cmpN z 9223372036854775807 = cc at *
    clear hc
    go_wp2_with fail
    refine HC.out.mono ?_
    rintro e w3 ⟨rfl, hb1⟩
    have hz2 := H0.out.lt
    replace H0 := Lib.hid (H0.out.below hb1 (by omega))
    replace HB := Lib.hid (HB.out.trans (hb1.mono (by omega)))
    clear hb1 HC s0 s1 m0 m1 HM HV1
    have s0 := H0.out.c0
    have s1 := H0.out.c1
    go_wp2_with fail
    go_loopw [5, 6] (fun n i wr => ∃ (m k : Nat), k ≤ na ∧ n = .int .u64 (m : Int) ∧ i = .int .i64 ((k : Int) - 1) ∧ m = val ((digs z).drop k) ∧ wr = w3) (fun _ i _ => (intOf i + 1).toNat)
    case atStart => exact ⟨0, na, Nat.le_refl _, rfl, by go_num, by rw [← HNA.out, List.drop_length]; rfl, rfl⟩
    case round =>
      obtain ⟨m, k, hk, rfl, rfl, hm, rfl⟩ := hrel
      have hmz : m ≤ z := by have := val_drop_le (digs z) k; rw [val_digs] at this; omega
      cases k with
      | zero =>
        have hE : m = z := by rw [hm, List.drop_zero, val_digs]
        subst hE
        clear hm
        go_wp2_with fail
        go_ret2
        exact ⟨ret_pair rfl rfl, HB.out⟩
      | succ k =>
        rw [show (((k + 1 : Nat) : Int) - 1) = (k : Int) by omega]
        obtain ⟨ga, rfl, kx⟩ := URow.at HA.out HB.out (show k < na by omega) HNA.out
        have hd := val_drop (l := digs z) (k := k) (by rw [HNA.out]; omega)
        have hle2 := val_drop_le (digs z) k
        rw [val_digs] at hle2
        rw [← hm] at hd
        obtain ⟨m', hm'⟩ : ∃ m', m' = val ((digs z).drop k) := ⟨_, rfl⟩
        have HM2 := Lib.hid hm'
        rw [← hm'] at hd hle2
        generalize (digs z).getD k 0 = d at *
        obtain ⟨t, ht⟩ : ∃ t, t = m * 1000000 := ⟨_, rfl⟩
        have et : (m : Int) * 1000000 = (t : Int) := by omega
        have em : (t : Int) + (d : Int) = (m' : Int) := by omega
        have htl : t ≤ 9223372036854775807 := by omega
        have hml : m' ≤ 9223372036854775807 := by omega
        have hkn : k < na := by omega
        clear hm hm' ht hd
        go_wp2_with fail
        go_roundw
        case rel => exact ⟨m', k, by omega, by go_num, by go_num, HM2.out, trivial⟩
        case measure => simp [intOf]
  · have HLe := Lib.hid hle
    have HC : Hid (Calls Tryz.prog 49 #[.agg #[.bool false, .slice pa na ca], .agg #[.bool false, .slice p1 L1 c1]] W2 fun e w' => e = .returned (.int .i64 1) ∧ Below W2.heap.size W2 w') := by
      have : Calls Tryz.prog 49 #[.agg #[.bool false, .slice pa na ca], .agg #[.bool false, .slice p1 L1 c1]] W2 fun e w' => e = .returned (.int .i64 (cmpN z 9223372036854775807)) ∧ Below W2.heap.size W2 w' := amounts_v (HV.out.below HB.out) HV1.out HF.out (fit64 (by omega) (by omega))
      rwa [show cmpN z 9223372036854775807 = 1 by unfold cmpN; rw [if_neg (by omega), if_pos (by omega)]] at this
    go_wp2_with fail
    refine HC.out.mono ?_
    rintro e w3 ⟨rfl, hb1⟩
    have hz2 := H0.out.lt
    replace HB := Lib.hid (HB.out.trans (hb1.mono (by omega)))
    clear hb1 HC
    go_wp2_with fail
    go_ret2
    exact ⟨ret_pair rfl rfl, HB.out⟩
end Go.Proofs.YtokbdleokihdaaaGreatDoor
namespace Go.Proofs.YtokbdleokihdaaaGreatDoor
open Go.RowKit

theorem row_two {w : World} {v : Value} {ds : List Nat} {b : Nat} {n : Bool} {y : Value} (h : URow w v ds) (hb : Bg w b n y) (f3 : Bool) (v2 : Value) :
    URow ((w.setCell ⟨b, 0, none⟩ (.bool f3)).setCell ⟨b, 1, none⟩ v2) v ds := (h.set hb 0 _).set (hb.set0 f3) 1 v2

set_option maxRecDepth 100000 in
set_option maxHeartbeats 4000000 in
theorem number_v (k i : Int) (s : ByteArray) (h0 : -9223372036854775808 ≤ i) (h1 : i ≤ 9223372036854775807) (w : World) :
    Calls Tryz.prog 35 #[.agg #[.int .i64 k, .int .i64 i, .string s]] w fun e w' => ∃ v, e = .returned v ∧ BigV w' v (if k = 2 then i * 10000 else i) ∧ Below w.heap.size w w' := by
  obtain ⟨hB, hz, X1, -⟩ := boxes2 w #[.int .i64 k, .int .i64 i, .string s] #[.bool false, .slice none 0 0] 27 65
  have b2 := Bg.new (w.alloc (.cells #[.int .i64 k, .int .i64 i, .string s] 27)) false (.slice none 0 0) 65
  have e1 : (w.alloc (.cells #[.int .i64 k, .int .i64 i, .string s] 27)).heap.size = w.heap.size + 1 := by simp
  rw [e1] at b2
  have HB := Lib.hid hB
  have H2 := Lib.hid b2
  have HZ := Lib.hid hz
  clear hB b2 e1 hz X1
  go_enter Tryz.func35, Tryz.ntmps35
  by_cases hk : k = 2
  · subst hk
    rw [if_pos rfl]
    go_wp2_with fail
    refine (of_v i h0 h1 _).mono ?_
    rintro e w1 ⟨v1, rfl, hv1, hb1⟩
    rw [HZ.out] at hb1
    replace H2 := Lib.hid (H2.out.below hb1 (by omega))
    replace HB := Lib.hid (HB.out.trans (hb1.mono (by omega)))
    have hl1 := H2.out.lt
    clear hb1
    go_wp2_with fail
    refine (of_v 10000 (by omega) (by omega) _).mono ?_
    rintro e w2 ⟨v2, rfl, hv2, hb1⟩
    replace hv1 := hv1.below hb1
    replace H2 := Lib.hid (H2.out.below hb1 (by omega))
    replace HB := Lib.hid (HB.out.trans (hb1.mono (by omega)))
    have hl2 := H2.out.lt
    clear hb1
    go_wp2_with fail
    refine (times_v hv1 hv2 (fit64 h0 h1) (fit64 (by omega) (by omega))).mono ?_
    rintro e w3 ⟨v3, rfl, hv3, hb1⟩
    replace H2 := Lib.hid (H2.out.below hb1 (by omega))
    replace HB := Lib.hid (HB.out.trans (hb1.mono (by omega)))
    clear hb1 hv1 hv2
    obtain ⟨rv, rfl, hrow⟩ := hv3
    obtain ⟨p', cp', rfl, -, -⟩ := id hrow
    have HV := Lib.hid hrow
    have t20 := H2.out.c0
    have t21 := H2.out.c1
    have t2f := H2.out.f0
    have t2g := H2.out.f1
    clear hrow
    go_wp2_with fail
    exact bodyPost_ret (v := .agg #[.bool (decide (i * 10000 < 0)), .slice p' (digs (i * 10000).natAbs).length cp']) (by simp [results, Tryz.results35, go_sem, t20, t21]) rfl ⟨_, rfl, ⟨_, rfl, row_two HV.out H2.out _ _⟩, (HB.out.setCell (p := ⟨w.heap.size + 1, 0, none⟩) (Nat.le_succ _) _).setCell (p := ⟨w.heap.size + 1, 1, none⟩) (Nat.le_succ _) _⟩
  · rw [if_neg hk]
    go_wp2_with fail
    refine (of_v i h0 h1 _).mono ?_
    rintro e w1 ⟨v1, rfl, hv1, hb1⟩
    rw [HZ.out] at hb1
    replace H2 := Lib.hid (H2.out.below hb1 (by omega))
    replace HB := Lib.hid (HB.out.trans (hb1.mono (by omega)))
    clear hb1
    obtain ⟨rv, rfl, hrow⟩ := hv1
    obtain ⟨p', cp', rfl, -, -⟩ := id hrow
    have HV := Lib.hid hrow
    have t20 := H2.out.c0
    have t21 := H2.out.c1
    have t2f := H2.out.f0
    have t2g := H2.out.f1
    clear hrow
    go_wp2_with fail
    exact bodyPost_ret (v := .agg #[.bool (decide (i < 0)), .slice p' (digs (i).natAbs).length cp']) (by simp [results, Tryz.results35, go_sem, t20, t21]) rfl ⟨_, rfl, ⟨_, rfl, row_two HV.out H2.out _ _⟩, (HB.out.setCell (p := ⟨w.heap.size + 1, 0, none⟩) (Nat.le_succ _) _).setCell (p := ⟨w.heap.size + 1, 1, none⟩) (Nat.le_succ _) _⟩
end Go.Proofs.YtokbdleokihdaaaGreatDoor

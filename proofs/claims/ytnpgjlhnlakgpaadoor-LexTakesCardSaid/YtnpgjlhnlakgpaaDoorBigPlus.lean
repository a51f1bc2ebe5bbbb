/- The document's Plus: a sum of whole numbers; Times, added, less said of whole numbers. -/
import Derived.Test.YtnpgjlhnlakgpaaDoorG09
import Derived.Test.YtnpgjlhnlakgpaaDoorBigLess
import Derived.Test.YtnpgjlhnlakgpaaDoorBigMul
import Derived.Deep.Cut
namespace Go.Proofs.YtnpgjlhnlakgpaaDoor
open Go.RowKit

theorem natAbs_len {z : Int} {k : Nat} (h : z.natAbs < 1000000 ^ k) : (digs z.natAbs).length ≤ k := digs_len h
theorem times_v {w : World} {va vb : Value} {a b : Int} (ha : BigV w va a) (hb : BigV w vb b) (fa : Fit a) (fb : Fit b) :
    Calls Tryd.prog 120 #[va, vb] w fun e w' => ∃ v, e = .returned v ∧ BigV w' v (a * b) ∧ Below w.heap.size w w' := by
  obtain ⟨ra, rfl, ha⟩ := ha
  obtain ⟨rb, rfl, hb⟩ := hb
  refine (bigtimes_any _ _ ra rb a.natAbs b.natAbs w ha hb (by have := fa.len; omega) (by have := fb.len; omega)).mono ?_
  rintro e w' ⟨v, rfl, hrow, hb⟩
  refine ⟨_, rfl, ⟨v, ?_, by rw [Int.natAbs_mul]; exact hrow⟩, hb⟩
  have h1 : 0 < (digs (a.natAbs * b.natAbs)).length ↔ a.natAbs * b.natAbs ≠ 0 := by rw [Nat.pos_iff_ne_zero, Ne, digs_nil]
  have h2 : ((decide (a < 0) != decide (b < 0)) && decide (0 < (digs (a.natAbs * b.natAbs)).length)) = decide (a * b < 0) := by
    rw [Bool.eq_iff_iff]
    simp only [Bool.and_eq_true, bne_iff_ne, ne_eq, decide_eq_true_eq, h1, Nat.mul_eq_zero, not_or, decide_eq_decide]
    rcases Int.lt_trichotomy a 0 with ha | rfl | ha
    · rcases Int.lt_trichotomy b 0 with hb | rfl | hb
      · have := Int.mul_pos_of_neg_of_neg ha hb
        omega
      · simp
      · have := Int.mul_neg_of_neg_of_pos ha hb
        omega
    · simp
    · rcases Int.lt_trichotomy b 0 with hb | rfl | hb
      · have := Int.mul_neg_of_pos_of_neg ha hb
        omega
      · simp
      · have := Int.mul_pos ha hb
        omega
  rw [h2]

theorem urow_tail3 {w : World} {v : Value} {ds : List Nat} {a b : Nat} {m n : Bool} {x y : Value} (h : URow w v ds) (ha : Bg w a m x) (hb : Bg w b n y) (hne : a ≠ b) (f1 f3 : Bool) (v2 : Value) :
    URow (((w.setCell ⟨a, 0, none⟩ (.bool f1)).setCell ⟨b, 0, none⟩ (.bool f3)).setCell ⟨b, 1, none⟩ v2) v ds :=
  ((h.set ha 0 _).set (hb.set (by exact hne) _) 0 _).set ((hb.set (by exact hne) _).set0 f3) 1 v2
theorem below_tail3 {B : Nat} {w0 w : World} {a b : Nat} (h : Below B w0 w) (ha : B ≤ a) (hb : B ≤ b) (f1 f3 : Bool) (v2 : Value) :
    Below B w0 (((w.setCell ⟨a, 0, none⟩ (.bool f1)).setCell ⟨b, 0, none⟩ (.bool f3)).setCell ⟨b, 1, none⟩ v2) :=
  ((h.setCell (p := ⟨a, 0, none⟩) ha _).setCell (p := ⟨b, 0, none⟩) hb _).setCell (p := ⟨b, 1, none⟩) hb _

set_option maxRecDepth 100000 in
set_option maxHeartbeats 4000000 in
theorem plus_same (m : Bool) (va vb : Value) (x y : Nat) (w : World) (ha : URow w va (digs x)) (hb : URow w vb (digs y)) (hla : (digs x).length ≤ 900) (hlb : (digs y).length ≤ 900) :
    Calls Tryd.prog 119 #[.agg #[.bool m, va], .agg #[.bool m, vb]] w fun e w' => ∃ v, e = .returned (.agg #[.bool (m && decide (0 < (digs (x + y)).length)), v]) ∧ URow w' v (digs (x + y)) ∧ Below w.heap.size w w' := by
  obtain ⟨hB3, hz3, -⟩ := boxes3 w #[.bool m, va] #[.bool m, vb] #[.bool false, .slice none 0 0] 149 149 149
  have b2 := Bg.new ((w.alloc (.cells #[.bool m, va] 149)).alloc (.cells #[.bool m, vb] 149)) false (.slice none 0 0) 149
  have b0 := ((Bg.new w m va 149).alloc (.cells #[.bool m, vb] 149)).alloc (.cells #[.bool false, .slice none 0 0] 149)
  have e2 : ((w.alloc (.cells #[.bool m, va] 149)).alloc (.cells #[.bool m, vb] 149)).heap.size = w.heap.size + 2 := by simp
  rw [e2] at b2
  have HC := Lib.hid (added_any m m va vb x y _ (ha.below hB3) (hb.below hB3) (by omega) (by omega))
  obtain ⟨pa, ca, rfl, -, -⟩ := id ha
  obtain ⟨pb, cb, rfl, -, -⟩ := id hb
  have HB3 := Lib.hid hB3
  have H2 := Lib.hid b2
  have H0 := Lib.hid b0
  have HZ3 := Lib.hid hz3
  clear ha hb e2 b2 b0 hB3 hz3
  go_enter Tryd.func119, Tryd.ntmps119
  rcases m with _ | _
  · go_wp2_with fail
    refine HC.out.mono ?_
    rintro e w1 ⟨v, rfl, hown, hb1⟩
    rw [HZ3.out] at hown hb1
    have G2 := H2.out.below hb1 (by omega)
    have G0 := H0.out.below hb1 (by omega)
    have hu := URow.of_owns hown
    obtain ⟨p', cp', rfl, -, -⟩ := id hu
    generalize hLd : (digs (x + y)).length = L at *
    have HLd := Lib.hid hLd
    have HW2 := HB3.out.trans (hb1.mono (by omega))
    have hl2 := G2.lt
    clear hLd hown hb1 HC
    go_upto_region 3 with fail
    have HU := Lib.hid (hu.below ((Below.refl w1.heap.size w1).alloc (Nat.le_refl _) (.cells #[.bool false, .slice p' L cp'] 149)))
    have HG2 := G2.alloc (.cells #[.bool false, .slice p' L cp'] 149)
    have HG0 := G0.alloc (.cells #[.bool false, .slice p' L cp'] 149)
    have HGo := Bg.new w1 false (.slice p' L cp') 149
    have HW := Lib.hid (HW2.alloc (by omega) (.cells #[.bool false, .slice p' L cp'] 149))
    clear hu HW2
    generalize w1.alloc (.cells #[.bool false, .slice p' L cp'] 149) = W2 at *
    generalize w1.heap.size = o at *
    have t0 := HG0.c0
    have t20 := HG2.c0
    have t21 := HG2.c1
    have t2f := HG2.f0
    have t2g := HG2.f1
    have t30 := HGo.c0
    have t31 := HGo.c1
    have t3f := HGo.f0
    have t3g := HGo.f1
    have KG2 := Lib.hid HG2
    have KGo := Lib.hid HGo
    clear HG2 HG0 HGo G2 G0
    by_cases hL : 0 < L
    · go_wp2_with fail
      exact bodyPost_ret (v := .agg #[.bool false, .slice p' L cp']) (by simp [results, Tryd.results119, go_sem, t20, t21]) rfl ⟨.slice p' L cp', by rw [HLd.out]; simp [hL], urow_tail3 HU.out KGo.out KG2.out (by omega) _ _ _, below_tail3 HW.out (by omega) (by omega) _ _ _⟩
    · obtain rfl : L = 0 := by omega
      go_wp2_with fail
      exact bodyPost_ret (v := .agg #[.bool false, .slice p' 0 cp']) (by simp [results, Tryd.results119, go_sem, t20, t21]) rfl ⟨.slice p' 0 cp', by rw [HLd.out]; simp, urow_tail3 HU.out KGo.out KG2.out (by omega) _ _ _, below_tail3 HW.out (by omega) (by omega) _ _ _⟩
  · go_wp2_with fail
    refine HC.out.mono ?_
    rintro e w1 ⟨v, rfl, hown, hb1⟩
    rw [HZ3.out] at hown hb1
    have G2 := H2.out.below hb1 (by omega)
    have G0 := H0.out.below hb1 (by omega)
    have hu := URow.of_owns hown
    obtain ⟨p', cp', rfl, -, -⟩ := id hu
    generalize hLd : (digs (x + y)).length = L at *
    have HLd := Lib.hid hLd
    have HW2 := HB3.out.trans (hb1.mono (by omega))
    have hl2 := G2.lt
    clear hLd hown hb1 HC
    go_upto_region 3 with fail
    have HU := Lib.hid (hu.below ((Below.refl w1.heap.size w1).alloc (Nat.le_refl _) (.cells #[.bool false, .slice p' L cp'] 149)))
    have HG2 := G2.alloc (.cells #[.bool false, .slice p' L cp'] 149)
    have HG0 := G0.alloc (.cells #[.bool false, .slice p' L cp'] 149)
    have HGo := Bg.new w1 false (.slice p' L cp') 149
    have HW := Lib.hid (HW2.alloc (by omega) (.cells #[.bool false, .slice p' L cp'] 149))
    clear hu HW2
    generalize w1.alloc (.cells #[.bool false, .slice p' L cp'] 149) = W2 at *
    generalize w1.heap.size = o at *
    have t0 := HG0.c0
    have t20 := HG2.c0
    have t21 := HG2.c1
    have t2f := HG2.f0
    have t2g := HG2.f1
    have t30 := HGo.c0
    have t31 := HGo.c1
    have t3f := HGo.f0
    have t3g := HGo.f1
    have KG2 := Lib.hid HG2
    have KGo := Lib.hid HGo
    clear HG2 HG0 HGo G2 G0
    by_cases hL : 0 < L
    · go_wp2_with fail
      exact bodyPost_ret (v := .agg #[.bool true, .slice p' L cp']) (by simp [results, Tryd.results119, go_sem, t20, t21]) rfl ⟨.slice p' L cp', by rw [HLd.out]; simp [hL], urow_tail3 HU.out KGo.out KG2.out (by omega) _ _ _, below_tail3 HW.out (by omega) (by omega) _ _ _⟩
    · obtain rfl : L = 0 := by omega
      go_wp2_with fail
      exact bodyPost_ret (v := .agg #[.bool false, .slice p' 0 cp']) (by simp [results, Tryd.results119, go_sem, t20, t21]) rfl ⟨.slice p' 0 cp', by rw [HLd.out]; simp, urow_tail3 HU.out KGo.out KG2.out (by omega) _ _ _, below_tail3 HW.out (by omega) (by omega) _ _ _⟩

/-- What is held against what. -/
theorem amt_said {w : World} (m n : Bool) {va vb : Value} {x y : Nat} (ha : URow w va (digs x)) (hb : URow w vb (digs y)) (hla : (digs x).length ≤ 900) (hlb : (digs y).length ≤ 900) :
    Calls Tryd.prog 141 #[.agg #[.bool m, va], .agg #[.bool n, vb]] w fun e w' => e = .returned (.int .i64 (cmpN x y)) ∧ Below w.heap.size w w' := by
  have := amounts_any m n va vb _ _ w ha hb (by omega) (by omega)
  rwa [amt_cmp] at this
set_option maxRecDepth 100000 in
set_option maxHeartbeats 4000000 in
theorem plus_zero (m n : Bool) (hmn : (m == n) = false) (va vb : Value) (x : Nat) (w : World) (ha : URow w va (digs x)) (hb : URow w vb (digs x)) (hla : (digs x).length ≤ 900) :
    Calls Tryd.prog 119 #[.agg #[.bool m, va], .agg #[.bool n, vb]] w fun e w' => e = .returned (.agg #[.bool false, .slice none 0 0]) ∧ Below w.heap.size w w' := by
  obtain ⟨hB3, hz3, -⟩ := boxes3 w #[.bool m, va] #[.bool n, vb] #[.bool false, .slice none 0 0] 149 149 149
  have b2 := Bg.new ((w.alloc (.cells #[.bool m, va] 149)).alloc (.cells #[.bool n, vb] 149)) false (.slice none 0 0) 149
  have e2 : ((w.alloc (.cells #[.bool m, va] 149)).alloc (.cells #[.bool n, vb] 149)).heap.size = w.heap.size + 2 := by simp
  rw [e2] at b2
  have HC := Lib.hid (amt_said m n (ha.below hB3) (hb.below hB3) hla hla)
  rw [show cmpN x x = 0 by unfold cmpN; simp] at HC
  obtain ⟨pa, ca, rfl, -, -⟩ := id ha
  obtain ⟨pb, cb, rfl, -, -⟩ := id hb
  have HB3 := Lib.hid hB3
  have H2 := Lib.hid b2
  have HZ3 := Lib.hid hz3
  clear ha hb e2 b2 hB3 hz3
  go_enter Tryd.func119, Tryd.ntmps119
  go_wp2_with fail
  refine HC.out.mono ?_
  rintro e w1 ⟨rfl, hb1⟩
  rw [HZ3.out] at hb1
  have G2 := H2.out.below hb1 (by omega)
  have HW := Lib.hid (HB3.out.trans (hb1.mono (by omega)))
  have t20 := G2.c0
  have t21 := G2.c1
  have t2f := G2.f0
  have t2g := G2.f1
  clear hb1 G2 HC H2 HB3
  go_wp2_with fail
  exact bodyPost_ret (v := .agg #[.bool false, .slice none 0 0]) (by simp [results, Tryd.results119, go_sem, t20, t21]) rfl ⟨rfl, (HW.out.setCell (p := ⟨w.heap.size + 2, 0, none⟩) (Nat.le_add_right _ _) _).setCell (p := ⟨w.heap.size + 2, 1, none⟩) (Nat.le_add_right _ _) _⟩
end Go.Proofs.YtnpgjlhnlakgpaaDoor

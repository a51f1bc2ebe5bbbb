/- The document's Over: a quotient towards 0, bit by bit. -/
import Derived.Test.YtidejjjedpdbeaaDoorG12
import Derived.Test.YtidejjjedpdbeaaDoorG15
import Derived.Test.YtidejjjedpdbeaaDoorBigTwoA
import Derived.Laws.Bits64b
import Derived.Deep.RegionHeld3
import Derived.Deep.DeepCutAuto
namespace Go.Proofs.YtidejjjedpdbeaaDoor
open Go.RowKit

/-- The boxes of Over: both arguments, x, y. -/
structure OvW (w wr : World) (ma : Bool) (va : Value) (mb : Bool) (vb : Value) : Prop where
  b0 : Bg wr w.heap.size ma va
  b1 : Bg wr (w.heap.size + 1) mb vb
  b2 : Bg wr (w.heap.size + 2) false va
  b3 : Bg wr (w.heap.size + 3) false vb
  below : Below w.heap.size w wr
theorem OvW.next {w w1 w2 : World} {ma : Bool} {va : Value} {mb : Bool} {vb : Value} (h : OvW w w1 ma va mb vb) (hb : Below w1.heap.size w1 w2) : OvW w w2 ma va mb vb :=
  ⟨h.b0.below hb h.b0.lt, h.b1.below hb h.b1.lt, h.b2.below hb h.b2.lt, h.b3.below hb h.b3.lt, h.below.trans (hb.mono h.below.size)⟩
theorem OvW.set {w w1 : World} {ma : Bool} {va : Value} {mb : Bool} {vb : Value} (h : OvW w w1 ma va mb vb) {o : Nat} (ho : w.heap.size + 4 ≤ o) {i : Nat} (x : Value) : OvW w (w1.setCell ⟨o, i, none⟩ x) ma va mb vb :=
  ⟨h.b0.set (by show o ≠ _; omega) x, h.b1.set (by show o ≠ _; omega) x, h.b2.set (by show o ≠ _; omega) x, h.b3.set (by show o ≠ _; omega) x, h.below.setCell (p := ⟨o, i, none⟩) (by show w.heap.size ≤ o; omega) x⟩
theorem OvW.new (w : World) (ma : Bool) (va : Value) (mb : Bool) (vb : Value) :
    OvW w ((((w.alloc (.cells #[.bool ma, va] 76)).alloc (.cells #[.bool mb, vb] 76)).alloc (.cells #[.bool false, va] 76)).alloc (.cells #[.bool false, vb] 76)) ma va mb vb := by
  obtain ⟨hB3, hz3, -⟩ := boxes3 w #[.bool ma, va] #[.bool mb, vb] #[.bool false, va] 76 76 76
  have b0 := (((Bg.new w ma va 76).alloc (.cells #[.bool mb, vb] 76)).alloc (.cells #[.bool false, va] 76)).alloc (.cells #[.bool false, vb] 76)
  have b1 := ((Bg.new (w.alloc (.cells #[.bool ma, va] 76)) mb vb 76).alloc (.cells #[.bool false, va] 76)).alloc (.cells #[.bool false, vb] 76)
  have b2 := (Bg.new ((w.alloc (.cells #[.bool ma, va] 76)).alloc (.cells #[.bool mb, vb] 76)) false va 76).alloc (.cells #[.bool false, vb] 76)
  have b3 := Bg.new (((w.alloc (.cells #[.bool ma, va] 76)).alloc (.cells #[.bool mb, vb] 76)).alloc (.cells #[.bool false, va] 76)) false vb 76
  rw [hz3] at b3
  have e2 : ((w.alloc (.cells #[.bool ma, va] 76)).alloc (.cells #[.bool mb, vb] 76)).heap.size = w.heap.size + 2 := by simp
  have e1 : (w.alloc (.cells #[.bool ma, va] 76)).heap.size = w.heap.size + 1 := by simp
  rw [e2] at b2
  rw [e1] at b1
  exact ⟨b0, b1, b2, b3, hB3.alloc (by omega) _⟩

theorem BigV.formN {w : World} {v : Value} {z : Int} (h : BigV w v z) (h0 : 0 ≤ z) : ∃ p n c, v = .agg #[.bool false, .slice p n c] := by
  obtain ⟨p, c, rfl⟩ := h.form
  exact ⟨p, _, c, by rw [decide_eq_false (by omega)]⟩
theorem BigV.later {w w' : World} {v : Value} {z : Int} {x : Obj} (h : BigV w v z) (hb : Below (w.alloc x).heap.size (w.alloc x) w') : BigV w' v z :=
  (h.below ((Below.refl w.heap.size w).alloc (Nat.le_refl _) x)).below hb
theorem BigV.alloc {w : World} {v : Value} {z : Int} (h : BigV w v z) (x : Obj) : BigV (w.alloc x) v z := h.below ((Below.refl w.heap.size w).alloc (Nat.le_refl _) x)
theorem BigV.row {w : World} {m : Bool} {rv : Value} {z : Nat} (h : BigV w (.agg #[.bool m, rv]) (z : Int)) : URow w rv (digs z) := by
  obtain ⟨rv', h1, h2⟩ := h
  cases h1
  simpa using h2
theorem Bg.after {w1 w2 : World} {m : Bool} {v : Value} {t : TypeId} (hb : Below (w1.alloc (.cells #[.bool m, v] t)).heap.size (w1.alloc (.cells #[.bool m, v] t)) w2) : Bg w2 w1.heap.size m v :=
  (Bg.new w1 m v t).below hb (by simp)
theorem Bg.afterD {w1 w2 : World} {m : Bool} {v : Value} {t : TypeId} (hb : Below (w1.alloc (.cells #[.bool m, v] t)).drew.heap.size (w1.alloc (.cells #[.bool m, v] t)).drew w2) : Bg w2 w1.heap.size m v :=
  (Bg.new w1 m v t).drew.below hb (by simp)
theorem Bg.next {w w' : World} {b : Nat} {m : Bool} {v : Value} (h : Bg w b m v) (hb : Below w.heap.size w w') : Bg w' b m v := h.below hb h.lt
theorem mul_lt {m y : Nat} (hm : m < 1000000 ^ 4) (hy : y < 1000000 ^ 50) : m * y < 1000000 ^ 54 := by
  have h1 : m * y ≤ 1000000 ^ 4 * y := Nat.mul_le_mul_right _ (by omega)
  have h2 : 1000000 ^ 4 * y < 1000000 ^ 4 * 1000000 ^ 50 := Nat.mul_lt_mul_of_pos_left hy (by decide)
  rw [← Nat.pow_add] at h2
  omega
theorem len_mul {m y : Nat} (hm : m < 1000000 ^ 4) (hy : y < 1000000 ^ 50) : (digs (m * y)).length ≤ 54 := digs_len (mul_lt hm hy)
theorem small4 {m : Nat} (h : m < 18446744073709551616) : m < 1000000 ^ 4 := Nat.lt_trans h (by decide)
theorem cmp_le {a b : Nat} (h : a ≤ b) : cmpN a b ≤ 0 := by unfold cmpN; split <;> (try split) <;> omega
theorem cmp_gt {a b : Nat} (h : ¬ a ≤ b) : 0 < cmpN a b := by unfold cmpN; rw [if_neg (by omega), if_pos (by omega)]; decide
theorem big_of {w : World} {v : Value} {z : Nat} (h : URow w v (digs z)) : BigV w (.agg #[.bool false, v]) (z : Int) :=
  ⟨_, by rw [decide_eq_false (Int.not_lt.2 (Int.natCast_nonneg _))], by rw [Int.natAbs_natCast]; exact h⟩
theorem or_bit {n k : Nat} (_hk : k < 64) (hr : n + 2 ^ (k + 1) ≤ 18446744073709551616) (ho : n ||| 2 ^ k = n + 2 ^ k) :
    bits BinOp.or IntKind.u64 (n : Int) (IntKind.u64.wrap (2 ^ k)) = ((n + 2 ^ k : Nat) : Int) ∧ n + 2 ^ k < 18446744073709551616 := by
  have hp := Nat.two_pow_pos k
  rw [Nat.pow_succ] at hr
  have h2 : IntKind.u64.wrap (2 ^ k) = ((2 ^ k : Nat) : Int) := by
    rw [IntKind.wrap_u64, Int.natCast_pow]
    refine Int.emod_eq_of_lt (Int.pow_nonneg (by decide)) ?_
    have : ((2 ^ k : Nat) : Int) < 18446744073709551616 := by omega
    rwa [Int.natCast_pow] at this
  rw [h2, bits_or_u64_nat _ _ (by omega) (by omega), ho]
  exact ⟨rfl, by omega⟩
theorem mul_fit {x : Nat} {k : Nat} (h : x < 1000000 ^ k) (hk : k ≤ 100) : Fit (x : Int) := by
  unfold Fit
  rw [Int.natAbs_natCast]
  exact Nat.lt_of_lt_of_le h (Nat.pow_le_pow_right (by decide) hk)

theorem trim_v {w : World} {v : Value} {z : Nat} (h : BigV w v (z : Int)) (hl : (digs z).length ≤ 1000) :
    Calls Tryd.prog 92 #[v] w fun e w' => ∃ v, e = .returned v ∧ BigV w' v (z : Int) ∧ Below w.heap.size w w' := by
  obtain ⟨p, n, c, rfl⟩ := h.formN (Int.natCast_nonneg _)
  have := trimmed_v (BigV.row h) (small_digs z) hl
  rwa [val_digs] at this
theorem less_v {w : World} {v u : Value} {x y : Nat} (h : BigV w v (x : Int)) (g : BigV w u (y : Int)) (hxy : y ≤ x) (hl : (digs x).length ≤ 900) (hm : (digs y).length ≤ 900) :
    Calls Tryd.prog 93 #[v, u] w fun e w' => ∃ v, e = .returned v ∧ BigV w' v ((x - y : Nat) : Int) ∧ Below w.heap.size w w' := by
  obtain ⟨p, n, c, rfl⟩ := h.formN (Int.natCast_nonneg _)
  obtain ⟨p', n', c', rfl⟩ := g.formN (Int.natCast_nonneg _)
  exact less_any _ _ _ _ x y hxy w (BigV.row h) (BigV.row g) hl hm
def OvPost (ma mb : Bool) (d : Nat) (w : World) (e : Ending) (w' : World) : Prop :=
  ∃ (z : Int) (ok : Bool), z = (if ma = mb then (d : Int) else -(d : Int)) ∧ ok = decide (In64 z) ∧ e = .returned (.tuple #[.int .i64 (if ok then z else 0), .bool ok]) ∧ Below w.heap.size w w'
theorem over_no {ma mb : Bool} {d : Nat} {w w' : World} (h : 18446744073709551616 ≤ d) (hb : Below w.heap.size w w') :
    OvPost ma mb d w (Ending.returned (Value.tuple #[.int .i64 0, .bool false])) w' := by
  have hn : ¬ In64 (if ma = mb then (d : Int) else -(d : Int)) := by unfold In64; split <;> omega
  exact ⟨_, _, rfl, rfl, by rw [decide_eq_false hn]; rfl, hb⟩
/-- What Fits says of the quotient. -/
def OvR7 (ma mb : Bool) (n : Nat) (r : Int) (ok : Bool) : Prop := ok = decide (In64 (if ma = mb then (n : Int) else -(n : Int))) ∧ r = if ok then (if ma = mb then (n : Int) else -(n : Int)) else 0
theorem over_yes {ma mb : Bool} {n d : Nat} {r : Int} {ok : Bool} {w w' : World} (h : n = d) (hr : OvR7 ma mb n r ok) (hb : Below w.heap.size w w') :
    OvPost ma mb d w (Ending.returned (Value.tuple #[.int .i64 r, .bool ok])) w' := by
  subst h
  exact ⟨_, ok, rfl, hr.1, by rw [hr.2], hb⟩
theorem fits_n {ma mb : Bool} {n : Nat} (hn : n < 18446744073709551616) (W : World) (s : Bool) (rv : Value) (hrow : URow W rv (digs n)) (hs : s = (decide (n ≠ 0) && (ma != mb))) :
    Calls Tryd.prog 57 #[.agg #[.bool s, rv]] W fun e w' => ∃ (r : Int) (ok : Bool), e = .returned (.tuple #[.int .i64 r, .bool ok]) ∧ OvR7 ma mb n r ok ∧ Below W.heap.size W w' := by
  have hv : BigV W (.agg #[.bool s, rv]) (if ma = mb then (n : Int) else -(n : Int)) := by
    refine ⟨rv, ?_, ?_⟩
    · rw [hs]
      by_cases hm : ma = mb
      · rw [if_pos hm]; simp [hm]
      · rw [if_neg hm]
        have : (ma != mb) = true := by simpa using hm
        rw [this, Bool.and_true]
        have e : decide (n ≠ 0) = decide (-(n : Int) < 0) := by rw [Bool.eq_iff_iff]; simp; omega
        rw [e]
    · split <;> simpa using hrow
  have hf : Fit (if ma = mb then (n : Int) else -(n : Int)) := by
    have := mul_fit (small4 hn) (show 4 ≤ 100 by decide)
    unfold Fit at *
    split <;> simpa using this
  refine (fits_v hv hf).mono ?_
  rintro e w' ⟨rfl, hb⟩
  refine ⟨_, _, rfl, ⟨rfl, ?_⟩, hb⟩
  simp only [decide_eq_true_eq]

set_option maxRecDepth 100000 in
set_option maxHeartbeats 4000000 in
theorem over_nat (ma mb : Bool) (va vb : Value) (x y : Nat) (hy0 : 0 < y) (hx : x < 1000000 ^ 50) (hy : y < 1000000 ^ 50) (w : World) (ha : URow w va (digs x)) (hb : URow w vb (digs y)) :
    Calls Tryd.prog 78 #[.agg #[.bool ma, va], .agg #[.bool mb, vb]] w (OvPost ma mb (x / y) w) := by
  have HA := Lib.hid ha
  have HB := Lib.hid hb
  have HX := Lib.hid hx
  have HY := Lib.hid hy
  have HY0 := Lib.hid hy0
  have HW := Lib.hid (OvW.new w ma va mb vb)
  obtain ⟨pa, ca, rfl, -, -⟩ := ha
  obtain ⟨pb, cb, rfl, -, -⟩ := hb
  generalize (digs x).length = la at *
  generalize (digs y).length = lb at *
  clear hx hy hy0
  go_enter Tryd.func78, Tryd.ntmps78
  go_wp2_with fail
  generalize ((((w.alloc (.cells #[.bool ma, .slice pa la ca] 76)).alloc (.cells #[.bool mb, .slice pb lb cb] 76)).alloc (.cells #[.bool false, .slice pa la ca] 76)).alloc (.cells #[.bool false, .slice pb lb cb] 76)) = W0 at *
  go_loopw [6, 9] (fun q i wr => ∃ (n k : Nat), k ≤ 64 ∧ q = .int .u64 (n : Int) ∧ i = .int .i64 ((k : Int) - 1) ∧ OvR x y n k ∧ OvW w wr ma (.slice pa la ca) mb (.slice pb lb cb)) (fun _ i _ => (intOf i + 1).toNat)
  case atStart => exact ⟨0, 64, Nat.le_refl _, rfl, by go_num, OvR.start x y, HW.out⟩
  case round =>
    clear HW
    obtain ⟨n, k, hk, rfl, rfl, hR, hS⟩ := hrel
    have HR := Lib.hid hR
    have HS := Lib.hid hS
    clear hR hS
    cases k with
    | zero =>
      have hdone := HR.out.done HY0.out
      have hle := HR.out.le
      have hn : n < 18446744073709551616 := by have := HR.out.room; simp at this; omega
      have hq : n * y < 1000000 ^ 54 := mul_lt (small4 hn) HY.out
      have fn : Fit (n : Int) := mul_fit (small4 hn) (by decide)
      have fy : Fit (y : Int) := mul_fit HY.out (by decide)
      have HG := Lib.hid (fun W => big_v n hn W)
      have HM1 := Lib.hid (fun (W : World) (v1 v2 : Value) (h1 : BigV W v1 (n : Int)) (h2 : BigV W v2 (y : Int)) => times_v h1 h2 fn fy)
      have HTr := Lib.hid (fun (W : World) (v1 : Value) (h1 : BigV W v1 ((n : Int) * (y : Int))) => trim_v (w := W) (v := v1) (z := n * y) (by rwa [Int.natCast_mul]) (Nat.le_trans (digs_len hq) (by decide)))
      have HLs := Lib.hid (fun (W : World) (v1 v2 : Value) (h1 : BigV W v1 (x : Int)) (h2 : BigV W v2 ((n * y : Nat) : Int)) => less_v h1 h2 hle (Nat.le_trans (digs_len HX.out) (by decide)) (Nat.le_trans (digs_len hq) (by decide)))
      have HXV : Hid (BigV wr (.agg #[.bool false, .slice pa la ca]) (x : Int)) := big_of (HA.out.below HS.out.below)
      have HYV : Hid (BigV wr (.agg #[.bool false, .slice pb lb cb]) (y : Int)) := big_of (HB.out.below HS.out.below)
      have HD := Lib.hid hdone
      have HQ := Lib.hid hq
      clear hdone hle hq fn fy
      go_wp2_with fail
      have x0 := HS.out.b2.c0
      have x1 := HS.out.b2.c1
      have xl := HS.out.b2.lt
      have y0 := HS.out.b3.c0
      have y1 := HS.out.b3.c1
      have yl := HS.out.b3.lt
      go_cut [12] (fun p wc => ∃ (o : Nat) (rv : Value), p = .pointer (some ⟨o, 0, none⟩) ∧ wr.heap.size ≤ o ∧ Bg wc o false rv ∧ URow wc rv (digs (x - n * y)) ∧ Below wr.heap.size wr wc)
      case first =>
        go_region_held3 (fun w' => Below wr.heap.size wr w' ∧ ∀ b o, b < wr.heap.size → w'.cell? ⟨b, o, none⟩ = wr.cell? ⟨b, o, none⟩) ((clear HG HM1 HTr HLs; first | (with_reducible exact held_drew) | (with_reducible exact held_below ‹_› ‹_›) | (refine held_of ?_; repeat' (first | (with_reducible exact (‹KwB wr _›).b) | (with_reducible refine Below.setCell ?_ ?_ _) | (with_reducible refine Below.alloc ?_ ?_ _) | (with_reducible refine Below.drew ?_) | (with_reducible exact Below.refl _ _) | omega | (simp; done) | (simp; omega)))))
          (first
            | (go_at_call 94; (with_reducible refine (HG.out _).mono ?_); rintro e w1 ⟨v1, rfl, hv1, hb1⟩; have hKw := KwB.mk (held_below ‹_› hb1).1; have hz1 := hKw.b.size; (first | (have M := Bg.after hb1) | (have M := Bg.afterD hb1) | skip))
            | (go_at_call 75; (with_reducible refine (HM1.out _ _ _ (by first | exact hv1 | exact hv1.alloc _) (HYV.out.below (KwB.mk (by assumption : _ ∧ _).1).b)).mono ?_); rintro e w2 ⟨v2, rfl, hv2, hb2⟩; have hKw := KwB.mk (held_below ‹_› hb2).1; have hz2 := hKw.b.size; (first | (have M := Bg.after hb2) | (have M := M.next hb2) | skip))
            | (go_at_call 92; (with_reducible refine (HTr.out _ _ (by first | exact hv2 | exact hv2.alloc _)).mono ?_); rintro e w3 ⟨v3, rfl, hv3, hb3⟩; have hKw := KwB.mk (held_below ‹_› hb3).1; have hz3 := hKw.b.size; (first | (have M := Bg.after hb3) | (have M := M.next hb3) | skip))
            | (go_at_call 93; (with_reducible refine (HLs.out _ _ _ (HXV.out.below (KwB.mk (by assumption : _ ∧ _).1).b) (by first | exact hv3 | exact hv3.alloc _)).mono ?_); rintro e w4 ⟨v4, rfl, hv4, hb4⟩; have hKw := KwB.mk (held_below ‹_› hb4).1; have hz4 := hKw.b.size; (first | (have M := Bg.after hb4) | (have M := M.next hb4) | skip); (try simp only [World.size_drew] at M); (try (have m0 := M.c0; have m1 := M.c1; have mf := M.f0; have mg := M.f1; have ml := M.lt)); obtain ⟨p4, n4, c4, rfl⟩ := hv4.formN (Int.natCast_nonneg _)))
        all_goals
          go_wp2_with fail
          go_meet
          case rel =>
            have hu : URow w4 (.slice p4 n4 c4) (digs (x - n * y)) := BigV.row hv4
            first
              | exact ⟨_, _, rfl, hz4, Bg.new _ _ _ _, hu.below ((Below.refl w4.heap.size w4).alloc (Nat.le_refl _) _), hKw.b.alloc hz4 _⟩
              | exact ⟨_, _, rfl, by first | exact hz3 | exact hz2 | exact hz1 | exact Nat.le_refl _, (M.set0 _).set1 _, (hu.set M 0 _).set (M.set0 _) 1 _, (hKw.b.setCell (by first | exact hz3 | exact hz2 | exact hz1 | exact Nat.le_refl _) _).setCell (by first | exact hz3 | exact hz2 | exact hz1 | exact Nat.le_refl _) _⟩
      case rest =>
        clear HG HM1 HTr HLs HXV HYV x0 x1 xl y0 y1 yl
        obtain ⟨o, rv, rfl, hlo, hM, hrow, hbw⟩ := hcut
        have HS2 := Lib.hid (HS.out.next hbw)
        clear hbw hlo HS
        have HAm : Hid (Calls Tryd.prog 74 #[.agg #[.bool false, rv], .agg #[.bool false, .slice pb lb cb]] wc fun e w' => e = .returned (.int .i64 (cmpN (x - n * y) y)) ∧ Below wc.heap.size wc w') := by
          have := amounts_v (big_of hrow) (big_of (HB.out.below HS2.out.below)) (mul_fit (k := 50) (Nat.lt_of_le_of_lt (Nat.sub_le _ _) HX.out) (by decide)) (mul_fit HY.out (by decide))
          rwa [Int.natAbs_natCast, Int.natAbs_natCast] at this
        obtain ⟨pr, cr, rfl, -, -⟩ := hrow
        generalize (digs (x - n * y)).length = lr at *
        have m0 := hM.c0
        have m1 := hM.c1
        have y0 := HS2.out.b3.c0
        have y1 := HS2.out.b3.c1
        by_cases hlt : x - n * y < y
        · have hc : cmpN (x - n * y) y = -1 := by unfold cmpN; rw [if_pos hlt]
          have hD := HD.out
          rw [if_pos hlt] at hD
          have HE := Lib.hid hD.1
          rw [hc] at HAm
          clear hlt hc hD HD
          go_wp2_with fail
          refine HAm.out.mono ?_
          rintro e w5 ⟨rfl, hb5⟩
          have HS5 := Lib.hid (HS2.out.next hb5)
          clear hb5 HAm HS2 m0 m1 y0 y1 hM
          go_wp2_with fail
          refine (big_v n hn _).mono ?_
          rintro e w6 ⟨v6, rfl, hv6, hb6⟩
          obtain ⟨p6, c6, rfl⟩ := hv6.form
          have hneg : decide ((n : Int) < 0) = false := decide_eq_false (Int.not_lt.2 (Int.natCast_nonneg _))
          rw [hneg] at hv6 ⊢
          rw [Int.natAbs_natCast] at hv6 ⊢
          have HU := Lib.hid (BigV.row (m := false) hv6)
          have HS6 := Lib.hid (HS5.out.next hb6)
          have hw6 := HS6.out.below.size
          generalize hL : (digs n).length = L at *
          have HL := Lib.hid hL
          have hL0 : n = 0 ↔ L = 0 := by rw [← hL, digs_nil]
          have HL0 := Lib.hid hL0
          have hl0 := HS6.out.b0.lt
          have hl1 := HS6.out.b1.lt
          have k0 := HS6.out.b0.c0
          have k1 := HS6.out.b1.c0
          have HF := Lib.hid (fits_n (ma := ma) (mb := mb) hn)
          clear hneg hv6 hb6 hL hL0 HS5 HR
          by_cases hL : 0 < L
          · have hn0 : n ≠ 0 := by have := HL0.out; omega
            have HN0 := Lib.hid hn0
            clear hn0
            rcases ma with _ | _ <;> rcases mb with _ | _
            all_goals
              go_wp2_with fail
              first | (with_reducible refine (HF.out _ true _ (HU.out.below ((Below.refl w6.heap.size w6).alloc (Nat.le_refl _) _)) (by simp [HN0.out]; done)).mono ?_) | (with_reducible refine (HF.out _ false _ (HU.out.below ((Below.refl w6.heap.size w6).alloc (Nat.le_refl _) _)) (by simp [HN0.out]; done)).mono ?_)
              rintro e w7 ⟨r, ok, rfl, hr, hb7⟩
              have HR7 := Lib.hid hr
              have HB7 := Lib.hid ((HS6.out.below.alloc hw6 _).trans (hb7.mono (by simp; omega)))
              clear hr hb7
              go_wp2_with fail
              go_ret2
              exact over_yes HE.out HR7.out HB7.out
          · obtain rfl : L = 0 := by omega
            have hn0 : n = 0 := by have := HL0.out; omega
            have HN0 := Lib.hid hn0
            clear hn0 hL
            rcases ma with _ | _ <;> rcases mb with _ | _
            all_goals
              go_wp2_with fail
              first | (with_reducible refine (HF.out _ true _ (HU.out.below ((Below.refl w6.heap.size w6).alloc (Nat.le_refl _) _)) (by simp [HN0.out]; done)).mono ?_) | (with_reducible refine (HF.out _ false _ (HU.out.below ((Below.refl w6.heap.size w6).alloc (Nat.le_refl _) _)) (by simp [HN0.out]; done)).mono ?_)
              rintro e w7 ⟨r, ok, rfl, hr, hb7⟩
              have HR7 := Lib.hid hr
              have HB7 := Lib.hid ((HS6.out.below.alloc hw6 _).trans (hb7.mono (by simp; omega)))
              clear hr hb7
              go_wp2_with fail
              go_ret2
              exact over_yes HE.out HR7.out HB7.out
        · have hc : cmpN (x - n * y) y = 0 ∨ cmpN (x - n * y) y = 1 := by unfold cmpN; rw [if_neg hlt]; split <;> simp
          have hc0 : 0 ≤ cmpN (x - n * y) y := by omega
          have hD := HD.out
          rw [if_neg hlt] at hD
          have HE := Lib.hid hD
          generalize cmpN (x - n * y) y = cc at *
          clear hlt hc hD HD
          go_wp2_with fail
          refine HAm.out.mono ?_
          rintro e w5 ⟨rfl, hb5⟩
          have HS5 := Lib.hid (HS2.out.next hb5)
          clear hb5 HAm HS2 m0 m1 y0 y1 hM
          go_wp2_with fail
          go_ret2
          exact over_no HE.out HS5.out.below
    | succ k =>
      rw [show (((k + 1 : Nat) : Int) - 1) = (k : Int) by omega]
      obtain ⟨hor, ht⟩ := or_bit (show k < 64 by omega) HR.out.room HR.out.or
      have HT := Lib.hid (show ((n + 2 ^ k) * y ≤ x → OvR x y (n + 2 ^ k) k) ∧ (¬ (n + 2 ^ k) * y ≤ x → OvR x y n k) from ⟨HR.out.take, HR.out.leave⟩)
      generalize htt : n + 2 ^ k = t at *
      clear htt
      obtain ⟨h, hh⟩ : ∃ h, h = t / 2 := ⟨_, rfl⟩
      have hh1 : h ≤ 9223372036854775807 := by omega
      have hh2 : (t : Int) / 2 = (h : Int) := by omega
      have HH := Lib.hid hh
      have HO1 := Lib.hid (fun W => of_v (h : Int) (by omega) (by omega) W)
      have fy : Fit (y : Int) := mul_fit HY.out (by decide)
      have fh : Fit (h : Int) := mul_fit (k := 4) (by omega) (by decide)
      have fh2 : Fit ((h : Int) * 2) := by have := mul_fit (x := h * 2) (k := 4) (by omega) (by decide); rwa [Int.natCast_mul] at this
      have HM1 := Lib.hid (fun (W : World) (v1 v2 : Value) (h1 : BigV W v1 (h : Int)) (h2 : BigV W v2 2) => times_v h1 h2 fh (fit64 (by omega) (by omega)))
      have HM2 := Lib.hid (fun (W : World) (v1 v2 : Value) (h1 : BigV W v1 ((h : Int) * 2)) (h2 : BigV W v2 (y : Int)) => times_v h1 h2 fh2 fy)
      have HYV : Hid (BigV wr (.agg #[.bool false, .slice pb lb cb]) (y : Int)) := ⟨_, by rw [decide_eq_false (Int.not_lt.2 (Int.natCast_nonneg _))], by rw [Int.natAbs_natCast]; exact HB.out.below HS.out.below⟩
      have nn : (0 : Int) ≤ (h : Int) * 2 * (y : Int) := by have := Int.natCast_nonneg (h * 2 * y); simpa using this
      have NN := Lib.hid nn
      clear hh fy fh fh2 nn
      go_wp2_with fail
      have hwr : IntKind.i64.wrap (h : Int) = (h : Int) := by rw [IntKind.wrap_i64]; omega
      have y0 := HS.out.b3.c0
      have y1 := HS.out.b3.c1
      have yl := HS.out.b3.lt
      go_cut [11] (fun p wc => ∃ (o : Nat) (rv : Value), p = .pointer (some ⟨o, 0, none⟩) ∧ wr.heap.size ≤ o ∧ Bg wc o false rv ∧ URow wc rv (digs (h * 2 * y)) ∧ Below wr.heap.size wr wc)
      case first =>
        go_region_held3 (fun w' => Below wr.heap.size wr w' ∧ ∀ b o, b < wr.heap.size → w'.cell? ⟨b, o, none⟩ = wr.cell? ⟨b, o, none⟩) ((clear HO1 HM1 HM2; first | (with_reducible exact held_drew) | (with_reducible exact held_below ‹_› ‹_›) | (refine held_of ?_; repeat' (first | (with_reducible exact (‹KwB wr _›).b) | (with_reducible refine Below.setCell ?_ ?_ _) | (with_reducible refine Below.alloc ?_ ?_ _) | (with_reducible refine Below.drew ?_) | (with_reducible exact Below.refl _ _) | omega | (simp; done) | (simp; omega)))))
          (first
            | (go_at_call_of 60 (Value.int IntKind.i64 2); (with_reducible refine (of_v 2 (by omega) (by omega) _).mono ?_); rintro e w2 ⟨v2, rfl, hv2, hb2⟩; have hKw := KwB.mk (held_below ‹_› hb2).1; have hz2 := hKw.b.size; (first | (have hv1' := hv1.below hb2) | (have hv1' := hv1.later hb2)); (first | (have M := Bg.after hb2) | (have M := M.next hb2) | skip))
            | (go_at_call 60; (with_reducible refine (HO1.out _).mono ?_); rintro e w1 ⟨v1, rfl, hv1, hb1⟩; have hKw := KwB.mk (held_below ‹_› hb1).1; have hz1 := hKw.b.size; (first | (have M := Bg.after hb1) | (have M := Bg.afterD hb1) | skip))
            | (go_at_call_of 75 (Value.slice pb lb cb); (with_reducible refine (HM2.out _ _ _ (by first | exact hv3 | exact hv3.alloc _) (HYV.out.below (KwB.mk (by assumption : _ ∧ _).1).b)).mono ?_); rintro e w4 ⟨v4, rfl, hv4, hb4⟩; have hKw := KwB.mk (held_below ‹_› hb4).1; have hz4 := hKw.b.size; (first | (have M := Bg.after hb4) | (have M := M.next hb4) | skip); (try simp only [World.size_drew] at M); (try (have m0 := M.c0; have m1 := M.c1; have mf := M.f0; have mg := M.f1; have ml := M.lt)); obtain ⟨p4, n4, c4, rfl⟩ := hv4.formN NN.out)
            | (go_at_call 75; (with_reducible refine (HM1.out _ _ _ (by first | exact hv1' | exact hv1'.alloc _) (by first | exact hv2 | exact hv2.alloc _)).mono ?_); rintro e w3 ⟨v3, rfl, hv3, hb3⟩; have hKw := KwB.mk (held_below ‹_› hb3).1; have hz3 := hKw.b.size; (first | (have M := Bg.after hb3) | (have M := M.next hb3) | skip)))
        all_goals
          go_wp2_with fail
          go_meet
          case rel =>
            have hu : URow w4 (.slice p4 n4 c4) (digs (h * 2 * y)) := BigV.row (m := false) (by rw [show ((h * 2 * y : Nat) : Int) = (h : Int) * 2 * (y : Int) by push_cast; rfl]; exact hv4)
            first
              | exact ⟨_, _, rfl, hz4, Bg.new _ _ _ _, hu.below ((Below.refl w4.heap.size w4).alloc (Nat.le_refl _) _), hKw.b.alloc hz4 _⟩
              | exact ⟨_, _, rfl, by first | exact hz3 | exact hz2 | exact hz1 | exact Nat.le_refl _, (M.set0 _).set1 _, (hu.set M 0 _).set (M.set0 _) 1 _, (hKw.b.setCell (by first | exact hz3 | exact hz2 | exact hz1 | exact Nat.le_refl _) _).setCell (by first | exact hz3 | exact hz2 | exact hz1 | exact Nat.le_refl _) _⟩
      case rest =>
        clear HO1 HM1 HM2 y0 y1 yl hwr HYV NN
        obtain ⟨o, rv, rfl, hlo, hM, hrow, hbw⟩ := hcut
        have HS2 := Lib.hid (HS.out.next hbw)
        have HM := Lib.hid hM
        have HRw := Lib.hid hrow
        have hlo2 : w.heap.size + 4 ≤ o := by have := HS.out.b3.lt; omega
        clear hM hrow hbw hlo HS
        go_upto_if 39 with fail
        go_cut [] (fun wc => ∃ rv, Bg wc o false rv ∧ URow wc rv (digs (t * y)) ∧ OvW w wc ma (.slice pa la ca) mb (.slice pb lb cb))
        case first =>
          obtain ⟨pr, cr, rfl, -, -⟩ := id HRw.out
          generalize hlr : (digs (h * 2 * y)).length = lr at *
          have HLR := Lib.hid hlr
          clear hlr
          have m0 := HM.out.c0
          have m1 := HM.out.c1
          have mf := HM.out.f0
          have mg := HM.out.f1
          have ml := HM.out.lt
          have y0 := HS2.out.b3.c0
          have y1 := HS2.out.b3.c1
          have yl := HS2.out.b3.lt
          by_cases hodd : t % 2 = 1
          · have ho1 : ((t : Int) % 2 == 1) = true := by simp; omega
            have HE : Hid (h * 2 * y + y = t * y) := by
              have := HH.out
              show _ = _
              rw [show t = h * 2 + 1 by omega, Nat.add_mul, Nat.one_mul]
            have HAd := Lib.hid (added_any false false (.slice pr lr cr) (.slice pb lb cb) (h * 2 * y) y wc HRw.out (HB.out.below HS2.out.below) (Nat.le_trans (len_mul (small4 (by have := HH.out; omega)) HY.out) (by decide)) (Nat.le_trans (digs_len HY.out) (by decide)))
            go_wp2_with fail
            refine HAd.out.mono ?_
            rintro e w5 ⟨v5, rfl, hrow5, hb5⟩
            obtain ⟨p5, n5, c5, rfl⟩ := owns_slice hrow5
            have HM5 := Lib.hid (HM.out.next hb5)
            have HU5 := Lib.hid (URow.of_owns hrow5)
            have HS5 := Lib.hid (HS2.out.next hb5)
            clear hrow5 m0 m1 mf mg HAd HRw
            have m0 := HM5.out.c0
            have m1 := HM5.out.c1
            have mf := HM5.out.f0
            have mg := HM5.out.f1
            go_wp2_with fail
            go_meet
            case rel =>
              rw [HE.out] at HU5
              exact ⟨_, (HM5.out.set0 _).set1 _, (HU5.out.set HM5.out 0 _).set (HM5.out.set0 _) 1 _, (HS5.out.set (by omega) _).set (by omega) _⟩
          · have ho1 : ((t : Int) % 2 == 1) = false := by simp; omega
            have HE : Hid (h * 2 * y = t * y) := by
              have := HH.out
              show _ = _
              rw [show h * 2 = t by omega]
            go_wp2_with fail
            go_meet
            case rel => exact ⟨_, HM.out, by rw [← HE.out]; exact HRw.out, HS2.out⟩
        case rest =>
          clear HM HRw HS2 HH hh1 hh2
          obtain ⟨rv, hM, hrow, hS⟩ := hcut
          have HAm : Hid (Calls Tryd.prog 74 #[.agg #[.bool false, rv], .agg #[.bool false, .slice pa la ca]] wc fun e w' => e = .returned (.int .i64 (cmpN (t * y) x)) ∧ Below wc.heap.size wc w') := by
            have := amounts_v (big_of hrow) (big_of (HA.out.below hS.below)) (mul_fit (mul_lt (small4 ht) HY.out) (by decide)) (mul_fit HX.out (by decide))
            rwa [Int.natAbs_natCast, Int.natAbs_natCast] at this
          obtain ⟨pr, cr, rfl, -, -⟩ := hrow
          generalize (digs (t * y)).length = lr at *
          have HS := Lib.hid hS
          have m0 := hM.c0
          have m1 := hM.c1
          have x0 := hS.b2.c0
          have x1 := hS.b2.c1
          clear hM hS
          by_cases hle : t * y ≤ x
          · have hc := cmp_le hle
            have HR2 := Lib.hid (HT.out.1 hle)
            generalize cmpN (t * y) x = cc at *
            clear hle HT HR
            go_wp2_with fail
            refine HAm.out.mono ?_
            rintro e w5 ⟨rfl, hb5⟩
            have HS5 := Lib.hid (HS.out.next hb5)
            clear hb5
            go_wp2_with fail
            go_roundw
            case rel => exact ⟨t, k, by omega, by go_num, by go_num, HR2.out, HS5.out⟩
            case measure => simp [intOf]
          · have hc := cmp_gt hle
            have HR2 := Lib.hid (HT.out.2 hle)
            generalize cmpN (t * y) x = cc at *
            clear hle HT HR
            go_wp2_with fail
            refine HAm.out.mono ?_
            rintro e w5 ⟨rfl, hb5⟩
            have HS5 := Lib.hid (HS.out.next hb5)
            clear hb5
            go_wp2_with fail
            go_roundw
            case rel => exact ⟨n, k, by omega, by go_num, by go_num, HR2.out, HS5.out⟩
            case measure => simp [intOf]
end Go.Proofs.YtidejjjedpdbeaaDoor

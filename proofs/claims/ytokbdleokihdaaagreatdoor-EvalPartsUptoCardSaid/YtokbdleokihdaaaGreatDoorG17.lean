/- The document's Over: a quotient towards 0, bit by bit. The document's Over, said of whole numbers. The document's two, at a difference, a product, a quotient. The document's two, at every operator. -/
import Derived.Test.YtokbdleokihdaaaGreatDoorG14
import Derived.Test.YtokbdleokihdaaaGreatDoorG13
import Derived.Test.YtokbdleokihdaaaGreatDoorG16
import Derived.Laws.Bits64b
import Derived.Deep.RegionHeld3
import Derived.Deep.DeepCutAuto
namespace Go.Proofs.YtokbdleokihdaaaGreatDoor
open Go.RowKit

/-- The boxes of Over: both arguments, x, y. -/
structure OvW (w wr : World) (ma : Bool) (va : Value) (mb : Bool) (vb : Value) : Prop where
  b0 : Bg wr w.heap.size ma va
  b1 : Bg wr (w.heap.size + 1) mb vb
  b2 : Bg wr (w.heap.size + 2) false va
  b3 : Bg wr (w.heap.size + 3) false vb
  below : Below w.heap.size w wr
theorem OvW.next {w w1 w2 : World} {ma : Bool} {va : Value} {mb : Bool} {vb : Value} (h : OvW w w1 ma va mb vb) (hb : Below w1.heap.size w1 w2) : OvW w w2 ma va mb vb :=
  ⟨h.b0.below hb h.b0.lt, h.b1.below hb h.b1.lt, h.b2.below hb h.b2.lt, h.b3.below hb h.b3.lt, h.below.trans (hb.mono h.below.size)⟩
theorem OvW.set {w w1 : World} {ma : Bool} {va : Value} {mb : Bool} {vb : Value} (h : OvW w w1 ma va mb vb) {o : Nat} (ho : w.heap.size + 4 ≤ o) {i : Nat} (x : Value) : OvW w (w1.setCell ⟨o, i, none⟩ x) ma va mb vb :=
  ⟨h.b0.set (by show o ≠ _; omega) x, h.b1.set (by show o ≠ _; omega) x, h.b2.set (by show o ≠ _; omega) x, h.b3.set (by show o ≠ _; omega) x, h.below.setCell (p := ⟨o, i, none⟩) (by show w.heap.size ≤ o; omega) x⟩
theorem OvW.new (w : World) (ma : Bool) (va : Value) (mb : Bool) (vb : Value) :
    OvW w ((((w.alloc (.cells #[.bool ma, va] 65)).alloc (.cells #[.bool mb, vb] 65)).alloc (.cells #[.bool false, va] 65)).alloc (.cells #[.bool false, vb] 65)) ma va mb vb := by
  obtain ⟨hB3, hz3, -⟩ := boxes3 w #[.bool ma, va] #[.bool mb, vb] #[.bool false, va] 65 65 65
  have b0 := (((Bg.new w ma va 65).alloc (.cells #[.bool mb, vb] 65)).alloc (.cells #[.bool false, va] 65)).alloc (.cells #[.bool false, vb] 65)
  have b1 := ((Bg.new (w.alloc (.cells #[.bool ma, va] 65)) mb vb 65).alloc (.cells #[.bool false, va] 65)).alloc (.cells #[.bool false, vb] 65)
  have b2 := (Bg.new ((w.alloc (.cells #[.bool ma, va] 65)).alloc (.cells #[.bool mb, vb] 65)) false va 65).alloc (.cells #[.bool false, vb] 65)
  have b3 := Bg.new (((w.alloc (.cells #[.bool ma, va] 65)).alloc (.cells #[.bool mb, vb] 65)).alloc (.cells #[.bool false, va] 65)) false vb 65
  rw [hz3] at b3
  have e2 : ((w.alloc (.cells #[.bool ma, va] 65)).alloc (.cells #[.bool mb, vb] 65)).heap.size = w.heap.size + 2 := by simp
  have e1 : (w.alloc (.cells #[.bool ma, va] 65)).heap.size = w.heap.size + 1 := by simp
  rw [e2] at b2
  rw [e1] at b1
  exact ⟨b0, b1, b2, b3, hB3.alloc (by omega) _⟩

theorem Bg.after {w1 w2 : World} {m : Bool} {v : Value} {t : TypeId} (hb : Below (w1.alloc (.cells #[.bool m, v] t)).heap.size (w1.alloc (.cells #[.bool m, v] t)) w2) : Bg w2 w1.heap.size m v :=
  (Bg.new w1 m v t).below hb (by simp)
theorem Bg.afterD {w1 w2 : World} {m : Bool} {v : Value} {t : TypeId} (hb : Below (w1.alloc (.cells #[.bool m, v] t)).drew.heap.size (w1.alloc (.cells #[.bool m, v] t)).drew w2) : Bg w2 w1.heap.size m v :=
  (Bg.new w1 m v t).drew.below hb (by simp)
theorem Bg.next {w w' : World} {b : Nat} {m : Bool} {v : Value} (h : Bg w b m v) (hb : Below w.heap.size w w') : Bg w' b m v := h.below hb h.lt
theorem mul_lt {m y : Nat} (hm : m < 1000000 ^ 4) (hy : y < 1000000 ^ 50) : m * y < 1000000 ^ 54 := by
  have h1 : m * y ≤ 1000000 ^ 4 * y := Nat.mul_le_mul_right _ (by omega)
  have h2 : 1000000 ^ 4 * y < 1000000 ^ 4 * 1000000 ^ 50 := Nat.mul_lt_mul_of_pos_left hy (by decide)
  rw [← Nat.pow_add] at h2
  omega
theorem len_mul {m y : Nat} (hm : m < 1000000 ^ 4) (hy : y < 1000000 ^ 50) : (digs (m * y)).length ≤ 54 := digs_len (mul_lt hm hy)
theorem small4 {m : Nat} (h : m < 18446744073709551616) : m < 1000000 ^ 4 := Nat.lt_trans h (by decide)
theorem cmp_le {a b : Nat} (h : a ≤ b) : cmpN a b ≤ 0 := by unfold cmpN; split <;> (try split) <;> omega
theorem cmp_gt {a b : Nat} (h : ¬ a ≤ b) : 0 < cmpN a b := by unfold cmpN; rw [if_neg (by omega), if_pos (by omega)]; decide
theorem or_bit {n k : Nat} (_hk : k < 64) (hr : n + 2 ^ (k + 1) ≤ 18446744073709551616) (ho : n ||| 2 ^ k = n + 2 ^ k) :
    bits BinOp.or IntKind.u64 (n : Int) (IntKind.u64.wrap (2 ^ k)) = ((n + 2 ^ k : Nat) : Int) ∧ n + 2 ^ k < 18446744073709551616 := by
  have hp := Nat.two_pow_pos k
  rw [Nat.pow_succ] at hr
  have h2 : IntKind.u64.wrap (2 ^ k) = ((2 ^ k : Nat) : Int) := by
    rw [IntKind.wrap_u64, Int.natCast_pow]
    refine Int.emod_eq_of_lt (Int.pow_nonneg (by decide)) ?_
    have : ((2 ^ k : Nat) : Int) < 18446744073709551616 := by omega
    rwa [Int.natCast_pow] at this
  rw [h2, bits_or_u64_nat _ _ (by omega) (by omega), ho]
  exact ⟨rfl, by omega⟩
theorem mul_fit {x : Nat} {k : Nat} (h : x < 1000000 ^ k) (hk : k ≤ 100) : Fit (x : Int) := by
  exact Fit.of_lt (by rw [Int.natAbs_natCast]; exact h) (by omega)

theorem trim_v {w : World} {v : Value} {z : Nat} (h : BigV w v (z : Int)) (hl : (digs z).length ≤ 3000) :
    Calls Tryz.prog 65 #[v] w fun e w' => ∃ v, e = .returned v ∧ BigV w' v (z : Int) ∧ Below w.heap.size w w' := by
  obtain ⟨p, n, c, rfl⟩ := h.formN (Int.natCast_nonneg _)
  have := trimmed_v (BigV.row h) (small_digs z) hl
  rwa [val_digs] at this
theorem less_v {w : World} {v u : Value} {x y : Nat} (h : BigV w v (x : Int)) (g : BigV w u (y : Int)) (hxy : y ≤ x) (hl : (digs x).length ≤ 900) (hm : (digs y).length ≤ 900) :
    Calls Tryz.prog 66 #[v, u] w fun e w' => ∃ v, e = .returned v ∧ BigV w' v ((x - y : Nat) : Int) ∧ Below w.heap.size w w' := by
  obtain ⟨p, n, c, rfl⟩ := h.formN (Int.natCast_nonneg _)
  obtain ⟨p', n', c', rfl⟩ := g.formN (Int.natCast_nonneg _)
  exact less_any _ _ _ _ x y hxy w (BigV.row h) (BigV.row g) (by omega) (by omega)
def OvPost (ma mb : Bool) (d : Nat) (w : World) (e : Ending) (w' : World) : Prop :=
  ∃ (z : Int) (ok : Bool), z = (if ma = mb then (d : Int) else -(d : Int)) ∧ ok = decide (In64 z) ∧ e = .returned (.tuple #[.int .i64 (if ok then z else 0), .bool ok]) ∧ Below w.heap.size w w'
theorem over_no {ma mb : Bool} {d : Nat} {w w' : World} (h : 18446744073709551616 ≤ d) (hb : Below w.heap.size w w') :
    OvPost ma mb d w (Ending.returned (Value.tuple #[.int .i64 0, .bool false])) w' := by
  have hn : ¬ In64 (if ma = mb then (d : Int) else -(d : Int)) := by unfold In64; split <;> omega
  exact ⟨_, _, rfl, rfl, by rw [decide_eq_false hn]; rfl, hb⟩
/-- What Fits says of the quotient. -/
def OvR7 (ma mb : Bool) (n : Nat) (r : Int) (ok : Bool) : Prop := ok = decide (In64 (if ma = mb then (n : Int) else -(n : Int))) ∧ r = if ok then (if ma = mb then (n : Int) else -(n : Int)) else 0
theorem over_yes {ma mb : Bool} {n d : Nat} {r : Int} {ok : Bool} {w w' : World} (h : n = d) (hr : OvR7 ma mb n r ok) (hb : Below w.heap.size w w') :
    OvPost ma mb d w (Ending.returned (Value.tuple #[.int .i64 r, .bool ok])) w' := by
  subst h
  exact ⟨_, ok, rfl, hr.1, by rw [hr.2], hb⟩
theorem fits_n {ma mb : Bool} {n : Nat} (hn : n < 18446744073709551616) (W : World) (s : Bool) (rv : Value) (hrow : URow W rv (digs n)) (hs : s = (decide (n ≠ 0) && (ma != mb))) :
    Calls Tryz.prog 36 #[.agg #[.bool s, rv]] W fun e w' => ∃ (r : Int) (ok : Bool), e = .returned (.tuple #[.int .i64 r, .bool ok]) ∧ OvR7 ma mb n r ok ∧ Below W.heap.size W w' := by
  have hv : BigV W (.agg #[.bool s, rv]) (if ma = mb then (n : Int) else -(n : Int)) := by
    refine ⟨rv, ?_, ?_⟩
    · rw [hs]
      by_cases hm : ma = mb
      · rw [if_pos hm]; simp [hm]
      · rw [if_neg hm]
        have : (ma != mb) = true := by simpa using hm
        rw [this, Bool.and_true]
        have e : decide (n ≠ 0) = decide (-(n : Int) < 0) := by rw [Bool.eq_iff_iff]; simp; omega
        rw [e]
    · split <;> simpa using hrow
  have hf : Fit (if ma = mb then (n : Int) else -(n : Int)) := by
    have := mul_fit (small4 hn) (show 4 ≤ 100 by decide)
    unfold Fit at *
    split <;> simpa using this
  refine (fits_v hv hf).mono ?_
  rintro e w' ⟨rfl, hb⟩
  refine ⟨_, _, rfl, ⟨rfl, ?_⟩, hb⟩
  simp only [decide_eq_true_eq]

set_option maxRecDepth 100000 in
set_option maxHeartbeats 4000000 in
theorem over_nat (ma mb : Bool) (va vb : Value) (x y : Nat) (hy0 : 0 < y) (hx : x < 1000000 ^ 50) (hy : y < 1000000 ^ 50) (w : World) (ha : URow w va (digs x)) (hb : URow w vb (digs y)) :
    Calls Tryz.prog 53 #[.agg #[.bool ma, va], .agg #[.bool mb, vb]] w (OvPost ma mb (x / y) w) := by
  have HA := Lib.hid ha
  have HB := Lib.hid hb
  have HX := Lib.hid hx
  have HY := Lib.hid hy
  have HY0 := Lib.hid hy0
  have HW := Lib.hid (OvW.new w ma va mb vb)
  obtain ⟨pa, ca, rfl, -, -⟩ := ha
  obtain ⟨pb, cb, rfl, -, -⟩ := hb
  generalize (digs x).length = la at *
  generalize (digs y).length = lb at *
  clear hx hy hy0
  go_enter Tryz.func53, Tryz.ntmps53
  go_wp2_with fail
  generalize ((((w.alloc (.cells #[.bool ma, .slice pa la ca] 65)).alloc (.cells #[.bool mb, .slice pb lb cb] 65)).alloc (.cells #[.bool false, .slice pa la ca] 65)).alloc (.cells #[.bool false, .slice pb lb cb] 65)) = W0 at *
  go_loopw [6, 9] (fun q i wr => ∃ (n k : Nat), k ≤ 64 ∧ q = .int .u64 (n : Int) ∧ i = .int .i64 ((k : Int) - 1) ∧ OvR x y n k ∧ OvW w wr ma (.slice pa la ca) mb (.slice pb lb cb)) (fun _ i _ => (intOf i + 1).toNat)
  case atStart => exact ⟨0, 64, Nat.le_refl _, rfl, by go_num, OvR.start x y, HW.out⟩
  case round =>
    clear HW
    obtain ⟨n, k, hk, rfl, rfl, hR, hS⟩ := hrel
    have HR := Lib.hid hR
    have HS := Lib.hid hS
    clear hR hS
    cases k with
    | zero =>
      have hdone := HR.out.done HY0.out
      have hle := HR.out.le
      have hn : n < 18446744073709551616 := by have := HR.out.room; simp at this; omega
      have hq : n * y < 1000000 ^ 54 := mul_lt (small4 hn) HY.out
      have fn : Fit (n : Int) := mul_fit (small4 hn) (by decide)
      have fy : Fit (y : Int) := mul_fit HY.out (by decide)
      have HG := Lib.hid (fun W => big_v n hn W)
      have HM1 := Lib.hid (fun (W : World) (v1 v2 : Value) (h1 : BigV W v1 (n : Int)) (h2 : BigV W v2 (y : Int)) => times_v h1 h2 fn fy)
      have HTr := Lib.hid (fun (W : World) (v1 : Value) (h1 : BigV W v1 ((n : Int) * (y : Int))) => trim_v (w := W) (v := v1) (z := n * y) (by rwa [Int.natCast_mul]) (Nat.le_trans (digs_len hq) (by decide)))
      have HLs := Lib.hid (fun (W : World) (v1 v2 : Value) (h1 : BigV W v1 (x : Int)) (h2 : BigV W v2 ((n * y : Nat) : Int)) => less_v h1 h2 hle (Nat.le_trans (digs_len HX.out) (by decide)) (Nat.le_trans (digs_len hq) (by decide)))
      have HXV : Hid (BigV wr (.agg #[.bool false, .slice pa la ca]) (x : Int)) := big_of (HA.out.below HS.out.below)
      have HYV : Hid (BigV wr (.agg #[.bool false, .slice pb lb cb]) (y : Int)) := big_of (HB.out.below HS.out.below)
      have HD := Lib.hid hdone
      have HQ := Lib.hid hq
      clear hdone hle hq fn fy
      go_wp2_with fail
      have x0 := HS.out.b2.c0
      have x1 := HS.out.b2.c1
      have xl := HS.out.b2.lt
      have y0 := HS.out.b3.c0
      have y1 := HS.out.b3.c1
      have yl := HS.out.b3.lt
      go_cut [12] (fun p wc => ∃ (o : Nat) (rv : Value), p = .pointer (some ⟨o, 0, none⟩) ∧ wr.heap.size ≤ o ∧ Bg wc o false rv ∧ URow wc rv (digs (x - n * y)) ∧ Below wr.heap.size wr wc)
      case first =>
        go_region_held3 (fun w' => Below wr.heap.size wr w' ∧ ∀ b o, b < wr.heap.size → w'.cell? ⟨b, o, none⟩ = wr.cell? ⟨b, o, none⟩) ((clear HG HM1 HTr HLs; first | (with_reducible exact held_drew) | (with_reducible exact held_below ‹_› ‹_›) | (refine held_of ?_; repeat' (first | (with_reducible exact (‹KwB wr _›).b) | (with_reducible refine Below.setCell ?_ ?_ _) | (with_reducible refine Below.alloc ?_ ?_ _) | (with_reducible refine Below.drew ?_) | (with_reducible exact Below.refl _ _) | omega | (simp; done) | (simp; omega)))))
          (first
            | (go_at_call 67; (with_reducible refine (HG.out _).mono ?_); rintro e w1 ⟨v1, rfl, hv1, hb1⟩; have hKw := KwB.mk (held_below ‹_› hb1).1; have hz1 := hKw.b.size; (first | (have M := Bg.after hb1) | (have M := Bg.afterD hb1) | skip))
            | (go_at_call 50; (with_reducible refine (HM1.out _ _ _ (by first | exact hv1 | exact hv1.alloc _) (HYV.out.below (KwB.mk (by assumption : _ ∧ _).1).b)).mono ?_); rintro e w2 ⟨v2, rfl, hv2, hb2⟩; have hKw := KwB.mk (held_below ‹_› hb2).1; have hz2 := hKw.b.size; (first | (have M := Bg.after hb2) | (have M := M.next hb2) | skip))
            | (go_at_call 65; (with_reducible refine (HTr.out _ _ (by first | exact hv2 | exact hv2.alloc _)).mono ?_); rintro e w3 ⟨v3, rfl, hv3, hb3⟩; have hKw := KwB.mk (held_below ‹_› hb3).1; have hz3 := hKw.b.size; (first | (have M := Bg.after hb3) | (have M := M.next hb3) | skip))
            | (go_at_call 66; (with_reducible refine (HLs.out _ _ _ (HXV.out.below (KwB.mk (by assumption : _ ∧ _).1).b) (by first | exact hv3 | exact hv3.alloc _)).mono ?_); rintro e w4 ⟨v4, rfl, hv4, hb4⟩; have hKw := KwB.mk (held_below ‹_› hb4).1; have hz4 := hKw.b.size; (first | (have M := Bg.after hb4) | (have M := M.next hb4) | skip); (try simp only [World.size_drew] at M); (try (have m0 := M.c0; have m1 := M.c1; have mf := M.f0; have mg := M.f1; have ml := M.lt)); obtain ⟨p4, n4, c4, rfl⟩ := hv4.formN (Int.natCast_nonneg _)))
        all_goals
          go_wp2_with fail
          go_meet
          case rel =>
            have hu : URow w4 (.slice p4 n4 c4) (digs (x - n * y)) := BigV.row hv4
            first
              | exact ⟨_, _, rfl, hz4, Bg.new _ _ _ _, hu.below ((Below.refl w4.heap.size w4).alloc (Nat.le_refl _) _), hKw.b.alloc hz4 _⟩
              | exact ⟨_, _, rfl, by first | exact hz3 | exact hz2 | exact hz1 | exact Nat.le_refl _, (M.set0 _).set1 _, (hu.set M 0 _).set (M.set0 _) 1 _, (hKw.b.setCell (by first | exact hz3 | exact hz2 | exact hz1 | exact Nat.le_refl _) _).setCell (by first | exact hz3 | exact hz2 | exact hz1 | exact Nat.le_refl _) _⟩
      case rest =>
        clear HG HM1 HTr HLs HXV HYV x0 x1 xl y0 y1 yl
        obtain ⟨o, rv, rfl, hlo, hM, hrow, hbw⟩ := hcut
        have HS2 := Lib.hid (HS.out.next hbw)
        clear hbw hlo HS
        have HAm : Hid (Calls Tryz.prog 49 #[.agg #[.bool false, rv], .agg #[.bool false, .slice pb lb cb]] wc fun e w' => e = .returned (.int .i64 (cmpN (x - n * y) y)) ∧ Below wc.heap.size wc w') := by
          have := amounts_v (big_of hrow) (big_of (HB.out.below HS2.out.below)) (mul_fit (k := 50) (Nat.lt_of_le_of_lt (Nat.sub_le _ _) HX.out) (by decide)) (mul_fit HY.out (by decide))
          rwa [Int.natAbs_natCast, Int.natAbs_natCast] at this
        obtain ⟨pr, cr, rfl, -, -⟩ := hrow
        generalize (digs (x - n * y)).length = lr at *
        have m0 := hM.c0
        have m1 := hM.c1
        have y0 := HS2.out.b3.c0
        have y1 := HS2.out.b3.c1
        by_cases hlt : x - n * y < y
        · have hc : cmpN (x - n * y) y = -1 := by unfold cmpN; rw [if_pos hlt]
          have hD := HD.out
          rw [if_pos hlt] at hD
          have HE := Lib.hid hD.1
          rw [hc] at HAm
          clear hlt hc hD HD
          go_wp2_with fail
          refine HAm.out.mono ?_
          rintro e w5 ⟨rfl, hb5⟩
          have HS5 := Lib.hid (HS2.out.next hb5)
          clear hb5 HAm HS2 m0 m1 y0 y1 hM
          go_wp2_with fail
          refine (big_v n hn _).mono ?_
          rintro e w6 ⟨v6, rfl, hv6, hb6⟩
          obtain ⟨p6, c6, rfl⟩ := hv6.form
          have hneg : decide ((n : Int) < 0) = false := decide_eq_false (Int.not_lt.2 (Int.natCast_nonneg _))
          rw [hneg] at hv6 ⊢
          rw [Int.natAbs_natCast] at hv6 ⊢
          have HU := Lib.hid (BigV.row (m := false) hv6)
          have HS6 := Lib.hid (HS5.out.next hb6)
          have hw6 := HS6.out.below.size
          generalize hL : (digs n).length = L at *
          have HL := Lib.hid hL
          have hL0 : n = 0 ↔ L = 0 := by rw [← hL, digs_nil]
          have HL0 := Lib.hid hL0
          have hl0 := HS6.out.b0.lt
          have hl1 := HS6.out.b1.lt
          have k0 := HS6.out.b0.c0
          have k1 := HS6.out.b1.c0
          have HF := Lib.hid (fits_n (ma := ma) (mb := mb) hn)
          clear hneg hv6 hb6 hL hL0 HS5 HR
          by_cases hL : 0 < L
          · have hn0 : n ≠ 0 := by have := HL0.out; omega
            have HN0 := Lib.hid hn0
            clear hn0
            rcases ma with _ | _ <;> rcases mb with _ | _
            all_goals
              go_wp2_with fail
              first | (with_reducible refine (HF.out _ true _ (HU.out.below ((Below.refl w6.heap.size w6).alloc (Nat.le_refl _) _)) (by simp [HN0.out]; done)).mono ?_) | (with_reducible refine (HF.out _ false _ (HU.out.below ((Below.refl w6.heap.size w6).alloc (Nat.le_refl _) _)) (by simp [HN0.out]; done)).mono ?_)
              rintro e w7 ⟨r, ok, rfl, hr, hb7⟩
              have HR7 := Lib.hid hr
              have HB7 := Lib.hid ((HS6.out.below.alloc hw6 _).trans (hb7.mono (by simp; omega)))
              clear hr hb7
              go_wp2_with fail
              go_ret2
              exact over_yes HE.out HR7.out HB7.out
          · obtain rfl : L = 0 := by omega
            have hn0 : n = 0 := by have := HL0.out; omega
            have HN0 := Lib.hid hn0
            clear hn0 hL
            rcases ma with _ | _ <;> rcases mb with _ | _
            all_goals
              go_wp2_with fail
              first | (with_reducible refine (HF.out _ true _ (HU.out.below ((Below.refl w6.heap.size w6).alloc (Nat.le_refl _) _)) (by simp [HN0.out]; done)).mono ?_) | (with_reducible refine (HF.out _ false _ (HU.out.below ((Below.refl w6.heap.size w6).alloc (Nat.le_refl _) _)) (by simp [HN0.out]; done)).mono ?_)
              rintro e w7 ⟨r, ok, rfl, hr, hb7⟩
              have HR7 := Lib.hid hr
              have HB7 := Lib.hid ((HS6.out.below.alloc hw6 _).trans (hb7.mono (by simp; omega)))
              clear hr hb7
              go_wp2_with fail
              go_ret2
              exact over_yes HE.out HR7.out HB7.out
        · have hc : cmpN (x - n * y) y = 0 ∨ cmpN (x - n * y) y = 1 := by unfold cmpN; rw [if_neg hlt]; split <;> simp
          have hc0 : 0 ≤ cmpN (x - n * y) y := by omega
          have hD := HD.out
          rw [if_neg hlt] at hD
          have HE := Lib.hid hD
          generalize cmpN (x - n * y) y = cc at *
          clear hlt hc hD HD
          go_wp2_with fail
          refine HAm.out.mono ?_
          rintro e w5 ⟨rfl, hb5⟩
          have HS5 := Lib.hid (HS2.out.next hb5)
          clear hb5 HAm HS2 m0 m1 y0 y1 hM
          go_wp2_with fail
          go_ret2
          exact over_no HE.out HS5.out.below
    | succ k =>
      rw [show (((k + 1 : Nat) : Int) - 1) = (k : Int) by omega]
      obtain ⟨hor, ht⟩ := or_bit (show k < 64 by omega) HR.out.room HR.out.or
      have HT := Lib.hid (show ((n + 2 ^ k) * y ≤ x → OvR x y (n + 2 ^ k) k) ∧ (¬ (n + 2 ^ k) * y ≤ x → OvR x y n k) from ⟨HR.out.take, HR.out.leave⟩)
      generalize htt : n + 2 ^ k = t at *
      clear htt
      obtain ⟨h, hh⟩ : ∃ h, h = t / 2 := ⟨_, rfl⟩
      have hh1 : h ≤ 9223372036854775807 := by omega
      have hh2 : (t : Int) / 2 = (h : Int) := by omega
      have HH := Lib.hid hh
      have HO1 := Lib.hid (fun W => of_v (h : Int) (by omega) (by omega) W)
      have fy : Fit (y : Int) := mul_fit HY.out (by decide)
      have fh : Fit (h : Int) := mul_fit (k := 4) (by omega) (by decide)
      have fh2 : Fit ((h : Int) * 2) := by have := mul_fit (x := h * 2) (k := 4) (by omega) (by decide); rwa [Int.natCast_mul] at this
      have HM1 := Lib.hid (fun (W : World) (v1 v2 : Value) (h1 : BigV W v1 (h : Int)) (h2 : BigV W v2 2) => times_v h1 h2 fh (fit64 (by omega) (by omega)))
      have HM2 := Lib.hid (fun (W : World) (v1 v2 : Value) (h1 : BigV W v1 ((h : Int) * 2)) (h2 : BigV W v2 (y : Int)) => times_v h1 h2 fh2 fy)
      have HYV : Hid (BigV wr (.agg #[.bool false, .slice pb lb cb]) (y : Int)) := ⟨_, by rw [decide_eq_false (Int.not_lt.2 (Int.natCast_nonneg _))], by rw [Int.natAbs_natCast]; exact HB.out.below HS.out.below⟩
      have nn : (0 : Int) ≤ (h : Int) * 2 * (y : Int) := by have := Int.natCast_nonneg (h * 2 * y); simpa using this
      have NN := Lib.hid nn
      clear hh fy fh fh2 nn
      go_wp2_with fail
      have hwr : IntKind.i64.wrap (h : Int) = (h : Int) := by rw [IntKind.wrap_i64]; omega
      have y0 := HS.out.b3.c0
      have y1 := HS.out.b3.c1
      have yl := HS.out.b3.lt
      go_cut [11] (fun p wc => ∃ (o : Nat) (rv : Value), p = .pointer (some ⟨o, 0, none⟩) ∧ wr.heap.size ≤ o ∧ Bg wc o false rv ∧ URow wc rv (digs (h * 2 * y)) ∧ Below wr.heap.size wr wc)
      case first =>
        go_region_held3 (fun w' => Below wr.heap.size wr w' ∧ ∀ b o, b < wr.heap.size → w'.cell? ⟨b, o, none⟩ = wr.cell? ⟨b, o, none⟩) ((clear HO1 HM1 HM2; first | (with_reducible exact held_drew) | (with_reducible exact held_below ‹_› ‹_›) | (refine held_of ?_; repeat' (first | (with_reducible exact (‹KwB wr _›).b) | (with_reducible refine Below.setCell ?_ ?_ _) | (with_reducible refine Below.alloc ?_ ?_ _) | (with_reducible refine Below.drew ?_) | (with_reducible exact Below.refl _ _) | omega | (simp; done) | (simp; omega)))))
          (first
            | (go_at_call_of 39 (Value.int IntKind.i64 2); (with_reducible refine (of_v 2 (by omega) (by omega) _).mono ?_); rintro e w2 ⟨v2, rfl, hv2, hb2⟩; have hKw := KwB.mk (held_below ‹_› hb2).1; have hz2 := hKw.b.size; (first | (have hv1' := hv1.below hb2) | (have hv1' := hv1.later hb2)); (first | (have M := Bg.after hb2) | (have M := M.next hb2) | skip))
            | (go_at_call 39; (with_reducible refine (HO1.out _).mono ?_); rintro e w1 ⟨v1, rfl, hv1, hb1⟩; have hKw := KwB.mk (held_below ‹_› hb1).1; have hz1 := hKw.b.size; (first | (have M := Bg.after hb1) | (have M := Bg.afterD hb1) | skip))
            | (go_at_call_of 50 (Value.slice pb lb cb); (with_reducible refine (HM2.out _ _ _ (by first | exact hv3 | exact hv3.alloc _) (HYV.out.below (KwB.mk (by assumption : _ ∧ _).1).b)).mono ?_); rintro e w4 ⟨v4, rfl, hv4, hb4⟩; have hKw := KwB.mk (held_below ‹_› hb4).1; have hz4 := hKw.b.size; (first | (have M := Bg.after hb4) | (have M := M.next hb4) | skip); (try simp only [World.size_drew] at M); (try (have m0 := M.c0; have m1 := M.c1; have mf := M.f0; have mg := M.f1; have ml := M.lt)); obtain ⟨p4, n4, c4, rfl⟩ := hv4.formN NN.out)
            | (go_at_call 50; (with_reducible refine (HM1.out _ _ _ (by first | exact hv1' | exact hv1'.alloc _) (by first | exact hv2 | exact hv2.alloc _)).mono ?_); rintro e w3 ⟨v3, rfl, hv3, hb3⟩; have hKw := KwB.mk (held_below ‹_› hb3).1; have hz3 := hKw.b.size; (first | (have M := Bg.after hb3) | (have M := M.next hb3) | skip)))
        all_goals
          go_wp2_with fail
          go_meet
          case rel =>
            have hu : URow w4 (.slice p4 n4 c4) (digs (h * 2 * y)) := BigV.row (m := false) (by rw [show ((h * 2 * y : Nat) : Int) = (h : Int) * 2 * (y : Int) by push_cast; rfl]; exact hv4)
            first
              | exact ⟨_, _, rfl, hz4, Bg.new _ _ _ _, hu.below ((Below.refl w4.heap.size w4).alloc (Nat.le_refl _) _), hKw.b.alloc hz4 _⟩
              | exact ⟨_, _, rfl, by first | exact hz3 | exact hz2 | exact hz1 | exact Nat.le_refl _, (M.set0 _).set1 _, (hu.set M 0 _).set (M.set0 _) 1 _, (hKw.b.setCell (by first | exact hz3 | exact hz2 | exact hz1 | exact Nat.le_refl _) _).setCell (by first | exact hz3 | exact hz2 | exact hz1 | exact Nat.le_refl _) _⟩
      case rest =>
        clear HO1 HM1 HM2 y0 y1 yl hwr HYV NN
        obtain ⟨o, rv, rfl, hlo, hM, hrow, hbw⟩ := hcut
        have HS2 := Lib.hid (HS.out.next hbw)
        have HM := Lib.hid hM
        have HRw := Lib.hid hrow
        have hlo2 : w.heap.size + 4 ≤ o := by have := HS.out.b3.lt; omega
        clear hM hrow hbw hlo HS
        go_upto_if 39 with fail
        go_cut [] (fun wc => ∃ rv, Bg wc o false rv ∧ URow wc rv (digs (t * y)) ∧ OvW w wc ma (.slice pa la ca) mb (.slice pb lb cb))
        case first =>
          obtain ⟨pr, cr, rfl, -, -⟩ := id HRw.out
          generalize hlr : (digs (h * 2 * y)).length = lr at *
          have HLR := Lib.hid hlr
          clear hlr
          have m0 := HM.out.c0
          have m1 := HM.out.c1
          have mf := HM.out.f0
          have mg := HM.out.f1
          have ml := HM.out.lt
          have y0 := HS2.out.b3.c0
          have y1 := HS2.out.b3.c1
          have yl := HS2.out.b3.lt
          by_cases hodd : t % 2 = 1
          · have ho1 : ((t : Int) % 2 == 1) = true := by simp; omega
            have HE : Hid (h * 2 * y + y = t * y) := by
              have := HH.out
              show _ = _
              rw [show t = h * 2 + 1 by omega, Nat.add_mul, Nat.one_mul]
            have HAd := Lib.hid (added_any false false (.slice pr lr cr) (.slice pb lb cb) (h * 2 * y) y wc HRw.out (HB.out.below HS2.out.below) (Nat.le_trans (len_mul (small4 (by have := HH.out; omega)) HY.out) (by decide)) (Nat.le_trans (digs_len HY.out) (by decide)))
            go_wp2_with fail
            refine HAd.out.mono ?_
            rintro e w5 ⟨v5, rfl, hrow5, hb5⟩
            obtain ⟨p5, n5, c5, rfl⟩ := owns_slice hrow5
            have HM5 := Lib.hid (HM.out.next hb5)
            have HU5 := Lib.hid (URow.of_owns hrow5)
            have HS5 := Lib.hid (HS2.out.next hb5)
            clear hrow5 m0 m1 mf mg HAd HRw
            have m0 := HM5.out.c0
            have m1 := HM5.out.c1
            have mf := HM5.out.f0
            have mg := HM5.out.f1
            go_wp2_with fail
            go_meet
            case rel =>
              rw [HE.out] at HU5
              exact ⟨_, (HM5.out.set0 _).set1 _, (HU5.out.set HM5.out 0 _).set (HM5.out.set0 _) 1 _, (HS5.out.set (by omega) _).set (by omega) _⟩
          · have ho1 : ((t : Int) % 2 == 1) = false := by simp; omega
            have HE : Hid (h * 2 * y = t * y) := by
              have := HH.out
              show _ = _
              rw [show h * 2 = t by omega]
            go_wp2_with fail
            go_meet
            case rel => exact ⟨_, HM.out, by rw [← HE.out]; exact HRw.out, HS2.out⟩
        case rest =>
          clear HM HRw HS2 HH hh1 hh2
          obtain ⟨rv, hM, hrow, hS⟩ := hcut
          have HAm : Hid (Calls Tryz.prog 49 #[.agg #[.bool false, rv], .agg #[.bool false, .slice pa la ca]] wc fun e w' => e = .returned (.int .i64 (cmpN (t * y) x)) ∧ Below wc.heap.size wc w') := by
            have := amounts_v (big_of hrow) (big_of (HA.out.below hS.below)) (mul_fit (mul_lt (small4 ht) HY.out) (by decide)) (mul_fit HX.out (by decide))
            rwa [Int.natAbs_natCast, Int.natAbs_natCast] at this
          obtain ⟨pr, cr, rfl, -, -⟩ := hrow
          generalize (digs (t * y)).length = lr at *
          have HS := Lib.hid hS
          have m0 := hM.c0
          have m1 := hM.c1
          have x0 := hS.b2.c0
          have x1 := hS.b2.c1
          clear hM hS
          by_cases hle : t * y ≤ x
          · have hc := cmp_le hle
            have HR2 := Lib.hid (HT.out.1 hle)
            generalize cmpN (t * y) x = cc at *
            clear hle HT HR
            go_wp2_with fail
            refine HAm.out.mono ?_
            rintro e w5 ⟨rfl, hb5⟩
            have HS5 := Lib.hid (HS.out.next hb5)
            clear hb5
            go_wp2_with fail
            go_roundw
            case rel => exact ⟨t, k, by omega, by go_num, by go_num, HR2.out, HS5.out⟩
            case measure => simp [intOf]
          · have hc := cmp_gt hle
            have HR2 := Lib.hid (HT.out.2 hle)
            generalize cmpN (t * y) x = cc at *
            clear hle HT HR
            go_wp2_with fail
            refine HAm.out.mono ?_
            rintro e w5 ⟨rfl, hb5⟩
            have HS5 := Lib.hid (HS.out.next hb5)
            clear hb5
            go_wp2_with fail
            go_roundw
            case rel => exact ⟨n, k, by omega, by go_num, by go_num, HR2.out, HS5.out⟩
            case measure => simp [intOf]
end Go.Proofs.YtokbdleokihdaaaGreatDoor
namespace Go.Proofs.YtokbdleokihdaaaGreatDoor
open Go.RowKit

theorem tdiv_abs (a b : Int) : a.tdiv b = if decide (a < 0) = decide (b < 0) then ((a.natAbs / b.natAbs : Nat) : Int) else -((a.natAbs / b.natAbs : Nat) : Int) := by
  have hd : ∀ m n : Nat, (m : Int).tdiv (n : Int) = ((m / n : Nat) : Int) := fun m n => by rw [Int.ofNat_tdiv]
  by_cases ha : a < 0
  · obtain ⟨m, rfl⟩ : ∃ m : Nat, a = -(m : Int) := ⟨a.natAbs, by omega⟩
    by_cases hb : b < 0
    · obtain ⟨n, rfl⟩ : ∃ n : Nat, b = -(n : Int) := ⟨b.natAbs, by omega⟩
      rw [decide_eq_true ha, decide_eq_true hb, if_pos rfl, Int.neg_tdiv, Int.tdiv_neg, hd]
      simp
    · obtain ⟨n, rfl⟩ : ∃ n : Nat, b = (n : Int) := ⟨b.natAbs, by omega⟩
      rw [decide_eq_true ha, decide_eq_false hb, if_neg (by decide), Int.neg_tdiv, hd]
      simp
  · obtain ⟨m, rfl⟩ : ∃ m : Nat, a = (m : Int) := ⟨a.natAbs, by omega⟩
    by_cases hb : b < 0
    · obtain ⟨n, rfl⟩ : ∃ n : Nat, b = -(n : Int) := ⟨b.natAbs, by omega⟩
      rw [decide_eq_false ha, decide_eq_true hb, if_neg (by decide), Int.tdiv_neg, hd]
      simp
    · obtain ⟨n, rfl⟩ : ∃ n : Nat, b = (n : Int) := ⟨b.natAbs, by omega⟩
      rw [decide_eq_false ha, decide_eq_false hb, if_pos rfl, hd]
      simp

theorem over_v {w : World} {va vb : Value} {a b : Int} (ha : BigV w va a) (hb : BigV w vb b) (fa : a.natAbs < 1000000 ^ 50) (fb : b.natAbs < 1000000 ^ 50) (hb0 : b ≠ 0) :
    Calls Tryz.prog 53 #[va, vb] w fun e w' => e = .returned (.tuple #[.int .i64 (if In64 (a.tdiv b) then a.tdiv b else 0), .bool (decide (In64 (a.tdiv b)))]) ∧ Below w.heap.size w w' := by
  obtain ⟨ra, rfl, ha⟩ := ha
  obtain ⟨rb, rfl, hb⟩ := hb
  refine (over_nat (decide (a < 0)) (decide (b < 0)) ra rb _ _ (by omega) fa fb w ha hb).mono ?_
  rintro e w' ⟨z, ok, hz, rfl, rfl, hbw⟩
  rw [← tdiv_abs] at hz
  subst hz
  exact ⟨by simp only [decide_eq_true_eq], hbw⟩
end Go.Proofs.YtokbdleokihdaaaGreatDoor
namespace Go.Proofs.YtokbdleokihdaaaGreatDoor
open Go.RowKit
theorem fits_res {z : Int} (f : Fit z) : ∃ (ok : Bool) (r : Int), ok = decide (In64 z) ∧ r = (if ok then z else 0) ∧ ∀ W v, BigV W v z → Calls Tryz.prog 36 #[v] W fun e w' => e = .returned (.tuple #[.int .i64 r, .bool ok]) ∧ Below W.heap.size W w' := by
  refine ⟨decide (In64 z), if decide (In64 z) then z else 0, rfl, rfl, fun W v hv => ?_⟩
  have h := fits_v hv f
  simp only [decide_eq_true_eq]
  exact h
theorem over_res {a b : Int} (fa : a.natAbs < 1000000 ^ 50) (fb : b.natAbs < 1000000 ^ 50) (hb0 : b ≠ 0) : ∃ (ok : Bool) (r : Int), ok = decide (In64 (a.tdiv b)) ∧ r = (if ok then a.tdiv b else 0) ∧ ∀ W u v, BigV W u a → BigV W v b → Calls Tryz.prog 53 #[u, v] W fun e w' => e = .returned (.tuple #[.int .i64 r, .bool ok]) ∧ Below W.heap.size W w' := by
  refine ⟨decide (In64 (a.tdiv b)), if decide (In64 (a.tdiv b)) then a.tdiv b else 0, rfl, rfl, fun W u v hu hv => ?_⟩
  have h := over_v hu hv fa fb hb0
  simp only [decide_eq_true_eq]
  exact h
theorem mul_lt40 {a b : Int} (ha : a.natAbs < 1000000 ^ 20) (hb : b.natAbs < 1000000 ^ 20) : (a * b).natAbs < 1000000 ^ 50 := by
  rw [Int.natAbs_mul]
  have h1 : a.natAbs * b.natAbs ≤ 1000000 ^ 20 * b.natAbs := Nat.mul_le_mul_right _ (by omega)
  have h2 : 1000000 ^ 20 * b.natAbs < 1000000 ^ 20 * 1000000 ^ 20 := Nat.mul_lt_mul_of_pos_left hb (by decide)
  rw [← Nat.pow_add] at h2
  exact Nat.lt_trans (Nat.lt_of_le_of_lt h1 h2) (Nat.pow_lt_pow_right (by decide) (by decide))
theorem in64_lt20 {a : Int} (h : In64 a) : a.natAbs < 1000000 ^ 20 := by
  have h1 : a.natAbs < 1000000 ^ 4 := by unfold In64 at h; omega
  exact Nat.lt_trans h1 (Nat.pow_lt_pow_right (by decide) (by decide))
theorem in64_lt {a : Int} (h : In64 a) : a.natAbs < 1000000 ^ 50 := Nat.lt_trans (in64_lt20 h) (Nat.pow_lt_pow_right (by decide) (by decide))
theorem fit20 {a : Int} (h : a.natAbs < 1000000 ^ 20) : Fit a := Fit.of_lt h (by decide)
theorem held_last {W0 w1 w2 : World} (h : Below W0.heap.size W0 w1 ∧ ∀ b o, b < W0.heap.size → w1.cell? ⟨b, o, none⟩ = W0.cell? ⟨b, o, none⟩) (hb : Below w1.heap.size w1 w2) : Below W0.heap.size W0 w2 := h.1.trans (hb.mono h.1.size)

set_option maxRecDepth 100000 in
set_option maxHeartbeats 4000000 in
theorem two_minus (kind unit : Int) {w : World} {va vb : Value} {a b : Int} (ha : BigV w va a) (hb : BigV w vb b) (fa : Fit a) (fb : Fit b) (fab : Fit (a - b)) :
    Calls Tryz.prog 40 #[.int .i64 4, .int .i64 kind, va, vb, .int .i64 unit] w fun e w' => ∃ ok, ok = decide (In64 (a - b)) ∧ e = .returned (.tuple #[.agg #[.int .i64 (if ok then kind else 0), .int .i64 (if ok then a - b else 0), .string ⟨#[]⟩], .int .i64 (if ok then 0 else 4)]) ∧ Below w.heap.size w w' := by
  have VA := Lib.hid ha
  have VB := Lib.hid hb
  obtain ⟨ok, r, hok, hr, hF⟩ := fits_res fab
  have HOK := Lib.hid hok
  have HR := Lib.hid hr
  have HF := Lib.hid hF
  have HRs := Lib.hid (fun W => result_any kind r ok W)
  obtain ⟨pa, ca, rfl⟩ := ha.form
  obtain ⟨pb, cb, rfl⟩ := hb.form
  have hlb : (digs b.natAbs).length = 0 ↔ b.natAbs = 0 := digs_nil
  generalize (digs a.natAbs).length = la at *
  generalize (digs b.natAbs).length = lb at *
  generalize decide (a < 0) = ma at *
  generalize decide (b < 0) = mb at *
  obtain ⟨hB3, hz3, X1, X2, X3⟩ := boxes3 w #[.bool ma, .slice pa la ca] #[.bool mb, .slice pb lb cb] #[.int .i64 0, .int .i64 0, .string ⟨#[]⟩] 65 65 27
  have F3 : ∀ i, World.frozen? (((w.alloc (.cells #[.bool ma, .slice pa la ca] 65)).alloc (.cells #[.bool mb, .slice pb lb cb] 65)).alloc (.cells #[.int .i64 0, .int .i64 0, .string ⟨#[]⟩] 27)) ⟨w.heap.size + 2, i, none⟩ = false := fun i => World.frozen?_alloc_at _ _ _ _ (by simp)
  have a0 := X1 0
  have a1 := X1 1
  have b0 := X2 0
  have b1 := X2 1
  have HX := Lib.hid X3
  have HF3 := Lib.hid F3
  clear ha hb X1 X2 X3 F3 hok hr hF
  have HM := Lib.hid (fun (W : World) (v1 : Value) (h1 : BigV W v1 b) => minus_v h1)
  have HP := Lib.hid (fun (W : World) (v1 v2 : Value) (h1 : BigV W v1 a) (h2 : BigV W v2 (-b)) => plus_v h1 h2 fa (by unfold Fit at *; rwa [Int.natAbs_neg]))
  clear fa fb fab
  go_enter Tryz.func40, Tryz.ntmps40
  go_wp2_with fail
  generalize (((w.alloc (.cells #[.bool ma, .slice pa la ca] 65)).alloc (.cells #[.bool mb, .slice pb lb cb] 65)).alloc (.cells #[.int .i64 0, .int .i64 0, .string ⟨#[]⟩] 27)) = W0 at *
  have hz0 : w.heap.size < W0.heap.size := by omega
  have hz1 : w.heap.size + 1 < W0.heap.size := by omega
  have hz2 : w.heap.size + 2 < W0.heap.size := by omega
  have c0 : W0.cell? ⟨w.heap.size, 0, none⟩ = some (.bool ma) := by rw [a0]; rfl
  have c1 : W0.cell? ⟨w.heap.size, 1, none⟩ = some (.slice pa la ca) := by rw [a1]; rfl
  have e0 : W0.cell? ⟨w.heap.size + 1, 0, none⟩ = some (.bool mb) := by rw [b0]; rfl
  have e1 : W0.cell? ⟨w.heap.size + 1, 1, none⟩ = some (.slice pb lb cb) := by rw [b1]; rfl
  have d0' : W0.cell? ⟨w.heap.size + 2, 0, none⟩ = some (.int .i64 0) := by rw [HX.out]; rfl
  have d1' : W0.cell? ⟨w.heap.size + 2, 1, none⟩ = some (.int .i64 0) := by rw [HX.out]; rfl
  have d2' : W0.cell? ⟨w.heap.size + 2, 2, none⟩ = some (.string ⟨#[]⟩) := by rw [HX.out]; rfl
  have HD := Lib.hid (show W0.cell? ⟨w.heap.size + 2, 0, none⟩ = some (.int .i64 0) ∧ W0.cell? ⟨w.heap.size + 2, 1, none⟩ = some (.int .i64 0) ∧ W0.cell? ⟨w.heap.size + 2, 2, none⟩ = some (.string ⟨#[]⟩) from ⟨d0', d1', d2'⟩)
  replace VA := Lib.hid (VA.out.below hB3)
  replace VB := Lib.hid (VB.out.below hB3)
  have HB := Lib.hid hB3
  clear a0 a1 b0 b1 hz3 hB3 d0' d1' d2' HX
  try (go_wp2_with fail)
  go_region_held3 (fun w' => Below W0.heap.size W0 w' ∧ ∀ b o, b < W0.heap.size → w'.cell? ⟨b, o, none⟩ = W0.cell? ⟨b, o, none⟩) ((first | (with_reducible exact held_drew) | (with_reducible exact held_below ‹_› ‹_›)))
    (first
      | (go_at_call 38; (with_reducible refine (HM.out _ _ (VB.out.below (KwB.mk (by assumption : _ ∧ _).1).b)).mono ?_); rintro e w1 ⟨v1, rfl, hv1, hb1⟩)
      | (go_at_call 52; (with_reducible refine (HP.out _ _ _ (VA.out.below (KwB.mk (by assumption : _ ∧ _).1).b) hv1).mono ?_); rintro e w2 ⟨v2, rfl, hv2, hb2⟩)
      | (go_at_call 36; (with_reducible refine (HF.out _ _ hv2).mono ?_); rintro e w3 ⟨rfl, hb3⟩))
  go_wp2_with fail
  refine (HRs.out _).mono ?_
  rintro e w9 ⟨rfl, hb9⟩
  have HBV := held_last (by assumption) hb9
  have HBA := Lib.hid HBV
  clear HBV
  obtain ⟨⟨d0, d1, d2⟩, ⟨g0, g1, g2⟩⟩ := box_kept HBA.out (n := w.heap.size + 2) hz2 HD.out.1 HD.out.2.1 HD.out.2.2 HF3.out
  have HW := Lib.hid (HB.out.trans (HBA.out.mono (by omega)))
  have hE : (if ok = true then r else 0) = (if ok = true then a - b else 0) := by rw [HR.out]; cases ok <;> rfl
  rw [hE]
  have HE := Lib.hid hE
  clear hE HBA c0 c1 e0 e1
  generalize hkk : (if ok = true then kind else 0) = kk at *
  have Kkk := Lib.hid hkk
  clear hkk
  generalize hrr : (if ok = true then a - b else 0) = rr at *
  have Krr := Lib.hid hrr
  clear hrr
  generalize hee : (if ok = true then (0 : Int) else 4) = ee at *
  have Kee := Lib.hid hee
  clear hee
  go_wp2_with fail
  exact bodyPost_ret (v := .tuple #[.agg #[.int .i64 kk, .int .i64 rr, .string ⟨#[]⟩], .int .i64 ee]) (by simp [results, Tryz.results40, go_sem, d0, d1, d2]) rfl ⟨ok, HOK.out, by rw [Kkk.out, Krr.out, Kee.out], ((HW.out.setCell (p := ⟨w.heap.size + 2, 0, none⟩) (Nat.le_add_right _ _) _).setCell (p := ⟨w.heap.size + 2, 1, none⟩) (Nat.le_add_right _ _) _).setCell (p := ⟨w.heap.size + 2, 2, none⟩) (Nat.le_add_right _ _) _⟩

set_option maxRecDepth 100000 in
set_option maxHeartbeats 4000000 in
theorem two_times (kind unit : Int) {w : World} {va vb : Value} {a b : Int} (ha : BigV w va a) (hb : BigV w vb b) (fa : a.natAbs < 1000000 ^ 20) (fb : b.natAbs < 1000000 ^ 20) (hu : In64 unit) (hu0 : unit ≠ 0) :
    Calls Tryz.prog 40 #[.int .i64 5, .int .i64 kind, va, vb, .int .i64 unit] w fun e w' => ∃ ok, ok = decide (In64 ((a * b).tdiv unit)) ∧ e = .returned (.tuple #[.agg #[.int .i64 (if ok then kind else 0), .int .i64 (if ok then (a * b).tdiv unit else 0), .string ⟨#[]⟩], .int .i64 (if ok then 0 else 4)]) ∧ Below w.heap.size w w' := by
  have VA := Lib.hid ha
  have VB := Lib.hid hb
  obtain ⟨ok, r, hok, hr, hF⟩ := over_res (a := a * b) (b := unit) (mul_lt40 fa fb) (in64_lt hu) hu0
  have HOK := Lib.hid hok
  have HR := Lib.hid hr
  have HF := Lib.hid hF
  have HRs := Lib.hid (fun W => result_any kind r ok W)
  obtain ⟨pa, ca, rfl⟩ := ha.form
  obtain ⟨pb, cb, rfl⟩ := hb.form
  have hlb : (digs b.natAbs).length = 0 ↔ b.natAbs = 0 := digs_nil
  generalize (digs a.natAbs).length = la at *
  generalize (digs b.natAbs).length = lb at *
  generalize decide (a < 0) = ma at *
  generalize decide (b < 0) = mb at *
  obtain ⟨hB3, hz3, X1, X2, X3⟩ := boxes3 w #[.bool ma, .slice pa la ca] #[.bool mb, .slice pb lb cb] #[.int .i64 0, .int .i64 0, .string ⟨#[]⟩] 65 65 27
  have F3 : ∀ i, World.frozen? (((w.alloc (.cells #[.bool ma, .slice pa la ca] 65)).alloc (.cells #[.bool mb, .slice pb lb cb] 65)).alloc (.cells #[.int .i64 0, .int .i64 0, .string ⟨#[]⟩] 27)) ⟨w.heap.size + 2, i, none⟩ = false := fun i => World.frozen?_alloc_at _ _ _ _ (by simp)
  have a0 := X1 0
  have a1 := X1 1
  have b0 := X2 0
  have b1 := X2 1
  have HX := Lib.hid X3
  have HF3 := Lib.hid F3
  clear ha hb X1 X2 X3 F3 hok hr hF
  have HM := Lib.hid (fun (W : World) (v1 v2 : Value) (h1 : BigV W v1 a) (h2 : BigV W v2 b) => times_v h1 h2 (fit20 fa) (fit20 fb))
  have HO := Lib.hid (fun (W : World) => of_v unit hu.1 hu.2 W)
  have hu1 := hu.1
  have hu2 := hu.2
  clear fa fb
  go_enter Tryz.func40, Tryz.ntmps40
  go_wp2_with fail
  generalize (((w.alloc (.cells #[.bool ma, .slice pa la ca] 65)).alloc (.cells #[.bool mb, .slice pb lb cb] 65)).alloc (.cells #[.int .i64 0, .int .i64 0, .string ⟨#[]⟩] 27)) = W0 at *
  have hz0 : w.heap.size < W0.heap.size := by omega
  have hz1 : w.heap.size + 1 < W0.heap.size := by omega
  have hz2 : w.heap.size + 2 < W0.heap.size := by omega
  have c0 : W0.cell? ⟨w.heap.size, 0, none⟩ = some (.bool ma) := by rw [a0]; rfl
  have c1 : W0.cell? ⟨w.heap.size, 1, none⟩ = some (.slice pa la ca) := by rw [a1]; rfl
  have e0 : W0.cell? ⟨w.heap.size + 1, 0, none⟩ = some (.bool mb) := by rw [b0]; rfl
  have e1 : W0.cell? ⟨w.heap.size + 1, 1, none⟩ = some (.slice pb lb cb) := by rw [b1]; rfl
  have d0' : W0.cell? ⟨w.heap.size + 2, 0, none⟩ = some (.int .i64 0) := by rw [HX.out]; rfl
  have d1' : W0.cell? ⟨w.heap.size + 2, 1, none⟩ = some (.int .i64 0) := by rw [HX.out]; rfl
  have d2' : W0.cell? ⟨w.heap.size + 2, 2, none⟩ = some (.string ⟨#[]⟩) := by rw [HX.out]; rfl
  have HD := Lib.hid (show W0.cell? ⟨w.heap.size + 2, 0, none⟩ = some (.int .i64 0) ∧ W0.cell? ⟨w.heap.size + 2, 1, none⟩ = some (.int .i64 0) ∧ W0.cell? ⟨w.heap.size + 2, 2, none⟩ = some (.string ⟨#[]⟩) from ⟨d0', d1', d2'⟩)
  replace VA := Lib.hid (VA.out.below hB3)
  replace VB := Lib.hid (VB.out.below hB3)
  have HB := Lib.hid hB3
  clear a0 a1 b0 b1 hz3 hB3 d0' d1' d2' HX
  try (go_wp2_with fail)
  refine (HM.out _ _ _ VA.out VB.out).mono ?_
  rintro e w1 ⟨v1, rfl, hv1, hb1⟩
  go_wp2_with fail
  refine (HO.out _).mono ?_
  rintro e w2 ⟨v2, rfl, hv2, hb2⟩
  go_wp2_with fail
  refine (HF.out _ _ _ (hv1.below hb2) hv2).mono ?_
  rintro e w3 ⟨rfl, hb3⟩
  have hHeld := held_of ((hb1.trans (hb2.mono hb1.size)).trans (hb3.mono (Nat.le_trans hb1.size hb2.size)))
  clear hu1 hu2
  go_wp2_with fail
  refine (HRs.out _).mono ?_
  rintro e w9 ⟨rfl, hb9⟩
  have HBV := held_last (by assumption) hb9
  have HBA := Lib.hid HBV
  clear HBV
  obtain ⟨⟨d0, d1, d2⟩, ⟨g0, g1, g2⟩⟩ := box_kept HBA.out (n := w.heap.size + 2) hz2 HD.out.1 HD.out.2.1 HD.out.2.2 HF3.out
  have HW := Lib.hid (HB.out.trans (HBA.out.mono (by omega)))
  have hE : (if ok = true then r else 0) = (if ok = true then (a * b).tdiv unit else 0) := by rw [HR.out]; cases ok <;> rfl
  rw [hE]
  have HE := Lib.hid hE
  clear hE HBA c0 c1 e0 e1
  generalize hkk : (if ok = true then kind else 0) = kk at *
  have Kkk := Lib.hid hkk
  clear hkk
  generalize hrr : (if ok = true then (a * b).tdiv unit else 0) = rr at *
  have Krr := Lib.hid hrr
  clear hrr
  generalize hee : (if ok = true then (0 : Int) else 4) = ee at *
  have Kee := Lib.hid hee
  clear hee
  go_wp2_with fail
  exact bodyPost_ret (v := .tuple #[.agg #[.int .i64 kk, .int .i64 rr, .string ⟨#[]⟩], .int .i64 ee]) (by simp [results, Tryz.results40, go_sem, d0, d1, d2]) rfl ⟨ok, HOK.out, by rw [Kkk.out, Krr.out, Kee.out], ((HW.out.setCell (p := ⟨w.heap.size + 2, 0, none⟩) (Nat.le_add_right _ _) _).setCell (p := ⟨w.heap.size + 2, 1, none⟩) (Nat.le_add_right _ _) _).setCell (p := ⟨w.heap.size + 2, 2, none⟩) (Nat.le_add_right _ _) _⟩

set_option maxRecDepth 100000 in
set_option maxHeartbeats 4000000 in
theorem two_over (kind unit : Int) {w : World} {va vb : Value} {a b : Int} (ha : BigV w va a) (hb : BigV w vb b) (fa : a.natAbs < 1000000 ^ 20) (fb : b.natAbs < 1000000 ^ 20) (hu : In64 unit) (hb0 : b ≠ 0) :
    Calls Tryz.prog 40 #[.int .i64 6, .int .i64 kind, va, vb, .int .i64 unit] w fun e w' => ∃ ok, ok = decide (In64 ((a * unit).tdiv b)) ∧ e = .returned (.tuple #[.agg #[.int .i64 (if ok then kind else 0), .int .i64 (if ok then (a * unit).tdiv b else 0), .string ⟨#[]⟩], .int .i64 (if ok then 0 else 4)]) ∧ Below w.heap.size w w' := by
  have VA := Lib.hid ha
  have VB := Lib.hid hb
  obtain ⟨ok, r, hok, hr, hF⟩ := over_res (a := a * unit) (b := b) (mul_lt40 fa (in64_lt20 hu)) (Nat.lt_trans fb (by decide)) hb0
  have HOK := Lib.hid hok
  have HR := Lib.hid hr
  have HF := Lib.hid hF
  have HRs := Lib.hid (fun W => result_any kind r ok W)
  obtain ⟨pa, ca, rfl⟩ := ha.form
  obtain ⟨pb, cb, rfl⟩ := hb.form
  have hlb : (digs b.natAbs).length = 0 ↔ b.natAbs = 0 := digs_nil
  generalize (digs a.natAbs).length = la at *
  generalize (digs b.natAbs).length = lb at *
  generalize decide (a < 0) = ma at *
  generalize decide (b < 0) = mb at *
  obtain ⟨hB3, hz3, X1, X2, X3⟩ := boxes3 w #[.bool ma, .slice pa la ca] #[.bool mb, .slice pb lb cb] #[.int .i64 0, .int .i64 0, .string ⟨#[]⟩] 65 65 27
  have F3 : ∀ i, World.frozen? (((w.alloc (.cells #[.bool ma, .slice pa la ca] 65)).alloc (.cells #[.bool mb, .slice pb lb cb] 65)).alloc (.cells #[.int .i64 0, .int .i64 0, .string ⟨#[]⟩] 27)) ⟨w.heap.size + 2, i, none⟩ = false := fun i => World.frozen?_alloc_at _ _ _ _ (by simp)
  have a0 := X1 0
  have a1 := X1 1
  have b0 := X2 0
  have b1 := X2 1
  have HX := Lib.hid X3
  have HF3 := Lib.hid F3
  clear ha hb X1 X2 X3 F3 hok hr hF
  have HM := Lib.hid (fun (W : World) (v1 v2 : Value) (h1 : BigV W v1 a) (h2 : BigV W v2 unit) => times_v h1 h2 (fit20 fa) (fit20 (in64_lt20 hu)))
  have HO := Lib.hid (fun (W : World) => of_v unit hu.1 hu.2 W)
  have hlt : ((lb : Int) == 0) = false := by simp; omega
  have hlt2 : lb ≠ 0 := by omega
  clear fa fb hlb
  go_enter Tryz.func40, Tryz.ntmps40
  go_wp2_with fail
  generalize (((w.alloc (.cells #[.bool ma, .slice pa la ca] 65)).alloc (.cells #[.bool mb, .slice pb lb cb] 65)).alloc (.cells #[.int .i64 0, .int .i64 0, .string ⟨#[]⟩] 27)) = W0 at *
  have hz0 : w.heap.size < W0.heap.size := by omega
  have hz1 : w.heap.size + 1 < W0.heap.size := by omega
  have hz2 : w.heap.size + 2 < W0.heap.size := by omega
  have c0 : W0.cell? ⟨w.heap.size, 0, none⟩ = some (.bool ma) := by rw [a0]; rfl
  have c1 : W0.cell? ⟨w.heap.size, 1, none⟩ = some (.slice pa la ca) := by rw [a1]; rfl
  have e0 : W0.cell? ⟨w.heap.size + 1, 0, none⟩ = some (.bool mb) := by rw [b0]; rfl
  have e1 : W0.cell? ⟨w.heap.size + 1, 1, none⟩ = some (.slice pb lb cb) := by rw [b1]; rfl
  have d0' : W0.cell? ⟨w.heap.size + 2, 0, none⟩ = some (.int .i64 0) := by rw [HX.out]; rfl
  have d1' : W0.cell? ⟨w.heap.size + 2, 1, none⟩ = some (.int .i64 0) := by rw [HX.out]; rfl
  have d2' : W0.cell? ⟨w.heap.size + 2, 2, none⟩ = some (.string ⟨#[]⟩) := by rw [HX.out]; rfl
  have HD := Lib.hid (show W0.cell? ⟨w.heap.size + 2, 0, none⟩ = some (.int .i64 0) ∧ W0.cell? ⟨w.heap.size + 2, 1, none⟩ = some (.int .i64 0) ∧ W0.cell? ⟨w.heap.size + 2, 2, none⟩ = some (.string ⟨#[]⟩) from ⟨d0', d1', d2'⟩)
  replace VA := Lib.hid (VA.out.below hB3)
  replace VB := Lib.hid (VB.out.below hB3)
  have HB := Lib.hid hB3
  clear a0 a1 b0 b1 hz3 hB3 d0' d1' d2' HX
  try (go_wp2_with fail)
  go_region_held3 (fun w' => Below W0.heap.size W0 w' ∧ ∀ b o, b < W0.heap.size → w'.cell? ⟨b, o, none⟩ = W0.cell? ⟨b, o, none⟩) ((first | (with_reducible exact held_drew) | (with_reducible exact held_below ‹_› ‹_›)))
    (first
      | (go_at_call 39; (with_reducible refine (HO.out _).mono ?_); rintro e w1 ⟨v1, rfl, hv1, hb1⟩)
      | (go_at_call 50; (with_reducible refine (HM.out _ _ _ (VA.out.below (KwB.mk (by assumption : _ ∧ _).1).b) hv1).mono ?_); rintro e w2 ⟨v2, rfl, hv2, hb2⟩)
      | (go_at_call 53; (with_reducible refine (HF.out _ _ _ hv2 (VB.out.below (KwB.mk (by assumption : _ ∧ _).1).b)).mono ?_); rintro e w3 ⟨rfl, hb3⟩))
  go_wp2_with fail
  refine (HRs.out _).mono ?_
  rintro e w9 ⟨rfl, hb9⟩
  have HBV := held_last (by assumption) hb9
  have HBA := Lib.hid HBV
  clear HBV
  obtain ⟨⟨d0, d1, d2⟩, ⟨g0, g1, g2⟩⟩ := box_kept HBA.out (n := w.heap.size + 2) hz2 HD.out.1 HD.out.2.1 HD.out.2.2 HF3.out
  have HW := Lib.hid (HB.out.trans (HBA.out.mono (by omega)))
  have hE : (if ok = true then r else 0) = (if ok = true then (a * unit).tdiv b else 0) := by rw [HR.out]; cases ok <;> rfl
  rw [hE]
  have HE := Lib.hid hE
  clear hE HBA c0 c1 e0 e1
  generalize hkk : (if ok = true then kind else 0) = kk at *
  have Kkk := Lib.hid hkk
  clear hkk
  generalize hrr : (if ok = true then (a * unit).tdiv b else 0) = rr at *
  have Krr := Lib.hid hrr
  clear hrr
  generalize hee : (if ok = true then (0 : Int) else 4) = ee at *
  have Kee := Lib.hid hee
  clear hee
  go_wp2_with fail
  exact bodyPost_ret (v := .tuple #[.agg #[.int .i64 kk, .int .i64 rr, .string ⟨#[]⟩], .int .i64 ee]) (by simp [results, Tryz.results40, go_sem, d0, d1, d2]) rfl ⟨ok, HOK.out, by rw [Kkk.out, Krr.out, Kee.out], ((HW.out.setCell (p := ⟨w.heap.size + 2, 0, none⟩) (Nat.le_add_right _ _) _).setCell (p := ⟨w.heap.size + 2, 1, none⟩) (Nat.le_add_right _ _) _).setCell (p := ⟨w.heap.size + 2, 2, none⟩) (Nat.le_add_right _ _) _⟩
end Go.Proofs.YtokbdleokihdaaaGreatDoor
namespace Go.Proofs.YtokbdleokihdaaaGreatDoor
open Go.RowKit

set_option maxRecDepth 100000 in
set_option maxHeartbeats 4000000 in
theorem two_zero (kind unit : Int) {w : World} {va vb : Value} {a : Int} (ha : BigV w va a) (hb : BigV w vb 0) :
    Calls Tryz.prog 40 #[.int .i64 6, .int .i64 kind, va, vb, .int .i64 unit] w fun e w' => e = .returned (.tuple #[Dt.zero.v, .int .i64 4]) ∧ Below w.heap.size w w' := by
  obtain ⟨pa, ca, rfl⟩ := ha.form
  obtain ⟨pb, cb, rfl⟩ := hb.form
  have hlb : (digs (0 : Int).natAbs).length = 0 := digs_nil.2 rfl
  have hm : decide ((0 : Int) < 0) = false := rfl
  rw [hlb, hm]
  generalize (digs a.natAbs).length = la at *
  generalize decide (a < 0) = ma at *
  clear ha hb hlb hm
  obtain ⟨hB3, hz3, -, -, X3⟩ := boxes3 w #[.bool ma, .slice pa la ca] #[.bool false, .slice pb 0 cb] #[.int .i64 0, .int .i64 0, .string ⟨#[]⟩] 65 65 27
  have HB := Lib.hid hB3
  clear hB3 hz3 X3
  go_enter Tryz.func40, Tryz.ntmps40
  go_wp2_with fail
  exact bodyPost_ret (v := .tuple #[.agg #[.int .i64 0, .int .i64 0, .string ⟨#[]⟩], .int .i64 4]) (by simp [results, Tryz.results40, go_sem]) rfl ⟨rfl, HB.out⟩

def twoZ (op a b unit : Int) : Int := if op = 3 then a + b else if op = 4 then a - b else if op = 5 then (a * b).tdiv unit else (a * unit).tdiv b
def twoOk (op a b unit : Int) : Bool := (op != 6 || b != 0) && decide (In64 (twoZ op a b unit))
/-- What two answers. -/
def twoD (kind op a b unit : Int) : Dt × Int := if twoOk op a b unit then (⟨kind, twoZ op a b unit, ⟨#[]⟩⟩, 0) else (Dt.zero, 4)

theorem two_any (op kind unit : Int) (hop : op = 3 ∨ op = 4 ∨ op = 5 ∨ op = 6) {w : World} {va vb : Value} {a b : Int} (ha : BigV w va a) (hb : BigV w vb b) (fa : In64 a) (fb : In64 b) (hu : In64 unit) (hu0 : unit ≠ 0) :
    Calls Tryz.prog 40 #[.int .i64 op, .int .i64 kind, va, vb, .int .i64 unit] w fun e w' => e = .returned (.tuple #[(twoD kind op a b unit).1.v, .int .i64 (twoD kind op a b unit).2]) ∧ Below w.heap.size w w' := by
  have fab : ∀ z : Int, z.natAbs < 1000000 ^ 5 → Fit z := fun z h => Fit.of_lt h (by decide)
  have f1 : a.natAbs < 1000000 ^ 4 := by unfold In64 at fa; omega
  have f2 : b.natAbs < 1000000 ^ 4 := by unfold In64 at fb; omega
  rcases hop with rfl | rfl | rfl | rfl
  · refine (two_plus kind unit ha hb (fit20 (in64_lt20 fa)) (fit20 (in64_lt20 fb)) (fab _ (by omega))).mono ?_
    rintro e w' ⟨ok, rfl, rfl, h⟩
    refine ⟨?_, h⟩
    unfold twoD twoOk twoZ
    simp only [if_true]
    by_cases hz : In64 (a + b) <;> simp [hz, Dt.zero]
  · refine (two_minus kind unit ha hb (fit20 (in64_lt20 fa)) (fit20 (in64_lt20 fb)) (fab _ (by omega))).mono ?_
    rintro e w' ⟨ok, rfl, rfl, h⟩
    refine ⟨?_, h⟩
    unfold twoD twoOk twoZ
    by_cases hz : In64 (a - b) <;> simp [hz, Dt.zero]
  · refine (two_times kind unit ha hb (in64_lt20 fa) (in64_lt20 fb) hu hu0).mono ?_
    rintro e w' ⟨ok, rfl, rfl, h⟩
    refine ⟨?_, h⟩
    unfold twoD twoOk twoZ
    by_cases hz : In64 ((a * b).tdiv unit) <;> simp [hz, Dt.zero]
  · by_cases hb0 : b = 0
    · subst hb0
      refine (two_zero kind unit ha hb).mono ?_
      rintro e w' ⟨rfl, h⟩
      exact ⟨rfl, h⟩
    · refine (two_over kind unit ha hb (in64_lt20 fa) (in64_lt20 fb) hu hb0).mono ?_
      rintro e w' ⟨ok, rfl, rfl, h⟩
      refine ⟨?_, h⟩
      unfold twoD twoOk twoZ
      by_cases hz : In64 ((a * unit).tdiv b) <;> simp [hz, hb0, Dt.zero]
end Go.Proofs.YtokbdleokihdaaaGreatDoor

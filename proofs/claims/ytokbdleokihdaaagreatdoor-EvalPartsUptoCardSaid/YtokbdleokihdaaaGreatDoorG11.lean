/- Contracts of datum.scaled, cmp.Compare of uint64, datum.order. Contract of datum.order: how two numbers stand, by what they are. Contract of datum.compared: what a comparison of two values answers. -/
import Derived.Test.YtokbdleokihdaaaGreatDoorWide
import Derived.Test.YtokbdleokihdaaaGreatDoorDatCmp
import Derived.Deep.CutRange
import Derived.Deep.DeepCutAuto
import Derived.Test.YtokbdleokihdaaaGreatDoorG02
namespace Go.Proofs.YtokbdleokihdaaaGreatDoor
open Go.RowKit

theorem nan_u64 (a : Int) (w : World) : Calls Tryz.prog 111 #[.int .u64 a] w fun e w' => e = .returned (.bool false) ∧ w = w' := by
  go_enter Tryz.func111, Tryz.ntmps111
  go_wp2
  go_ret
  exact ⟨by simp, rfl⟩

theorem cmp_u64 (a b : Int) (w : World) : Calls Tryz.prog 105 #[.int .u64 a, .int .u64 b] w fun e w' => e = .returned (.int .i64 (cmpI a b)) ∧ w = w' := by
  by_cases h1 : a < b
  · have e : cmpI a b = -1 := by unfold cmpI; rw [if_pos h1]
    rw [e]; clear e
    go_enter Tryz.func105, Tryz.ntmps105
    go_wp2_with (first | (go_at_call 111; refine (nan_u64 _ _).mono ?_; rintro e w' ⟨rfl, rfl⟩))
    go_ret
    exact ⟨rfl, rfl⟩
  · by_cases h2 : b < a
    · have e : cmpI a b = 1 := by unfold cmpI; rw [if_neg h1, if_pos h2]
      rw [e]; clear e
      go_enter Tryz.func105, Tryz.ntmps105
      go_wp2_with (first | (go_at_call 111; refine (nan_u64 _ _).mono ?_; rintro e w' ⟨rfl, rfl⟩))
      go_ret
      exact ⟨rfl, rfl⟩
    · have e : cmpI a b = 0 := by unfold cmpI; rw [if_neg h1, if_neg h2]
      rw [e]; clear e
      go_enter Tryz.func105, Tryz.ntmps105
      go_wp2_with (first | (go_at_call 111; refine (nan_u64 _ _).mono ?_; rintro e w' ⟨rfl, rfl⟩))
      go_ret
      exact ⟨rfl, rfl⟩

/-- What a number is a multiple of: an INT of ten thousand. -/
def unitOf (k : Int) : Int := if k = 2 then 10000 else 1

set_option maxHeartbeats 1000000 in
theorem scaled_any (k i : Int) (s : ByteArray) (w : World) (h0 : -9223372036854775808 ≤ i) (h1 : i ≤ 9223372036854775807) :
    Calls Tryz.prog 103 #[.agg #[.int .i64 k, .int .i64 i, .string s]] w fun e w' => e = .returned (.agg #[.bool (mulNeg i (unitOf k)), .int .u64 (mulHi i (unitOf k)), .int .u64 (mulLo i (unitOf k))]) ∧ Below w.heap.size w w' := by
  have HT := Lib.hid (fun (f : Int) (hf : f = 1 ∨ f = 10000) w => times_any i f w h0 h1 (by omega) (by omega))
  clear h0 h1
  by_cases hk : k = 2
  · subst hk
    have HU := Lib.hid (show unitOf 2 = 10000 from rfl)
    rw [HU.out]
    clear HU
    go_enter Tryz.func103, Tryz.ntmps103
    go_wp2_with fail
    refine (HT.out 10000 (by simp) _).mono ?_
    rintro e w1 ⟨rfl, hb⟩
    obtain ⟨⟨b1, b2, b3⟩, ⟨f1, f2, f3⟩, hB, hz, -⟩ := boxes2_res hb
    have HB := Lib.hid hB
    clear hb hB HT
    generalize hm : mulNeg i 10000 = m
    generalize hh : mulHi i 10000 = hi
    generalize hl : mulLo i 10000 = lo
    have HM := Lib.hid hm
    have HH := Lib.hid hh
    have HL := Lib.hid hl
    clear hm hh hl
    go_wp2_with fail
    refine bodyPost_ret (v := .agg #[.bool m, .int .u64 hi, .int .u64 lo]) (by simp [results, Tryz.results103, go_sem, b1, b2, b3]) rfl ⟨by rw [HM.out, HH.out, HL.out], ?_⟩
    exact ((HB.out.setCell (by simp) _).setCell (by simp) _).setCell (by simp) _
  · have HU := Lib.hid (show unitOf k = 1 by unfold unitOf; rw [if_neg hk])
    have hk2 : (k == 2) = false := by simpa using hk
    rw [HU.out]
    clear HU hk
    go_enter Tryz.func103, Tryz.ntmps103
    go_wp2_with fail
    refine (HT.out 1 (by simp) _).mono ?_
    rintro e w1 ⟨rfl, hb⟩
    obtain ⟨⟨b1, b2, b3⟩, ⟨f1, f2, f3⟩, hB, hz, -⟩ := boxes2_res hb
    have HB := Lib.hid hB
    clear hb hB HT
    generalize hm : mulNeg i 1 = m
    generalize hh : mulHi i 1 = hi
    generalize hl : mulLo i 1 = lo
    have HM := Lib.hid hm
    have HH := Lib.hid hh
    have HL := Lib.hid hl
    clear hm hh hl
    go_wp2_with fail
    refine bodyPost_ret (v := .agg #[.bool m, .int .u64 hi, .int .u64 lo]) (by simp [results, Tryz.results103, go_sem, b1, b2, b3]) rfl ⟨by rw [HM.out, HH.out, HL.out], ?_⟩
    exact ((HB.out.setCell (by simp) _).setCell (by simp) _).setCell (by simp) _

theorem or2 (a b : Int) : orL [a, b] = if a = 0 then b else a := by
  simp only [orL]
  by_cases h : b = 0
  · simp [h]
  · simp [h]
/-- How two numbers stand, by what they are. -/
def ordN (ak ai : Int) (sa : ByteArray) (bk bi : Int) (sb : ByteArray) : Int := if ak = bk then dco ak ai sa bk bi sb else cmpI (ai * unitOf ak) (bi * unitOf bk)
theorem mul_parts (a b : Int) : a * b = (if mulNeg a b then -1 else 1) * (mulHi a b * 18446744073709551616 + mulLo a b) ∧ (mulNeg a b = true → 0 < mulHi a b * 18446744073709551616 + mulLo a b) ∧ 0 ≤ mulLo a b ∧ mulLo a b < 18446744073709551616 ∧ 0 ≤ mulHi a b := by
  have h1 : mulHi a b * 18446744073709551616 + mulLo a b = ((a.natAbs * b.natAbs : Nat) : Int) := by unfold mulHi mulLo; omega
  have hl : 0 ≤ mulLo a b ∧ mulLo a b < 18446744073709551616 := by unfold mulLo; omega
  have hh : 0 ≤ mulHi a b := by unfold mulHi; omega
  have h2 : ((a.natAbs * b.natAbs : Nat) : Int) = (a.natAbs : Int) * (b.natAbs : Int) := by simp
  refine ⟨?_, ?_, hl.1, hl.2, hh⟩
  · by_cases hz : mulHi a b = 0 ∧ mulLo a b = 0
    · have hn : mulNeg a b = false := by unfold mulNeg; simp [hz]
      rw [h1, hn, h2]
      have h0 : ((a.natAbs : Int)) * (b.natAbs : Int) = 0 := by rw [← h2, ← h1]; omega
      rw [h0]
      have : a = 0 ∨ b = 0 := by
        rcases Int.mul_eq_zero.1 h0 with h | h <;> omega
      rcases this with rfl | rfl <;> simp
    · have hn : mulNeg a b = (decide (a < 0) != decide (b < 0)) := by
        unfold mulNeg
        have : (mulHi a b == 0 && mulLo a b == 0) = false := by
          rw [Bool.and_eq_false_iff, beq_eq_false_iff_ne, beq_eq_false_iff_ne]; omega
        rw [this]; simp
      rw [h1, h2, hn]
      by_cases ha : a < 0 <;> by_cases hb : b < 0
      · have e1 : (a.natAbs : Int) = -a := by omega
        have e2 : (b.natAbs : Int) = -b := by omega
        simp [ha, hb, e1, e2, Int.neg_mul_neg]
      · have e1 : (a.natAbs : Int) = -a := by omega
        have e2 : (b.natAbs : Int) = b := by omega
        simp [ha, hb, e1, e2, Int.neg_mul]
      · have e1 : (a.natAbs : Int) = a := by omega
        have e2 : (b.natAbs : Int) = -b := by omega
        simp [ha, hb, e1, e2, Int.mul_neg]
      · have e1 : (a.natAbs : Int) = a := by omega
        have e2 : (b.natAbs : Int) = b := by omega
        simp [ha, hb, e1, e2]
  · intro hn
    unfold mulNeg at hn
    simp only [Bool.and_eq_true, Bool.not_eq_true', Bool.and_eq_false_iff, beq_eq_false_iff_ne] at hn
    omega
/-- The comparison of two wide numbers is that of what they are. -/
theorem wide_cmp {m1 m2 : Bool} {h1 l1 h2 l2 x y : Int} (ex : x = (if m1 then -1 else 1) * (h1 * 18446744073709551616 + l1)) (ey : y = (if m2 then -1 else 1) * (h2 * 18446744073709551616 + l2))
    (p1 : m1 = true → 0 < h1 * 18446744073709551616 + l1) (p2 : m2 = true → 0 < h2 * 18446744073709551616 + l2) (a1 : 0 ≤ l1) (a2 : l1 < 18446744073709551616) (a3 : 0 ≤ h1) (b1 : 0 ≤ l2) (b2 : l2 < 18446744073709551616) (b3 : 0 ≤ h2) :
    cmpI x y = if m1 != m2 then (if m1 then -1 else 1) else if m1 then -(orL [cmpI h1 h2, cmpI l1 l2]) else orL [cmpI h1 h2, cmpI l1 l2] := by
  rw [or2]
  cases m1 <;> cases m2 <;> simp at ex ey p1 p2 ⊢ <;> unfold cmpI <;> repeat' split
  all_goals omega
end Go.Proofs.YtokbdleokihdaaaGreatDoor
namespace Go.Proofs.YtokbdleokihdaaaGreatDoor
open Go.RowKit

theorem two {a b : Int} : [a, b].length ≤ 9223372036854775807 := by simp
theorem or2_bd (a b c d : Int) : -1 ≤ orL [cmpI a b, cmpI c d] ∧ orL [cmpI a b, cmpI c d] ≤ 1 := by
  rw [or2]; unfold cmpI; repeat' split
  all_goals omega
set_option maxHeartbeats 9000000 in
theorem order_any (ak ai bk bi : Int) (sa sb : ByteArray) (w : World) (a0 : -9223372036854775808 ≤ ai) (a1 : ai ≤ 9223372036854775807) (b0 : -9223372036854775808 ≤ bi) (b1 : bi ≤ 9223372036854775807) :
    Calls Tryz.prog 95 #[.agg #[.int .i64 ak, .int .i64 ai, .string sa], .agg #[.int .i64 bk, .int .i64 bi, .string sb]] w fun e w' => e = .returned (.int .i64 (ordN ak ai sa bk bi sb)) ∧ Below w.heap.size w w' := by
  have HO := Lib.hid (show ordN ak ai sa bk bi sb = if ak = bk then dco ak ai sa bk bi sb else cmpI (ai * unitOf ak) (bi * unitOf bk) from rfl)
  by_cases hk : ak = bk
  · subst hk
    have HE : Hid (ordN ak ai sa ak bi sb = dco ak ai sa ak bi sb) := by show _ = _; unfold ordN; rw [if_pos rfl]
    clear HO a0 a1 b0 b1
    rw [HE.out]
    clear HE
    go_enter Tryz.func95, Tryz.ntmps95
    go_wp2_with fail
    refine (dcmp _ _ _ _ _ _ _).mono ?_
    rintro e w1 ⟨rfl, hb⟩
    have HB := Lib.hid ((boxes2 w #[.int .i64 ak, .int .i64 ai, .string sa] #[.int .i64 ak, .int .i64 bi, .string sb] 27 27).1.trans (hb.mono (by simp; omega)))
    clear hb
    go_wp2_with fail
    go_ret
    exact ⟨rfl, HB.out⟩
  · have HX := Lib.hid (fun w => scaled_any ak ai sa w a0 a1)
    have HY := Lib.hid (fun w => scaled_any bk bi sb w b0 b1)
    have hk2 : (ak == bk) = false := by simpa using hk
    have M1 := mul_parts ai (unitOf ak)
    have M2 := mul_parts bi (unitOf bk)
    have HE := Lib.hid (show ordN ak ai sa bk bi sb = _ by rw [HO.out, if_neg hk, wide_cmp M1.1 M2.1 M1.2.1 M2.2.1 M1.2.2.1 M1.2.2.2.1 M1.2.2.2.2 M2.2.2.1 M2.2.2.2.1 M2.2.2.2.2])
    clear HO hk a0 a1 b0 b1 M1 M2
    generalize mulNeg ai (unitOf ak) = m1 at *
    generalize mulHi ai (unitOf ak) = h1 at *
    generalize mulLo ai (unitOf ak) = l1 at *
    generalize mulNeg bi (unitOf bk) = m2 at *
    generalize mulHi bi (unitOf bk) = h2 at *
    generalize mulLo bi (unitOf bk) = l2 at *
    rw [HE.out]
    clear HE
    go_enter Tryz.func95, Tryz.ntmps95
    go_wp2_with fail
    obtain ⟨hB, hz, c0, c1⟩ := boxes2 w #[.int .i64 ak, .int .i64 ai, .string sa] #[.int .i64 bk, .int .i64 bi, .string sb] 27 27
    generalize (w.alloc (.cells #[.int .i64 ak, .int .i64 ai, .string sa] 27)).alloc (.cells #[.int .i64 bk, .int .i64 bi, .string sb] 27) = W0 at *
    have hz1 : w.heap.size < W0.heap.size := by omega
    have hz2 : w.heap.size + 1 < W0.heap.size := by omega
    clear hz
    go_cut [5, 6] (fun p q wc => ∃ b5 b6 : Nat, p = .pointer (some ⟨b5, 0, none⟩) ∧ q = .pointer (some ⟨b6, 0, none⟩) ∧ Below w.heap.size w wc ∧ (wc.cell? ⟨b5, 0, none⟩ = some (.bool m1) ∧ wc.cell? ⟨b5, 1, none⟩ = some (.int .u64 h1) ∧ wc.cell? ⟨b5, 2, none⟩ = some (.int .u64 l1)) ∧ (wc.cell? ⟨b6, 0, none⟩ = some (.bool m2) ∧ wc.cell? ⟨b6, 1, none⟩ = some (.int .u64 h2) ∧ wc.cell? ⟨b6, 2, none⟩ = some (.int .u64 l2)))
    case first =>
      as_aux_lemma =>
      go_region_held3 (fun w' => Below W0.heap.size W0 w' ∧ ∀ b o, b < W0.heap.size → w'.cell? ⟨b, o, none⟩ = W0.cell? ⟨b, o, none⟩) ((clear HX HY; first | (with_reducible exact held_drew) | (with_reducible exact held_below ‹_› ‹_›) | (refine held_of ?_; repeat' (first | (with_reducible exact (‹KwB W0 _›).b) | (with_reducible refine Below.setCell ?_ ?_ _) | (with_reducible refine Below.alloc ?_ ?_ _) | (with_reducible refine Below.drew ?_) | (with_reducible exact Below.refl _ _) | omega | (simp; done) | (simp; omega)))))
        (first
          | (go_at_call_of 103 (Value.agg #[.int .i64 ak, .int .i64 ai, .string sa]); refine (HX.out _).mono ?_; rintro e w' ⟨rfl, hb'⟩; obtain ⟨hbc, hbf⟩ := bcell hb'; have hKw := KwB.mk (held_below ‹_› hb').1; have hbz := hb'.size; (try simp at hbz); (try (have hl1 := Nat.lt_of_succ_le hbz)); (try (have hl2 := Nat.lt_of_succ_lt (Nat.lt_of_succ_le hbz))); (try (have hl3 : W0.heap.size < w'.heap.size := by omega)); (try (have hl4 : W0.heap.size + 1 < w'.heap.size := by omega)))
          | (go_at_call_of 103 (Value.agg #[.int .i64 bk, .int .i64 bi, .string sb]); refine (HY.out _).mono ?_; rintro e w' ⟨rfl, hb'⟩; obtain ⟨hbc, hbf⟩ := bcell hb'; have hKw := KwB.mk (held_below ‹_› hb').1; have hbz := hb'.size; (try simp at hbz); (try (have hl1 := Nat.lt_of_succ_le hbz)); (try (have hl2 := Nat.lt_of_succ_lt (Nat.lt_of_succ_le hbz))); (try (have hl3 : W0.heap.size < w'.heap.size := by omega)); (try (have hl4 : W0.heap.size + 1 < w'.heap.size := by omega))))
      all_goals
        go_wp2_with fail
        go_meet
        case rel => exact ⟨_, _, rfl, rfl, held_fin hB hz1 (by assumption), ⟨by first | (go_simp; done) | (go_simp; exact World.cell?_setCell_same' _ _ _ (by go_simp)), by first | (go_simp; done) | (go_simp; exact World.cell?_setCell_same' _ _ _ (by go_simp)), by first | (go_simp; done) | (go_simp; exact World.cell?_setCell_same' _ _ _ (by go_simp))⟩, by first | (go_simp; done) | (go_simp; exact World.cell?_setCell_same' _ _ _ (by go_simp)), by first | (go_simp; done) | (go_simp; exact World.cell?_setCell_same' _ _ _ (by go_simp)), by first | (go_simp; done) | (go_simp; exact World.cell?_setCell_same' _ _ _ (by go_simp))⟩
    case rest =>
      obtain ⟨b5, b6, rfl, rfl, hBc, ⟨x0, x1, x2⟩, y0, y1, y2⟩ := hcut
      have HB := Lib.hid hBc
      have hnw := hBc.size
      clear hBc hB hz1 hz2 c0 c1 HX HY
      cases m1 <;> cases m2
      · go_wp2_with fail
        go_region_held3 (fun w' => w'.cell? ⟨b5, 1, none⟩ = some (.int .u64 h1) ∧ w'.cell? ⟨b5, 2, none⟩ = some (.int .u64 l1) ∧ w'.cell? ⟨b6, 1, none⟩ = some (.int .u64 h2) ∧ w'.cell? ⟨b6, 2, none⟩ = some (.int .u64 l2) ∧ w'.cell? ⟨b5, 0, none⟩ = some (.bool false)) (go_keep)
          (first
            | (go_at_call 105; refine (cmp_u64 _ _ _).mono ?_; rintro e w' ⟨rfl, rfl⟩)
            | (go_at_call 104; refine (or_ints [cmpI h1 h2, cmpI l1 l2] _ _ _ two ?_).mono ?_; (intro i hi; match i, hi with | 0, _ => simp [World.cell?_alloc_at, nth] | 1, _ => simp [World.cell?_alloc_at, nth]); rintro e w' ⟨rfl, rfl⟩))
        generalize hn : orL [cmpI h1 h2, cmpI l1 l2] = n at *
        have HN := Lib.hid hn
        clear hn
        go_wp2_with fail
        go_ret
        exact ⟨ret_int (by rw [HN.out]), (HB.out.alloc hnw _).drew⟩
      · go_wp2_with fail
        go_ret
        exact ⟨rfl, HB.out⟩
      · go_wp2_with fail
        go_ret
        exact ⟨rfl, HB.out⟩
      · go_wp2_with fail
        go_region_held3 (fun w' => w'.cell? ⟨b5, 1, none⟩ = some (.int .u64 h1) ∧ w'.cell? ⟨b5, 2, none⟩ = some (.int .u64 l1) ∧ w'.cell? ⟨b6, 1, none⟩ = some (.int .u64 h2) ∧ w'.cell? ⟨b6, 2, none⟩ = some (.int .u64 l2) ∧ w'.cell? ⟨b5, 0, none⟩ = some (.bool true)) (go_keep)
          (first
            | (go_at_call 105; refine (cmp_u64 _ _ _).mono ?_; rintro e w' ⟨rfl, rfl⟩)
            | (go_at_call 104; refine (or_ints [cmpI h1 h2, cmpI l1 l2] _ _ _ two ?_).mono ?_; (intro i hi; match i, hi with | 0, _ => simp [World.cell?_alloc_at, nth] | 1, _ => simp [World.cell?_alloc_at, nth]); rintro e w' ⟨rfl, rfl⟩))
        have hbd := or2_bd h1 h2 l1 l2
        generalize hn : orL [cmpI h1 h2, cmpI l1 l2] = n at *
        have HN := Lib.hid hn
        obtain ⟨hn1, hn2⟩ := hbd
        clear hn
        go_wp2_with fail
        go_ret
        exact ⟨ret_int (by rw [HN.out]), (HB.out.alloc hnw _).drew⟩
end Go.Proofs.YtokbdleokihdaaaGreatDoor
namespace Go.Proofs.YtokbdleokihdaaaGreatDoor
open Go.RowKit

/-- What a comparison's operator says of an order. -/
def cmpOp (op n : Int) : Bool := if op = 7 then n == 0 else if op = 8 then n != 0 else if op = 9 then decide (n < 0) else if op = 10 then decide (n ≤ 0) else if op = 11 then decide (0 < n) else decide (0 ≤ n)
def ordD (d d' : Dt) : Int := if [d, d'].all (isOf [2, 3]) then ordN d.k d.i d.s d'.k d'.i d'.s else dco d.k d.i d.s d'.k d'.i d'.s
def comparedF (op : Int) (d d' : Dt) : Dt := if [d, d'].any (fun d => d.k == 0) then Dt.zero else truthD (cmpOp op (ordD d d'))

set_option maxHeartbeats 2000000 in
theorem compared_null (op : Int) (d d' : Dt) (b o cap : Nat) (w : World) (hbk : b < w.heap.size) (hc : DCells w b o [d, d']) (hn : [d, d'].any (fun d => d.k == 0) = true) :
    Calls Tryz.prog 85 #[.int .i64 op, .slice (some ⟨b, o, none⟩) 2 cap] w fun e w' => e = .returned (Dt.zero).v ∧ Below w.heap.size w w' := by
  have Hc := Lib.hid hc
  have HN := Lib.hid hn
  clear hc hn
  go_enter Tryz.func85, Tryz.ntmps85
  go_wp2_with fail
  refine (anyNull_any [d, d'] b o cap _ (by simp) (by simp; omega) (Hc.out.below ((Below.refl _ _).alloc (Nat.le_refl _) _) hbk)).mono ?_
  rintro e w2 ⟨rfl, hb2⟩
  rw [HN.out]
  rw [World.size_alloc] at hb2
  obtain ⟨⟨b1, b2, b3⟩, ⟨f1, f2, f3⟩, hB, hz⟩ := box_new hb2
  have HB := Lib.hid hB
  clear hb2 hB
  go_wp2_with fail
  refine bodyPost_ret (v := Dt.zero.v) (by simp [results, Tryz.results85, go_sem, b1, b2, b3, Dt.zero]) rfl ⟨rfl, ?_⟩
  exact ((HB.out.setCell (Nat.le_refl _) _).setCell (Nat.le_refl _) _).setCell (Nat.le_refl _) _

set_option maxHeartbeats 2000000 in
theorem compared_some (op : Int) (h7 : 7 ≤ op) (h12 : op ≤ 12) (d d' : Dt) (b o cap : Nat) (w : World) (hbk : b < w.heap.size) (hc : DCells w b o [d, d']) (hn : [d, d'].any (fun d => d.k == 0) = false)
    (a0 : -9223372036854775808 ≤ d.i) (a1 : d.i ≤ 9223372036854775807) (b0 : -9223372036854775808 ≤ d'.i) (b1 : d'.i ≤ 9223372036854775807) :
    Calls Tryz.prog 85 #[.int .i64 op, .slice (some ⟨b, o, none⟩) 2 cap] w fun e w' => e = .returned (truthD (cmpOp op (ordD d d'))).v ∧ Below w.heap.size w w' := by
  have Hc := Lib.hid hc
  have HN := Lib.hid hn
  have HO := Lib.hid (fun w => order_any d.k d.i d'.k d'.i d.s d'.s w a0 a1 b0 b1)
  have HD := Lib.hid (fun w => dcmp d.k d.i d'.k d'.i d.s d'.s w)
  have HE := Lib.hid (show ordD d d' = if [d, d'].all (isOf [2, 3]) then ordN d.k d.i d.s d'.k d'.i d'.s else dco d.k d.i d.s d'.k d'.i d'.s from rfl)
  clear hc hn a0 a1 b0 b1
  go_enter Tryz.func85, Tryz.ntmps85
  go_wp2_with fail
  refine (anyNull_any [d, d'] b o cap _ (by simp) (by simp; omega) (Hc.out.below ((Below.refl _ _).alloc (Nat.le_refl _) _) hbk)).mono ?_
  rintro e w2 ⟨rfl, hb2⟩
  rw [HN.out]
  rw [World.size_alloc] at hb2
  have HB := Lib.hid hb2
  have hB := (box_new hb2).2.2.1
  have hz := (box_new hb2).2.2.2
  have Hc2 := Lib.hid (Hc.out.below hB hbk)
  clear hb2 hB HN
  go_wp2_with fail
  refine (of_any [d, d'] b o cap [2, 3] _ _ _ (by simp) (by simp; omega) (Hc2.out.below ((Below.refl _ _).alloc (Nat.le_refl _) _) (by omega)) (by simp) (by simp) (kinds_new _ _ _ rfl)).mono ?_
  rintro e w3 ⟨rfl, hb3⟩
  have HB3 := Lib.hid ((HB.out.alloc (by omega) _).trans (hb3.mono (by simp; omega)))
  have hB3 := (box_new HB3.out).2.2.1
  have hz3 := (box_new HB3.out).2.2.2
  have Hc3 := Lib.hid (Hc.out.below hB3 hbk)
  clear hb3 hB3 HB Hc2 Hc
  have e0 := Hc3.out 0 (by simp)
  have e1 := Hc3.out 1 (by simp)
  have d0 : dnth [d, d'] 0 = d := rfl
  have d1 : dnth [d, d'] 1 = d' := rfl
  rw [d0] at e0
  rw [d1] at e1
  clear d0 d1
  simp only [Nat.zero_mul, Nat.one_mul, Nat.add_zero] at e0 e1
  generalize hall : [d, d'].all (isOf [2, 3]) = al
  rw [hall] at HE
  clear hall
  have q0 : ∀ (u : GW (fun w' => Below w3.heap.size w3 w')), u.w.cell? ⟨b, o, none⟩ = some (.int .i64 d.k) := fun u => by rw [u.h.cell (p := ⟨b, o, none⟩) (by show b < _; omega)]; exact e0.1
  have q1 : ∀ (u : GW (fun w' => Below w3.heap.size w3 w')), u.w.cell? ⟨b, o + 1, none⟩ = some (.int .i64 d.i) := fun u => by rw [u.h.cell (p := ⟨b, o + 1, none⟩) (by show b < _; omega)]; exact e0.2.1
  have q2 : ∀ (u : GW (fun w' => Below w3.heap.size w3 w')), u.w.cell? ⟨b, o + 2, none⟩ = some (.string d.s) := fun u => by rw [u.h.cell (p := ⟨b, o + 2, none⟩) (by show b < _; omega)]; exact e0.2.2
  have q3 : ∀ (u : GW (fun w' => Below w3.heap.size w3 w')), u.w.cell? ⟨b, o + 3, none⟩ = some (.int .i64 d'.k) := fun u => by rw [u.h.cell (p := ⟨b, o + 3, none⟩) (by show b < _; omega)]; exact e1.1
  have q4 : ∀ (u : GW (fun w' => Below w3.heap.size w3 w')), u.w.cell? ⟨b, o + 3 + 1, none⟩ = some (.int .i64 d'.i) := fun u => by rw [u.h.cell (p := ⟨b, o + 3 + 1, none⟩) (by show b < _; omega)]; exact e1.2.1
  have q5 : ∀ (u : GW (fun w' => Below w3.heap.size w3 w')), u.w.cell? ⟨b, o + 3 + 2, none⟩ = some (.string d'.s) := fun u => by rw [u.h.cell (p := ⟨b, o + 3 + 2, none⟩) (by show b < _; omega)]; exact e1.2.2
  have hne := GW.ne (Inv := fun w' => Below w3.heap.size w3 w') (Below.refl _ _)
  clear e0 e1 Hc3
  cases al
  · have HE2 := Lib.hid (show ordD d d' = dco d.k d.i d.s d'.k d'.i d'.s by rw [HE.out]; rfl)
    clear HE
    go_wp2_with fail
    refine wp_region_grow (fun w' => Below w3.heap.size w3 w') (by kernel_rfl) (by kernel_rfl) (Below.refl _ _).drew ?_
    repeat (go_big_quiet_step ((go_at_call 96; refine (HD.out _).mono ?_; rintro e w1 ⟨rfl, hb⟩; exact ⟨rfl, below_next _ hb⟩)))
    refine wpQuiet_nil ?_
    intro _ hw'
    obtain ⟨⟨w4, h4⟩, hw''⟩ := hw'
    subst hw''
    rw [← HE2.out]
    generalize hnn : ordD d d' = n
    have HN := Lib.hid hnn
    clear hnn
    have HB4 := Lib.hid (HB3.out.trans (h4.mono (by omega)))
    have hz4 := h4.size
    clear h4 q0 q1 q2 q3 q4 q5 HB3 HE2 HO HD hne
    rcases (by omega : op = 7 ∨ op = 8 ∨ op = 9 ∨ op = 10 ∨ op = 11 ∨ op = 12) with rfl | rfl | rfl | rfl | rfl | rfl
    all_goals
      go_wp2_with fail
      refine (truth_any _ _).mono ?_
      rintro e w5 ⟨rfl, hb5⟩
      have HB5 := Lib.hid (HB4.out.trans (hb5.mono (by omega)))
      clear hb5 HB4
      obtain ⟨⟨b1, b2, b3⟩, ⟨f1, f2, f3⟩, hB, hzz⟩ := box_new HB5.out
      have HB := Lib.hid hB
      clear hB HB5
      generalize hfin : truthD _ = tv
      have HF := Lib.hid hfin
      clear hfin
      obtain ⟨tk, ti, ts⟩ := tv
      go_wp2_with fail
      refine bodyPost_ret (v := .agg #[.int .i64 tk, .int .i64 ti, .string ts]) (by simp [results, Tryz.results85, go_sem, b1, b2, b3]) rfl ⟨?_, ?_⟩
      · rw [HN.out]
        exact congrArg (fun t : Dt => Ending.returned t.v) HF.out.symm
      · exact ((HB.out.setCell (Nat.le_refl _) _).setCell (Nat.le_refl _) _).setCell (Nat.le_refl _) _
  · have HE2 := Lib.hid (show ordD d d' = ordN d.k d.i d.s d'.k d'.i d'.s by rw [HE.out]; rfl)
    clear HE
    go_wp2_with fail
    refine wp_region_grow (fun w' => Below w3.heap.size w3 w') (by kernel_rfl) (by kernel_rfl) (Below.refl _ _).drew ?_
    repeat (go_big_quiet_step ((go_at_call 95; refine (HO.out _).mono ?_; rintro e w1 ⟨rfl, hb⟩; exact ⟨rfl, below_next _ hb⟩)))
    refine wpQuiet_nil ?_
    intro _ hw'
    obtain ⟨⟨w4, h4⟩, hw''⟩ := hw'
    subst hw''
    rw [← HE2.out]
    generalize hnn : ordD d d' = n
    have HN := Lib.hid hnn
    clear hnn
    have HB4 := Lib.hid (HB3.out.trans (h4.mono (by omega)))
    have hz4 := h4.size
    clear h4 q0 q1 q2 q3 q4 q5 HB3 HE2 HO HD hne
    rcases (by omega : op = 7 ∨ op = 8 ∨ op = 9 ∨ op = 10 ∨ op = 11 ∨ op = 12) with rfl | rfl | rfl | rfl | rfl | rfl
    all_goals
      go_wp2_with fail
      refine (truth_any _ _).mono ?_
      rintro e w5 ⟨rfl, hb5⟩
      have HB5 := Lib.hid (HB4.out.trans (hb5.mono (by omega)))
      clear hb5 HB4
      obtain ⟨⟨b1, b2, b3⟩, ⟨f1, f2, f3⟩, hB, hzz⟩ := box_new HB5.out
      have HB := Lib.hid hB
      clear hB HB5
      generalize hfin : truthD _ = tv
      have HF := Lib.hid hfin
      clear hfin
      obtain ⟨tk, ti, ts⟩ := tv
      go_wp2_with fail
      refine bodyPost_ret (v := .agg #[.int .i64 tk, .int .i64 ti, .string ts]) (by simp [results, Tryz.results85, go_sem, b1, b2, b3]) rfl ⟨?_, ?_⟩
      · rw [HN.out]
        exact congrArg (fun t : Dt => Ending.returned t.v) HF.out.symm
      · exact ((HB.out.setCell (Nat.le_refl _) _).setCell (Nat.le_refl _) _).setCell (Nat.le_refl _) _
end Go.Proofs.YtokbdleokihdaaaGreatDoor

/- Contract of (datum.wide).over. Contracts of datum.sum and datum.asDec. Contract of datum.asDec. Contract of datum.number at the operators of one value. Contract of datum.number at - and ABS of one value. The plain law of (datum.wide).over: a quotient towards 0, where there is one that has room. -/
import Derived.Test.YtokbdleokihdaaaGreatDoorDiv64A
import Derived.Test.YtokbdleokihdaaaGreatDoorWide
import Derived.Test.YtokbdleokihdaaaGreatDoorG02
namespace Go.Proofs.YtokbdleokihdaaaGreatDoor
open Go.RowKit

/-- A quotient towards 0, if it has room. -/
def overR (m : Bool) (hi lo : Nat) (n : Int) : Int × Bool :=
  if n.natAbs ≤ hi then (0, false)
  else if (m != decide (n < 0)) = true then
    (if (hi * 18446744073709551616 + lo) / n.natAbs ≤ 9223372036854775808 then (-(((hi * 18446744073709551616 + lo) / n.natAbs : Nat) : Int), true) else (0, false))
  else (if (hi * 18446744073709551616 + lo) / n.natAbs < 9223372036854775808 then ((((hi * 18446744073709551616 + lo) / n.natAbs : Nat) : Int), true) else (0, false))

theorem ret_ib {a b : Int} {c d : Bool} (h : a = b) (h2 : c = d) : Ending.returned (.tuple #[.int .i64 a, .bool c]) = .returned (.tuple #[.int .i64 b, .bool d]) := by rw [h, h2]
set_option maxHeartbeats 1000000 in
theorem over_any (m : Bool) (hi lo : Nat) (n : Int) (w : World) (hlo : lo < 18446744073709551616) (n0 : -9223372036854775808 ≤ n) (n1 : n ≤ 9223372036854775807) :
    Calls Tryz.prog 100 #[.agg #[.bool m, .int .u64 (hi : Int), .int .u64 (lo : Int)], .int .i64 n] w fun e w' => e = .returned (.tuple #[.int .i64 (overR m hi lo n).1, .bool (overR m hi lo n).2]) ∧ Below w.heap.size w w' := by
  have HA := Lib.hid (fun w => amount_any n w n0 n1)
  obtain ⟨hB, hz, c0⟩ := boxes1 w #[.bool m, .int .u64 (hi : Int), .int .u64 (lo : Int)] 131
  have hdn : decide (n < 0) = false ∨ decide (n < 0) = true := by cases decide (n < 0) <;> simp
  have HO := Lib.hid (show overR m hi lo n = _ from rfl)
  have hD : n.natAbs < 18446744073709551616 := by omega
  by_cases hd : n.natAbs ≤ hi
  · have HE := Lib.hid (show overR m hi lo n = (0, false) by rw [overR, if_pos hd])
    have d1 : decide (n.natAbs ≤ hi) = true := by simpa using hd
    rw [HE.out]
    clear HO HE n0 n1
    go_enter Tryz.func100, Tryz.ntmps100
    go_wp2_with (first | (go_at_call 25; refine (HA.out _).mono ?_; rintro e w' ⟨rfl, rfl⟩))
    all_goals first | (exfalso; omega) | skip
    go_ret2
    exact ⟨rfl, hB⟩
  · have HQ := Lib.hid (fun w => div64_any hi lo n.natAbs (by omega) hlo hD w)
    have hdl : decide ((n.natAbs : Int) ≤ (hi : Int)) = false := by simp; omega
    have hq0 : (0 : Int) ≤ (((hi * 18446744073709551616 + lo) / n.natAbs : Nat) : Int) := Int.natCast_nonneg _
    have HV : Hid (overR m hi lo n = if (m != decide (n < 0)) = true then (if (((hi * 18446744073709551616 + lo) / n.natAbs : Nat) : Int) ≤ 9223372036854775808 then (-(((hi * 18446744073709551616 + lo) / n.natAbs : Nat) : Int), true) else (0, false)) else (if (((hi * 18446744073709551616 + lo) / n.natAbs : Nat) : Int) < 9223372036854775808 then ((((hi * 18446744073709551616 + lo) / n.natAbs : Nat) : Int), true) else (0, false))) := by
      show overR m hi lo n = _
      rw [overR, if_neg hd]
      generalize (hi * 18446744073709551616 + lo) / n.natAbs = z
      have e1 : ((z : Int) ≤ 9223372036854775808) = (z ≤ 9223372036854775808) := by simp only [eq_iff_iff]; omega
      have e2 : ((z : Int) < 9223372036854775808) = (z < 9223372036854775808) := by simp only [eq_iff_iff]; omega
      simp only [e1, e2]
    clear HO hd hlo n0 n1 hD
    generalize (((hi * 18446744073709551616 + lo) / n.natAbs : Nat) : Int) = q at *
    generalize (n.natAbs : Int) = D at *
    generalize hRe : overR m hi lo n = R at *
    clear hRe
    generalize (hi : Int) = H at *
    generalize (lo : Int) = L at *
    have hw1 : q ≤ 9223372036854775808 → wrap64 (IntKind.u64.wrap (-q)) = -q := by
      intro h; rw [IntKind.wrap_u64]; unfold wrap64; omega
    have hw2 : q < 9223372036854775808 → wrap64 q = q := by
      intro h; unfold wrap64; omega
    have HW1 := Lib.hid hw1
    have HW2 := Lib.hid hw2
    clear hw1 hw2 hz c0
    have HB := Lib.hid hB
    clear hB
    by_cases ha : q ≤ 9223372036854775808 <;> by_cases hb : q < 9223372036854775808
    all_goals first | (exfalso; omega) | skip
    all_goals
      have Ha := Lib.hid ha
      have Hb := Lib.hid hb
      obtain ⟨ta, hta⟩ : ∃ t, t = decide (q ≤ 9223372036854775808) := ⟨_, rfl⟩
      obtain ⟨tb, htb⟩ : ∃ t, t = decide (q < 9223372036854775808) := ⟨_, rfl⟩
      simp only [ha, hb, decide_true, decide_false] at hta htb
    all_goals
      cases m <;> rcases hdn with hs | hs
    all_goals
      go_enter Tryz.func100, Tryz.ntmps100
      go_wp2_with (first | (go_at_call 25; refine (HA.out _).mono ?_; rintro e w' ⟨rfl, rfl⟩))
    all_goals
      refine (HQ.out _).mono ?_
      rintro e w' ⟨q', r', rfl, hqq, hb'⟩
      subst hqq
      obtain ⟨⟨k0, k1, k2⟩, ⟨f0, f1, f2⟩, hBB, hsz⟩ := box_new (by rw [World.size_alloc] at hb'; exact hb')
      have HBB := Lib.hid hBB
      clear hb' hBB HB HQ HA hta htb hq0 Ha Hb
      have ta : decide (q' ≤ 9223372036854775808) = decide (q' ≤ 9223372036854775808) := rfl
      go_wp2_with fail
    all_goals first | (exfalso; omega) | skip
    all_goals
      go_ret2
      refine ⟨?_, HBB.out⟩
      rw [HV.out, hs]
      refine ret_ib ?_ ?_ <;> first
        | (rw [if_neg (by decide), if_neg (by omega)])
        | (rw [if_neg (by decide), if_pos (by omega)]; first | done | exact HW2.out (by omega))
        | (rw [if_pos (by decide), if_neg (by omega)])
        | (rw [if_pos (by decide), if_pos (by omega)]; first | done | exact HW1.out (by omega))
end Go.Proofs.YtokbdleokihdaaaGreatDoor
namespace Go.Proofs.YtokbdleokihdaaaGreatDoor
open Go.RowKit

/-- Has a number room? -/
def room (z : Int) : Bool := decide (-9223372036854775808 ≤ z) && decide (z < 9223372036854775808)

set_option maxHeartbeats 1000000 in
theorem sum_any (a b : Int) (w : World) (h0 : -9223372036854775808 ≤ a) (h1 : a < 9223372036854775808) (h2 : -9223372036854775808 ≤ b) (h3 : b < 9223372036854775808) :
    Calls Tryz.prog 98 #[.int .i64 a, .int .i64 b] w fun e w' => e = .returned (.tuple #[.int .i64 (wrap64 (a + b)), .bool (room (a + b))]) ∧ Below w.heap.size w w' := by
  obtain ⟨s, hs⟩ : ∃ s, s = wrap64 (a + b) := ⟨_, rfl⟩
  have HS := Lib.hid hs
  have HR : Hid (room (a + b) = ((decide (a < s) == decide (0 < b)) || (b == 0))) := by
    show room (a + b) = _
    rw [hs]
    unfold wrap64 room
    rw [Bool.eq_iff_iff]
    simp only [Bool.and_eq_true, Bool.or_eq_true, decide_eq_true_eq, beq_iff_eq, decide_eq_decide]
    omega
  clear hs h0 h1 h2 h3
  rw [← HS.out]
  generalize room (a + b) = r at *
  go_enter Tryz.func98, Tryz.ntmps98
  go_wp2_with fail
  all_goals
    go_ret2
    refine ⟨ret_ib HS.out.symm ?_, ?_⟩
    · first | (rw [HR.out, HS.out]; done) | (rw [HR.out, HS.out]; simp [*]; done)
    · first | exact Below.refl _ _ | exact below_drewN _ | exact (Below.refl _ _).drew

/-- An amount as one of the DEC, if it has room. -/
def decI (i : Int) : Int × Bool := if room (i * 10000) then (i * 10000, true) else (0, false)
theorem decI_over (i : Int) (h0 : -9223372036854775808 ≤ i) (h1 : i < 9223372036854775808) :
    overR (mulNeg i 10000) (i.natAbs * (10000 : Int).natAbs / 18446744073709551616) (i.natAbs * (10000 : Int).natAbs % 18446744073709551616) 1 = decI i := by
  have hm : mulNeg i 10000 = decide (i < 0) := by
    have ht : (10000 : Int).natAbs = 10000 := rfl
    unfold mulNeg mulHi mulLo
    rw [ht]
    by_cases hn : i < 0
    · have e1 : decide (i < 0) = true := by simpa using hn
      have e2 : (((i.natAbs * 10000 / 18446744073709551616 : Nat) : Int) == 0 && ((i.natAbs * 10000 % 18446744073709551616 : Nat) : Int) == 0) = false := by
        rw [Bool.and_eq_false_iff, beq_eq_false_iff_ne, beq_eq_false_iff_ne]; omega
      rw [e1, e2]; rfl
    · have e1 : decide (i < 0) = false := by simpa using hn
      rw [e1]; rfl
  rw [hm]
  have hr : room (i * 10000) = true ↔ (-9223372036854775808 ≤ i * 10000 ∧ i * 10000 < 9223372036854775808) := by
    unfold room; simp only [Bool.and_eq_true, decide_eq_true_eq]
  have hz : i.natAbs * (10000 : Int).natAbs / 18446744073709551616 * 18446744073709551616 + i.natAbs * (10000 : Int).natAbs % 18446744073709551616 = i.natAbs * 10000 := by
    rw [Nat.mul_comm _ 18446744073709551616, Nat.div_add_mod]; rfl
  have hh : i.natAbs * (10000 : Int).natAbs / 18446744073709551616 = i.natAbs * 10000 / 18446744073709551616 := rfl
  unfold overR decI
  rw [hz, hh]
  have hb : (decide (i < 0) != decide ((1 : Int) < 0)) = decide (i < 0) := by simp
  rw [hb]
  have h1' : (1 : Int).natAbs = 1 := rfl
  rw [h1', Nat.div_one]
  by_cases hn : i < 0
  · by_cases hq : i.natAbs * 10000 ≤ 9223372036854775808
    · rw [if_neg (by omega), if_pos (by simpa using hn), if_pos hq, if_pos (hr.mpr (by omega))]
      refine Prod.ext ?_ rfl
      show -((i.natAbs * 10000 : Nat) : Int) = i * 10000
      omega
    · rw [if_pos (c := decide (i < 0) = true) (by simpa using hn), if_neg hq, if_neg (c := room (i * 10000) = true) (by rw [hr]; omega)]
      simp
  · by_cases hq : i.natAbs * 10000 < 9223372036854775808
    · rw [if_neg (by omega), if_neg (by simpa using hn), if_pos hq, if_pos (hr.mpr (by omega))]
      refine Prod.ext ?_ rfl
      show ((i.natAbs * 10000 : Nat) : Int) = i * 10000
      omega
    · rw [if_neg (c := decide (i < 0) = true) (by simpa using hn), if_neg hq, if_neg (c := room (i * 10000) = true) (by rw [hr]; omega)]
      simp

def asDecR (d : Dt) : Dt × Bool := if d.k = 3 then (d, true) else (⟨3, (decI d.i).1, ⟨#[]⟩⟩, (decI d.i).2)
end Go.Proofs.YtokbdleokihdaaaGreatDoor
namespace Go.Proofs.YtokbdleokihdaaaGreatDoor
open Go.RowKit

set_option maxHeartbeats 1000000 in
theorem asDec_any (dk di : Int) (ds : ByteArray) (w : World) (h0 : -9223372036854775808 ≤ di) (h1 : di < 9223372036854775808) :
    Calls Tryz.prog 97 #[.agg #[.int .i64 dk, .int .i64 di, .string ds]] w fun e w' => e = .returned (.tuple #[(asDecR ⟨dk, di, ds⟩).1.v, .bool (asDecR ⟨dk, di, ds⟩).2]) ∧ Below w.heap.size w w' := by
  have HT := Lib.hid (fun w => times_any di 10000 w h0 (by omega) (by omega) (by omega))
  have HO := Lib.hid (fun w => over_any (mulNeg di 10000) (di.natAbs * (10000 : Int).natAbs / 18446744073709551616) (di.natAbs * (10000 : Int).natAbs % 18446744073709551616) 1 w (Nat.mod_lt _ (by omega)) (by omega) (by omega))
  have HL := Lib.hid (decI_over di h0 h1)
  obtain ⟨hB, hz, c0⟩ := boxes1 w #[.int .i64 dk, .int .i64 di, .string ds] 27
  clear h0 h1
  by_cases hk : dk = 3
  · subst hk
    have HR := Lib.hid (show asDecR ⟨3, di, ds⟩ = (⟨3, di, ds⟩, true) from if_pos rfl)
    rw [HR.out]
    clear HR HT HO HL
    go_enter Tryz.func97, Tryz.ntmps97
    go_wp2_with fail
    obtain ⟨⟨b1, b2, b3⟩, ⟨f1, f2, f3⟩, hB2, hz2, c2⟩ := boxes2_res (w := w) (x := #[.int .i64 3, .int .i64 di, .string ds]) (a := .int .i64 0) (b := .int .i64 0) (c := .string ⟨#[]⟩) (t := 27) (u := 27) (Below.refl _ _)
    refine bodyPost_ret (v := .tuple #[.agg #[.int .i64 3, .int .i64 di, .string ds], .bool true]) (by simp [results, Tryz.results97, go_sem]) rfl ⟨rfl, ?_⟩
    repeat' (first | exact (boxes2 w _ _ _ _).1 | exact hB2 | refine Below.setCell ?_ ?_ _ | exact Nat.le_succ w.heap.size)
  · have hk2 : (dk == 3) = false := by simpa using hk
    have HR := Lib.hid (show asDecR ⟨dk, di, ds⟩ = (⟨3, (decI di).1, ⟨#[]⟩⟩, (decI di).2) from if_neg hk)
    rw [HR.out]
    clear HR
    have HO2 : Hid (∀ w : World, Calls Tryz.prog 100 #[.agg #[.bool (mulNeg di 10000), .int .u64 (mulHi di 10000), .int .u64 (mulLo di 10000)], .int .i64 1] w fun e w' => e = .returned (.tuple #[.int .i64 (decI di).1, .bool (decI di).2]) ∧ Below w.heap.size w w') := by
      intro w
      have := HO.out w
      rw [HL.out] at this
      exact this
    clear HO HL
    generalize mulNeg di 10000 = m at *
    generalize mulHi di 10000 = hi at *
    generalize mulLo di 10000 = lo at *
    generalize (decI di).1 = ri at *
    generalize (decI di).2 = rb at *
    go_enter Tryz.func97, Tryz.ntmps97
    go_wp2_with (first | (go_at_call 99; refine (HT.out _).mono ?_; rintro e w' ⟨rfl, hb'⟩))
    refine (HO2.out _).mono ?_
    rintro e w2 ⟨rfl, hb2⟩
    obtain ⟨⟨b1, b2, b3⟩, ⟨f1, f2, f3⟩, hB2, hz2, c2⟩ := boxes2_res (hb'.trans (hb2.mono hb'.size))
    have HB := Lib.hid hB2
    clear hB2 hb' hb2 hB hz c0 c2 HT HO2
    go_wp2_with fail
    refine bodyPost_ret (v := .tuple #[.agg #[.int .i64 3, .int .i64 ri, .string ⟨#[]⟩], .bool rb]) (by simp [results, Tryz.results97, go_sem, b1, b2, b3]) rfl ⟨rfl, ?_⟩
    repeat' (first | exact HB.out | refine Below.setCell ?_ ?_ _ | exact Nat.le_succ w.heap.size)
end Go.Proofs.YtokbdleokihdaaaGreatDoor
namespace Go.Proofs.YtokbdleokihdaaaGreatDoor
open Go.RowKit

set_option maxHeartbeats 1000000 in
theorem number_dec (d : Dt) (b o cap : Nat) (w : World) (hbk : b < w.heap.size) (hc : DCells w b o [d]) (h0 : -9223372036854775808 ≤ d.i) (h1 : d.i < 9223372036854775808) :
    Calls Tryz.prog 86 #[.int .i64 20, .slice (some ⟨b, o, none⟩) 1 cap] w fun e w' => e = .returned (.tuple #[(asDecR d).1.v, .bool (asDecR d).2]) ∧ Below w.heap.size w w' := by
  have HA := Lib.hid (fun w => asDec_any d.k d.i d.s w h0 h1)
  have hcd := hc 0 (by simp)
  simp only [Nat.zero_mul, Nat.add_zero] at hcd
  obtain ⟨c1, c2, c3⟩ := hcd
  have hcc : w.cell? ⟨b, o, none⟩ = some (.int .i64 d.k) ∧ w.cell? ⟨b, o + 1, none⟩ = some (.int .i64 d.i) ∧ w.cell? ⟨b, o + 2, none⟩ = some (.string d.s) := ⟨c1, c2, c3⟩
  obtain ⟨d1, d2, d3⟩ := hcc
  have hne : (w.heap.size == b) = false := by simp; omega
  clear h0 h1 hc c1 c2 c3
  go_enter Tryz.func86, Tryz.ntmps86
  go_wp2_with fail
  refine (HA.out _).mono ?_
  rintro e w2 ⟨rfl, hb2⟩
  have hb3 := ((Below.refl (w.alloc (.cells #[.int .i64 0, .int .i64 0, .string ⟨#[]⟩] 27)).heap.size _).alloc (Nat.le_refl _) (.cells #[.int .i64 d.k, .int .i64 d.i, .string d.s] 27)).trans (hb2.mono (by simp))
  rw [World.size_alloc] at hb3
  obtain ⟨⟨b1, b2, b3⟩, ⟨f1, f2, f3⟩, hB, hz⟩ := box_new hb3
  have HB := Lib.hid hB
  clear hb2 hb3 hB HA
  have HE : Hid ((asDecR ⟨d.k, d.i, d.s⟩) = asDecR d) := by show _ = _; cases d; rfl
  rw [HE.out]
  clear HE
  generalize hrb : (asDecR d).2 = rb
  generalize hra : (asDecR d).1 = ra
  have HRA := Lib.hid hra
  have HRB := Lib.hid hrb
  clear hra hrb
  obtain ⟨tk, ti, ts⟩ := ra
  go_wp2_with fail
  refine bodyPost_ret (v := .tuple #[.agg #[.int .i64 tk, .int .i64 ti, .string ts], .bool rb]) (by simp [results, Tryz.results86, go_sem, b1, b2, b3]) rfl ⟨by rw [HRA.out, HRB.out], ?_⟩
  repeat' (first | exact HB.out | refine Below.setCell ?_ ?_ _ | exact Nat.le_refl w.heap.size)
end Go.Proofs.YtokbdleokihdaaaGreatDoor
namespace Go.Proofs.YtokbdleokihdaaaGreatDoor
open Go.RowKit

theorem wrap_wrap (x : Int) : IntKind.i64.wrap x = wrap64 x := by rw [IntKind.wrap_i64]; unfold wrap64; omega
def negR (d : Dt) : Dt × Bool := (⟨d.k, wrap64 (-d.i), ⟨#[]⟩⟩, d.i != -9223372036854775808)
def absR (d : Dt) : Dt × Bool := if 0 ≤ d.i then (d, true) else negR d

set_option maxHeartbeats 1000000 in
theorem number_neg (op : Int) (hop : op = 1 ∨ op = 19) (d : Dt) (b o cap : Nat) (w : World) (hbk : b < w.heap.size) (hc : DCells w b o [d]) :
    Calls Tryz.prog 86 #[.int .i64 op, .slice (some ⟨b, o, none⟩) 1 cap] w fun e w' => e = .returned (.tuple #[(if op = 1 then negR d else absR d).1.v, .bool (if op = 1 then negR d else absR d).2]) ∧ Below w.heap.size w w' := by
  have hcd := hc 0 (by simp)
  simp only [Nat.zero_mul, Nat.add_zero] at hcd
  obtain ⟨c1, c2, c3⟩ := hcd
  have hcc : w.cell? ⟨b, o, none⟩ = some (.int .i64 d.k) ∧ w.cell? ⟨b, o + 1, none⟩ = some (.int .i64 d.i) ∧ w.cell? ⟨b, o + 2, none⟩ = some (.string d.s) := ⟨c1, c2, c3⟩
  obtain ⟨d1, d2, d3⟩ := hcc
  have hne : (w.heap.size == b) = false := by simp; omega
  clear hc c1 c2 c3
  have hB := (boxes2 w #[.int .i64 0, .int .i64 0, .string ⟨#[]⟩] #[.int .i64 d.k, .int .i64 d.i, .string d.s] 27 27).1
  have HB := Lib.hid hB
  clear hB
  rcases hop with rfl | rfl
  · have HR := Lib.hid (show (if (1 : Int) = 1 then negR d else absR d) = (⟨d.k, wrap64 (-d.i), ⟨#[]⟩⟩, d.i != -9223372036854775808) from rfl)
    rw [HR.out]
    clear HR
    go_enter Tryz.func86, Tryz.ntmps86
    go_wp2_with fail
    go_region_with fail
    go_wp2_with fail
    all_goals
      refine bodyPost_ret (v := .tuple #[.agg #[.int .i64 d.k, .int .i64 (wrap64 (-d.i)), .string ⟨#[]⟩], .bool (d.i != -9223372036854775808)]) (by simp [results, Tryz.results86, go_sem, wrap_wrap]) rfl ⟨rfl, ?_⟩
      repeat' (first | exact (boxes2 w _ _ _ _).1 | exact HB.out | refine Below.setCell ?_ ?_ _ | refine Below.drew ?_ | exact Nat.le_refl w.heap.size | exact Nat.le_succ w.heap.size)
  · by_cases hi : 0 ≤ d.i
    · have HR := Lib.hid (show (if (19 : Int) = 1 then negR d else absR d) = (d, true) by rw [if_neg (by decide), absR, if_pos hi])
      have hi2 : decide (0 ≤ d.i) = true := by simpa using hi
      rw [HR.out]
      clear HR
      go_enter Tryz.func86, Tryz.ntmps86
      go_wp2_with fail
      all_goals
        refine bodyPost_ret (v := .tuple #[.agg #[.int .i64 d.k, .int .i64 d.i, .string d.s], .bool true]) (by simp [results, Tryz.results86, go_sem]) rfl ⟨rfl, ?_⟩
        repeat' (first | exact (boxes2 w _ _ _ _).1 | exact HB.out | refine Below.setCell ?_ ?_ _ | refine Below.drew ?_ | exact Nat.le_refl w.heap.size | exact Nat.le_succ w.heap.size)
    · have HR := Lib.hid (show (if (19 : Int) = 1 then negR d else absR d) = (⟨d.k, wrap64 (-d.i), ⟨#[]⟩⟩, d.i != -9223372036854775808) by rw [if_neg (by decide), absR, if_neg hi]; rfl)
      have hi2 : decide (0 ≤ d.i) = false := by simpa using hi
      rw [HR.out]
      clear HR
      go_enter Tryz.func86, Tryz.ntmps86
      go_wp2_with fail
      go_region_with fail
      go_wp2_with fail
      all_goals
        refine bodyPost_ret (v := .tuple #[.agg #[.int .i64 d.k, .int .i64 (wrap64 (-d.i)), .string ⟨#[]⟩], .bool (d.i != -9223372036854775808)]) (by simp [results, Tryz.results86, go_sem, wrap_wrap]) rfl ⟨rfl, ?_⟩
        repeat' (first | exact (boxes2 w _ _ _ _).1 | exact HB.out | refine Below.setCell ?_ ?_ _ | refine Below.drew ?_ | exact Nat.le_refl w.heap.size | exact Nat.le_succ w.heap.size)
end Go.Proofs.YtokbdleokihdaaaGreatDoor
namespace Go.Proofs.YtokbdleokihdaaaGreatDoor
open Go.RowKit

/-- A quotient towards 0, where there is one that has room. -/
def quo (z n : Int) : Int × Bool := if n ≠ 0 ∧ room (z.tdiv n) = true then (z.tdiv n, true) else (0, false)
theorem mulNeg_prod (a b : Int) : a * b = (if mulNeg a b = true then -((a.natAbs * b.natAbs : Nat) : Int) else ((a.natAbs * b.natAbs : Nat) : Int)) ∧ (mulNeg a b = true → 0 < a.natAbs * b.natAbs) := by
  have hz : (mulHi a b == 0 && mulLo a b == 0) = decide (a.natAbs * b.natAbs = 0) := by
    unfold mulHi mulLo
    rw [Bool.eq_iff_iff]
    simp only [Bool.and_eq_true, beq_iff_eq, decide_eq_true_eq]
    omega
  unfold mulNeg
  rw [hz]
  have e1 := Int.natAbs_mul a b
  rw [← e1]
  by_cases ha : a < 0 <;> by_cases hb : b < 0
  · have h : 0 ≤ a * b := Int.mul_nonneg_of_nonpos_of_nonpos (by omega) (by omega)
    simp [ha, hb]; omega
  · have h : a * b ≤ 0 := Int.mul_nonpos_of_nonpos_of_nonneg (by omega) (by omega)
    generalize a * b = z at *
    by_cases hz0 : z = 0 <;> simp [ha, hb, hz0] <;> omega
  · have h : a * b ≤ 0 := Int.mul_nonpos_of_nonneg_of_nonpos (by omega) (by omega)
    generalize a * b = z at *
    by_cases hz0 : z = 0 <;> simp [ha, hb, hz0] <;> omega
  · have h : 0 ≤ a * b := Int.mul_nonneg (by omega) (by omega)
    simp [ha, hb]; omega
theorem tdiv_signed (m : Bool) (P : Nat) (n : Int) : (if m = true then -(P : Int) else (P : Int)).tdiv n = if (m != decide (n < 0)) = true then -((P / n.natAbs : Nat) : Int) else ((P / n.natAbs : Nat) : Int) := by
  by_cases hn : n < 0
  · obtain ⟨k, hk⟩ : ∃ k : Nat, n = -(k : Int) := ⟨n.natAbs, by omega⟩
    subst hk
    have h0 : k ≠ 0 := by omega
    cases m <;> simp [Int.neg_tdiv, Int.tdiv_neg] <;> omega
  · obtain ⟨k, hk⟩ : ∃ k : Nat, n = (k : Int) := ⟨n.natAbs, by omega⟩
    subst hk
    cases m <;> simp [hn, Int.neg_tdiv]
theorem over_quo (a b n : Int) : overR (mulNeg a b) (a.natAbs * b.natAbs / 18446744073709551616) (a.natAbs * b.natAbs % 18446744073709551616) n = quo (a * b) n := by
  obtain ⟨h1, h2⟩ := mulNeg_prod a b
  have hz : a.natAbs * b.natAbs / 18446744073709551616 * 18446744073709551616 + a.natAbs * b.natAbs % 18446744073709551616 = a.natAbs * b.natAbs := by
    rw [Nat.mul_comm _ 18446744073709551616, Nat.div_add_mod]
  unfold overR quo
  rw [hz, h1, tdiv_signed]
  generalize mulNeg a b = m at *
  generalize hP : a.natAbs * b.natAbs = P at *
  clear h1 hz
  have hroom : ∀ z, room z = true ↔ (-9223372036854775808 ≤ z ∧ z < 9223372036854775808) := fun z => by unfold room; simp only [Bool.and_eq_true, decide_eq_true_eq]
  by_cases hc : n.natAbs ≤ P / 18446744073709551616
  · rw [if_pos hc]
    by_cases h0 : n = 0
    · rw [if_neg (by simp [h0])]
    · have hq : 18446744073709551616 ≤ P / n.natAbs := by
        rw [Nat.le_div_iff_mul_le (by omega)]
        have : n.natAbs * 18446744073709551616 ≤ P := by
          exact (Nat.le_div_iff_mul_le (k := 18446744073709551616) (by decide)).1 hc
        omega
      rw [if_neg]
      rintro ⟨-, hxy⟩
      obtain ⟨hx, hy⟩ := (hroom _).1 hxy
      generalize P / n.natAbs = q at *
      by_cases hm : (m != decide (n < 0)) = true
      · rw [if_pos hm] at hx hy; omega
      · rw [if_neg hm] at hx hy; omega
  · rw [if_neg hc]
    have h0 : n ≠ 0 := by omega
    generalize P / n.natAbs = q
    by_cases hm : (m != decide (n < 0)) = true
    · rw [if_pos hm, if_pos hm]
      by_cases hq : q ≤ 9223372036854775808
      · rw [if_pos hq, if_pos ⟨h0, (hroom _).2 ⟨by omega, by omega⟩⟩]
      · rw [if_neg hq, if_neg (fun h => by have := (hroom _).1 h.2; omega)]
    · rw [if_neg hm, if_neg hm]
      by_cases hq : q < 9223372036854775808
      · rw [if_pos hq, if_pos ⟨h0, (hroom _).2 ⟨by omega, by omega⟩⟩]
      · rw [if_neg hq, if_neg (fun h => by have := (hroom _).1 h.2; omega)]

/-- What arithmetic on two amounts makes. -/
def arI (op a b one : Int) : Int × Bool := if op = 3 then (wrap64 (a + b), room (a + b)) else if op = 4 then (wrap64 (a - b), room (a - b)) else if op = 5 then quo (a * b) one else quo (a * one) b
def arith (k op a b one : Int) : Dt × Bool := (⟨k, (arI op a b one).1, ⟨#[]⟩⟩, (arI op a b one).2)
def numR (op : Int) (d d' : Dt) : Dt × Bool :=
  if d.k = 3 ∨ d'.k = 3 then (if (asDecR d).2 = true ∧ (asDecR d').2 = true then arith 3 op (asDecR d).1.i (asDecR d').1.i 10000 else (Dt.zero, false)) else arith 2 op d.i d'.i 1
theorem times_over (a b n : Int) (w : World) (n0 : -9223372036854775808 ≤ n) (n1 : n ≤ 9223372036854775807) :
    Calls Tryz.prog 100 #[.agg #[.bool (mulNeg a b), .int .u64 (mulHi a b), .int .u64 (mulLo a b)], .int .i64 n] w fun e w' => e = .returned (.tuple #[.int .i64 (quo (a * b) n).1, .bool (quo (a * b) n).2]) ∧ Below w.heap.size w w' := by
  have := over_any (mulNeg a b) (a.natAbs * b.natAbs / 18446744073709551616) (a.natAbs * b.natAbs % 18446744073709551616) n w (Nat.mod_lt _ (by omega)) n0 n1
  rw [over_quo] at this
  exact this
end Go.Proofs.YtokbdleokihdaaaGreatDoor

/- The document's Fits, at a negative number. The document's Fits, said of whole numbers. The document's two, at a sum. -/
import Derived.Test.YtokbdleokihdaaaGreatDoorG15
import Derived.Deep.DeepCutAuto
import Derived.Deep.RegionWith
import Derived.Test.YtokbdleokihdaaaGreatDoorG02
namespace Go.Proofs.YtokbdleokihdaaaGreatDoor
open Go.RowKit

set_option maxRecDepth 100000 in
set_option maxHeartbeats 4000000 in
theorem fits_neg (z : Nat) (hz0 : z ≠ 0) (va : Value) (w : World) (ha : URow w va (digs z)) (hf : Fit (-(z : Int))) :
    Calls Tryz.prog 36 #[.agg #[.bool true, va]] w fun e w' => e = .returned (.tuple #[.int .i64 (if z ≤ 9223372036854775808 then -(z : Int) else 0), .bool (decide (z ≤ 9223372036854775808))]) ∧ Below w.heap.size w w' := by
  obtain ⟨hB, hz, -⟩ := boxes1 w #[.bool true, va] 65
  have b0 := Bg.new w true va 65
  have hbig : BigV w (.agg #[.bool true, va]) (-(z : Int)) := ⟨va, by rw [decide_eq_true (by omega)], by simpa using ha⟩
  have HV := Lib.hid hbig
  have hlen : (digs z).length ≤ 700 := by have := hf.len; simpa using this
  have HF := Lib.hid hf
  obtain ⟨pa, ca, rfl, -, ha'⟩ := id ha
  have HA := Lib.hid ha'
  have HB := Lib.hid hB
  have H0 := Lib.hid b0
  have HZ := Lib.hid hz
  generalize hna : (digs z).length = na at *
  have HNA := Lib.hid hna
  clear ha ha' hB b0 hz hbig hf hna
  go_enter Tryz.func36, Tryz.ntmps36
  go_wp2_with fail
  refine (of_v 9223372036854775807 (by omega) (by omega) _).mono ?_
  rintro e w1 ⟨v1, rfl, hv1, hb1⟩
  rw [HZ.out] at hb1
  replace H0 := Lib.hid (H0.out.below hb1 (by omega))
  replace HB := Lib.hid (HB.out.trans (hb1.mono (by omega)))
  have hl1 := H0.out.lt
  clear hb1
  obtain ⟨p1, c1, rfl⟩ := hv1.form
  have hneg : decide ((9223372036854775807 : Int) < 0) = false := by decide
  rw [hneg] at hv1 ⊢
  clear hneg
  generalize hL1 : (digs (9223372036854775807 : Int).natAbs).length = L1 at *
  clear hL1
  go_upto_region 2 with fail
  replace H0 := Lib.hid (H0.out.alloc (.cells #[.bool false, .slice p1 L1 c1] 65))
  have HM := Lib.hid (Bg.new w1 false (.slice p1 L1 c1) 65)
  have HV1 := Lib.hid (hv1.below ((Below.refl w1.heap.size w1).alloc (Nat.le_refl _) (.cells #[.bool false, .slice p1 L1 c1] 65)))
  replace HB := Lib.hid (HB.out.alloc (by omega) (.cells #[.bool false, .slice p1 L1 c1] 65))
  clear hv1
  generalize w1.alloc (.cells #[.bool false, .slice p1 L1 c1] 65) = W2 at *
  generalize w1.heap.size = o at *
  have s0 := H0.out.c0
  have s1 := H0.out.c1
  have m0 := HM.out.c0
  have m1 := HM.out.c1
  go_upto_region 3 with fail
  go_cut [] (fun wc => Bg wc w.heap.size true (.slice pa na ca) ∧ Below w.heap.size w wc ∧ ∃ p3 L3 c3, Bg wc o false (.slice p3 L3 c3) ∧ BigV wc (.agg #[.bool false, .slice p3 L3 c3]) 9223372036854775808)
  case first =>
    obtain ⟨rv1, hrv1, hrow1⟩ := HV1.out
    simp at hrv1
    subst hrv1
    have hr1 : URow W2 (.slice p1 L1 c1) (digs 9223372036854775807) := hrow1
    have hd1 : (digs 9223372036854775807).length ≤ 4 := digs_len (by decide)
    have hd2 : (digs 1).length ≤ 4 := digs_len (by decide)
    have hd1' : (digs 9223372036854775807).length ≤ 1900 := by omega
    have hd2' : (digs 1).length ≤ 1900 := by omega
    go_region_with (first
      | (go_at_call 39; refine (of_v 1 (by omega) (by omega) _).mono ?_; rintro e w4 ⟨v2, rfl, hv2, hb4⟩; obtain ⟨rv2, rfl, hrow2⟩ := hv2; have hr4 := hr1.below ((Below.refl _ W2).drew.trans hb4); have hr2 : URow w4 rv2 (digs 1) := hrow2; have M4 := HM.out.drew.below hb4 HM.out.lt; have m0' := M4.c0; have m1' := M4.c1)
      | (go_at_call 51; refine (added_any _ _ _ _ 9223372036854775807 1 w4 hr4 hr2 hd1' hd2').mono ?_; rintro e w5 ⟨v5, rfl, hrow5, hb5⟩; have M5 := M4.below hb5 M4.lt; obtain ⟨p5, l5, c5, rfl⟩ := owns_slice hrow5; have m05 := M5.c0; have m15 := M5.c1; have m0f := M5.f0; have m1f := M5.f1))
    all_goals
      go_wp2_with fail
      go_meet
      case rel =>
        have hu := URow.of_owns hrow5
        refine ⟨(((H0.out.drew.below hb4 H0.out.lt).below hb5 (Nat.lt_of_lt_of_le H0.out.lt hb4.size)).set (by show o ≠ _; omega) _).set (by show o ≠ _; omega) _, (((HB.out.drew.trans (hb4.mono HB.out.size)).trans (hb5.mono (Nat.le_trans HB.out.size hb4.size))).setCell (p := ⟨o, 0, none⟩) (by show _ ≤ o; omega) _).setCell (p := ⟨o, 1, none⟩) (by show _ ≤ o; omega) _, p5, l5, c5, (M5.set0 _).set1 _, ⟨_, by simp, (hu.set M5 0 _).set (M5.set0 _) 1 _⟩⟩
  case rest =>
    obtain ⟨hh0, hhb, p3, L3, c3, hhm, hhv⟩ := hcut
    have fit63 : Fit 9223372036854775808 := Fit.of_lt (show (9223372036854775808 : Int).natAbs < 1000000 ^ 4 by decide) (by decide)
    clear s0 s1 m0 m1 HV1
    replace H0 := Lib.hid hh0
    replace HB := Lib.hid hhb
    replace HM := Lib.hid hhm
    have HV1 := Lib.hid hhv
    clear hh0 hhb hhm hhv
    have s0 := H0.out.c0
    have s1 := H0.out.c1
    have m0 := HM.out.c0
    have m1 := HM.out.c1
    by_cases hle : z ≤ 9223372036854775808
    · have HLe := Lib.hid hle
      have HC : Hid (Calls Tryz.prog 49 #[.agg #[.bool true, .slice pa na ca], .agg #[.bool false, .slice p3 L3 c3]] wc fun e w' => e = .returned (.int .i64 (cmpN z 9223372036854775808)) ∧ Below wc.heap.size wc w') := by
        have := amounts_v (HV.out.below HB.out) HV1.out HF.out fit63
        rwa [Int.natAbs_neg, Int.natAbs_natCast] at this
      have hc : cmpN z 9223372036854775808 = -1 ∨ cmpN z 9223372036854775808 = 0 := by unfold cmpN; by_cases h : z < 9223372036854775808 <;> simp [h]; omega
      have hcd : ¬ (0 : Int) < cmpN z 9223372036854775808 := by omega
      generalize cmpN z 9223372036854775808 = cc at *
      clear hc
      go_wp2_with fail
      refine HC.out.mono ?_
      rintro e w3 ⟨rfl, hb1⟩
      have hz2 := H0.out.lt
      replace H0 := Lib.hid (H0.out.below hb1 (by omega))
      replace HB := Lib.hid (HB.out.trans (hb1.mono (by omega)))
      clear hb1 HC s0 s1 m0 m1 HM HV1
      have s0 := H0.out.c0
      have s1 := H0.out.c1
      go_wp2_with fail
      go_loopw [5, 6] (fun n i wr => ∃ (m k : Nat), k ≤ na ∧ n = .int .u64 (m : Int) ∧ i = .int .i64 ((k : Int) - 1) ∧ m = val ((digs z).drop k) ∧ wr = w3) (fun _ i _ => (intOf i + 1).toNat)
      case atStart => exact ⟨0, na, Nat.le_refl _, rfl, by go_num, by rw [← HNA.out, List.drop_length]; rfl, rfl⟩
      case round =>
        obtain ⟨m, k, hk, rfl, rfl, hm, rfl⟩ := hrel
        have hmz : m ≤ z := by have := val_drop_le (digs z) k; rw [val_digs] at this; omega
        cases k with
        | zero =>
          have hE : m = z := by rw [hm, List.drop_zero, val_digs]
          subst hE
          clear hm
          have hw1 : IntKind.u64.wrap (-(m : Int)) = 18446744073709551616 - (m : Int) := by rw [IntKind.wrap_u64]; omega
          have hw2 : IntKind.i64.wrap (18446744073709551616 - (m : Int)) = -(m : Int) := by rw [IntKind.wrap_i64]; omega
          go_wp2_with fail
          go_ret2
          exact ⟨ret_pair rfl rfl, HB.out⟩
        | succ k =>
          rw [show (((k + 1 : Nat) : Int) - 1) = (k : Int) by omega]
          obtain ⟨ga, rfl, kx⟩ := URow.at HA.out HB.out (show k < na by omega) HNA.out
          have hd := val_drop (l := digs z) (k := k) (by rw [HNA.out]; omega)
          have hle2 := val_drop_le (digs z) k
          rw [val_digs] at hle2
          rw [← hm] at hd
          obtain ⟨m', hm'⟩ : ∃ m', m' = val ((digs z).drop k) := ⟨_, rfl⟩
          have HM2 := Lib.hid hm'
          rw [← hm'] at hd hle2
          generalize (digs z).getD k 0 = d at *
          obtain ⟨t, ht⟩ : ∃ t, t = m * 1000000 := ⟨_, rfl⟩
          have et : (m : Int) * 1000000 = (t : Int) := by omega
          have em : (t : Int) + (d : Int) = (m' : Int) := by omega
          have htl : t ≤ 9223372036854775808 := by omega
          have hml : m' ≤ 9223372036854775808 := by omega
          have hkn : k < na := by omega
          clear hm hm' ht hd
          go_wp2_with fail
          go_roundw
          case rel => exact ⟨m', k, by omega, by go_num, by go_num, HM2.out, trivial⟩
          case measure => simp [intOf]
    · have HLe := Lib.hid hle
      have HC : Hid (Calls Tryz.prog 49 #[.agg #[.bool true, .slice pa na ca], .agg #[.bool false, .slice p3 L3 c3]] wc fun e w' => e = .returned (.int .i64 1) ∧ Below wc.heap.size wc w') := by
        have : Calls Tryz.prog 49 #[.agg #[.bool true, .slice pa na ca], .agg #[.bool false, .slice p3 L3 c3]] wc fun e w' => e = .returned (.int .i64 (cmpN z 9223372036854775808)) ∧ Below wc.heap.size wc w' := (by
          have h7 := amounts_v (HV.out.below HB.out) HV1.out HF.out fit63
          rwa [Int.natAbs_neg, Int.natAbs_natCast] at h7)
        rwa [show cmpN z 9223372036854775808 = 1 by unfold cmpN; rw [if_neg (by omega), if_pos (by omega)]] at this
      go_wp2_with fail
      refine HC.out.mono ?_
      rintro e w3 ⟨rfl, hb1⟩
      have hz2 := H0.out.lt
      replace HB := Lib.hid (HB.out.trans (hb1.mono (by omega)))
      clear hb1 HC
      go_wp2_with fail
      go_ret2
      exact ⟨ret_pair rfl rfl, HB.out⟩
end Go.Proofs.YtokbdleokihdaaaGreatDoor
namespace Go.Proofs.YtokbdleokihdaaaGreatDoor
open Go.RowKit

theorem BigV.row {w : World} {m : Bool} {rv : Value} {z : Nat} (h : BigV w (.agg #[.bool m, rv]) (z : Int)) : URow w rv (digs z) := by
  obtain ⟨rv', h1, h2⟩ := h
  cases h1
  simpa using h2
theorem big_of {w : World} {v : Value} {z : Nat} (h : URow w v (digs z)) : BigV w (.agg #[.bool false, v]) (z : Int) :=
  ⟨_, by rw [decide_eq_false (Int.not_lt.2 (Int.natCast_nonneg _))], by rw [Int.natAbs_natCast]; exact h⟩
theorem fits_v {w : World} {va : Value} {a : Int} (ha : BigV w va a) (fa : Fit a) :
    Calls Tryz.prog 36 #[va] w fun e w' => e = .returned (.tuple #[.int .i64 (if -9223372036854775808 ≤ a ∧ a ≤ 9223372036854775807 then a else 0), .bool (decide (-9223372036854775808 ≤ a ∧ a ≤ 9223372036854775807))]) ∧ Below w.heap.size w w' := by
  obtain ⟨ra, rfl, ha⟩ := ha
  by_cases hs : a < 0
  · obtain ⟨z, rfl⟩ : ∃ z : Nat, a = -(z : Int) := ⟨a.natAbs, by omega⟩
    rw [decide_eq_true hs]
    refine (fits_neg z (by omega) ra w (by simpa using ha) fa).mono ?_
    rintro e w' ⟨rfl, hb⟩
    refine ⟨?_, hb⟩
    by_cases h : z ≤ 9223372036854775808
    · rw [if_pos h, decide_eq_true h, if_pos (by omega), decide_eq_true (by omega)]
    · rw [if_neg h, decide_eq_false h, if_neg (by omega), decide_eq_false (by omega)]
  · obtain ⟨z, rfl⟩ : ∃ z : Nat, a = (z : Int) := ⟨a.natAbs, by omega⟩
    rw [decide_eq_false hs]
    refine (fits_pos z ra w (by simpa using ha) fa).mono ?_
    rintro e w' ⟨rfl, hb⟩
    refine ⟨?_, hb⟩
    by_cases h : z ≤ 9223372036854775807
    · rw [if_pos h, decide_eq_true h, if_pos (by omega), decide_eq_true (by omega)]
    · rw [if_neg h, decide_eq_false h, if_neg (by omega), decide_eq_false (by omega)]
end Go.Proofs.YtokbdleokihdaaaGreatDoor
namespace Go.Proofs.YtokbdleokihdaaaGreatDoor
open Go.RowKit

def In64 (a : Int) : Prop := -9223372036854775808 ≤ a ∧ a ≤ 9223372036854775807
instance (a : Int) : Decidable (In64 a) := by unfold In64; infer_instance

set_option maxRecDepth 100000 in
set_option maxHeartbeats 4000000 in
theorem two_plus (kind unit : Int) {w : World} {va vb : Value} {a b : Int} (ha : BigV w va a) (hb : BigV w vb b) (fa : Fit a) (fb : Fit b) (fab : Fit (a + b)) :
    Calls Tryz.prog 40 #[.int .i64 3, .int .i64 kind, va, vb, .int .i64 unit] w fun e w' => ∃ ok, ok = decide (In64 (a + b)) ∧ e = .returned (.tuple #[.agg #[.int .i64 (if ok then kind else 0), .int .i64 (if ok then a + b else 0), .string ⟨#[]⟩], .int .i64 (if ok then 0 else 4)]) ∧ Below w.heap.size w w' := by
  obtain ⟨pa, ca, rfl⟩ := ha.form
  obtain ⟨pb, cb, rfl⟩ := hb.form
  generalize (digs a.natAbs).length = la at *
  generalize (digs b.natAbs).length = lb at *
  generalize decide (a < 0) = ma at *
  generalize decide (b < 0) = mb at *
  obtain ⟨hB3, hz3, -, -, X3⟩ := boxes3 w #[.bool ma, .slice pa la ca] #[.bool mb, .slice pb lb cb] #[.int .i64 0, .int .i64 0, .string ⟨#[]⟩] 65 65 27
  have HP := Lib.hid (plus_v (ha.below hB3) (hb.below hB3) fa fb)
  have HB := Lib.hid hB3
  have HZ := Lib.hid hz3
  have HX := Lib.hid X3
  have hres : ∃ (ok : Bool) (r : Int), ok = decide (In64 (a + b)) ∧ r = (if ok then a + b else 0) ∧ ∀ W v, BigV W v (a + b) → Calls Tryz.prog 36 #[v] W fun e w' => e = .returned (.tuple #[.int .i64 r, .bool ok]) ∧ Below W.heap.size W w' := by
    refine ⟨decide (In64 (a + b)), if decide (In64 (a + b)) then a + b else 0, rfl, rfl, fun W v hv => ?_⟩
    have h := fits_v hv fab
    by_cases hin : In64 (a + b)
    · rw [decide_eq_true hin]
      unfold In64 at hin
      rw [if_pos hin, decide_eq_true hin] at h
      exact h
    · rw [decide_eq_false hin]
      unfold In64 at hin
      rw [if_neg hin, decide_eq_false hin] at h
      exact h
  obtain ⟨ok, r, hok, hr, hF⟩ := hres
  have HOK := Lib.hid hok
  have HR := Lib.hid hr
  have HF := Lib.hid hF
  have HRs := Lib.hid (fun W => result_any kind r ok W)
  clear ha hb hB3 hz3 X3 fa fb fab hok hr hF
  go_enter Tryz.func40, Tryz.ntmps40
  go_wp2_with fail
  refine HP.out.mono ?_
  rintro e w1 ⟨v1, rfl, hv1, hb1⟩
  have HV := Lib.hid hv1
  have HB1 := Lib.hid hb1
  clear hv1 hb1
  go_wp2_with fail
  refine (HF.out _ _ HV.out).mono ?_
  rintro e w2 ⟨rfl, hb2⟩
  have HB2 := Lib.hid hb2
  clear hb2
  go_wp2_with fail
  refine (HRs.out _).mono ?_
  rintro e w3 ⟨rfl, hb3⟩
  have HB3 := Lib.hid hb3
  clear hb3
  have hs1 := HB1.out.size
  have hs2 := HB2.out.size
  have HBA := Lib.hid ((HB1.out.trans (HB2.out.mono hs1)).trans (HB3.out.mono (Nat.le_trans hs1 hs2)))
  obtain ⟨⟨d0, d1, d2⟩, ⟨g0, g1, g2⟩⟩ := box_kept HBA.out (n := w.heap.size + 2) (by rw [HZ.out]; omega) (x := .int .i64 0) (y := .int .i64 0) (z := .string ⟨#[]⟩) (by rw [HX.out]; rfl) (by rw [HX.out]; rfl) (by rw [HX.out]; rfl) (fun i => World.frozen?_alloc_at _ _ _ _ (by simp))
  have HW := Lib.hid (HB.out.trans (HBA.out.mono (by rw [HZ.out]; omega)))
  have hE : (if ok = true then r else 0) = (if ok = true then a + b else 0) := by rw [HR.out]; cases ok <;> rfl
  rw [hE]
  have HE := Lib.hid hE
  clear hE hs1 hs2 HBA
  generalize hkk : (if ok = true then kind else 0) = kk at *
  have Kkk := Lib.hid hkk
  clear hkk
  generalize hrr : (if ok = true then a + b else 0) = rr at *
  have Krr := Lib.hid hrr
  clear hrr
  generalize hee : (if ok = true then (0 : Int) else 4) = ee at *
  have Kee := Lib.hid hee
  clear hee
  go_wp2_with fail
  exact bodyPost_ret (v := .tuple #[.agg #[.int .i64 kk, .int .i64 rr, .string ⟨#[]⟩], .int .i64 ee]) (by simp [results, Tryz.results40, go_sem, d0, d1, d2]) rfl ⟨ok, HOK.out, by rw [Kkk.out, Krr.out, Kee.out], ((HW.out.setCell (p := ⟨w.heap.size + 2, 0, none⟩) (Nat.le_add_right _ _) _).setCell (p := ⟨w.heap.size + 2, 1, none⟩) (Nat.le_add_right _ _) _).setCell (p := ⟨w.heap.size + 2, 2, none⟩) (Nat.le_add_right _ _) _⟩
end Go.Proofs.YtokbdleokihdaaaGreatDoor

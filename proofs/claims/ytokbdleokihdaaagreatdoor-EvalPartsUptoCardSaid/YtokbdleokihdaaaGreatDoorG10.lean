/- Contract of datum.Apply at arithmetic. Contract of datum.Apply at arithmetic. Contract of datum.Apply at arithmetic. Contract of datum.Apply at arithmetic. Contract of datum.Apply at arithmetic. Contract of datum.Apply at arithmetic. -/
import Derived.Test.YtokbdleokihdaaaGreatDoorG03
import Derived.Test.YtokbdleokihdaaaGreatDoorG09
import Derived.Test.YtokbdleokihdaaaGreatDoorG07
namespace Go.Proofs.YtokbdleokihdaaaGreatDoor
open Go.RowKit


set_option maxHeartbeats 1000000 in
theorem apply_dec (d : Dt) (b o cap : Nat) (w : World) (hbk : b < w.heap.size) (hc : DCells w b o [d]) (hT : Tabs w) (hr : rightD d = true) (x0 : -9223372036854775808 ≤ d.i) (x1 : d.i < 9223372036854775808) :
    Calls Tryz.prog 64 #[.int .i64 20, .slice (some ⟨b, o, none⟩) 1 cap] w fun e w' => e = .returned (.tuple #[(numA [d] (asDecR d)).1.v, .int .i64 (numA [d] (asDecR d)).2]) ∧ Below w.heap.size w w' := by
  have hm : manyF 20 = 1 := by decide
  have HX := Lib.hid (show -9223372036854775808 ≤ d.i ∧ d.i < 9223372036854775808 from ⟨x0, x1⟩)
  clear x0 x1
  have Hc := Lib.hid hc
  have HT := Lib.hid hT
  have Hr := Lib.hid hr
  clear hc hT hr
  go_enter Tryz.func64, Tryz.ntmps64
  go_wp2_with (go_at_call 79; refine (many_any _ _).mono ?_; rintro e w' ⟨rfl, rfl⟩)
  go_loopw [7, 23] (fun _ i wr => ∃ k : Nat, k ≤ 1 ∧ i = .int .i64 k ∧ Below (w.heap.size + 1) (w.alloc (.cells #[.int .i64 0, .int .i64 0, .string ⟨#[]⟩] 27)) wr) (fun _ i _ => 1 - (intOf i).toNat)
  case atStart => exact ⟨0, Nat.zero_le _, rfl, Below.refl _ _⟩
  case round =>
    obtain ⟨k, hk, rfl, hbl⟩ := hrel
    have hzw : w.heap.size < wr.heap.size := (box_new hbl).2.2.2
    have HB := Lib.hid (box_new hbl).2.2.1
    have HTr := Lib.hid (round_hyp HT.out Hc.out hbk hbl).1
    have Hcr := Lib.hid (round_hyp HT.out Hc.out hbk hbl).2.1
    have Hb := Lib.hid hbl
    clear hbl
    by_cases hlt : k < 1
    · have hzero : (0 : Int) ≤ k := by omega
      obtain ⟨hc0, hc1, hc2⟩ := Hcr.out k hlt
      have Hrk : Hid (rightD (dnth [d] k) = true) := by
        obtain rfl : k = 0 := by omega
        exact Hr.out
      generalize dnth [d] k = dd at *
      obtain ⟨dk, di, dst⟩ := dd
      dsimp only at hc0 hc1 hc2
      go_wp2_with fail
      refine (right_any _ _ _ _ (HTr.out.below ((Below.refl _ _).alloc (Nat.le_refl _) _))).mono ?_
      rintro e w2 ⟨rfl, hb2⟩
      have HR := Lib.hid ((Hb.out.alloc (by omega) _).trans (hb2.mono (by simp; omega)))
      clear hb2
      rw [Hrk.out]
      go_wp2_with fail
      go_roundw
      case rel => exact ⟨k + 1, by omega, by go_num, HR.out⟩
      case measure => simp [intOf]; omega
    · clear Hc HT
      go_wp2_with fail
      refine (of_any [d] b o cap [2, 3] _ _ _ (by simp) (by simp; omega) (Hcr.out.below ((Below.refl _ _).alloc (Nat.le_refl _) _) (by omega)) (by simp) (by simp) (kinds_new _ _ _ rfl)).mono ?_
      rintro e w2 ⟨rfl, hb2⟩
      have HR := Lib.hid ((Hb.out.alloc (by omega) _).trans (hb2.mono (by simp; omega)))
      have HT2 := Lib.hid ((HTr.out.below ((Below.refl _ _).alloc (Nat.le_refl _) _)).below hb2)
      have Hc2 := Lib.hid ((Hcr.out.below ((Below.refl _ _).alloc (Nat.le_refl _) _) (by omega)).below hb2 (by simp; omega))
      clear hb2 Hb HTr Hcr HB
      obtain ⟨⟨b1, b2, b3⟩, ⟨f1, f2, f3⟩, hB, hzw2⟩ := box_new HR.out
      have HB := Lib.hid hB
      clear hB hzw
      generalize hall : [d].all (isOf [2, 3]) = al
      have Hall := Lib.hid hall
      clear hall
      cases al
      · -- some value is of another kind
        have HE : Hid (numA [d] (asDecR d) = (Dt.zero, 5)) := by show numA [d] (asDecR d) = _; rw [numA, if_neg (by rw [Hall.out]; simp)]
        go_wp2_with fail
        refine bodyPost_ret (v := .tuple #[Dt.zero.v, .int .i64 5]) (by simp [results, Tryz.results64, go_sem, b1, b2, b3, Dt.zero]) rfl ⟨by rw [HE.out], ?_⟩
        exact ((HB.out.setCell (Nat.le_refl _) _).setCell (Nat.le_refl _) _).setCell (Nat.le_refl _) _
      · -- all are NULL or of these kinds
        clear b1 b2 b3 f1 f2 f3
        go_wp2_with fail
        refine (anyNull_any [d] b o cap _ (by simp) (by omega) Hc2.out).mono ?_
        rintro e w3 ⟨rfl, hb3⟩
        have HR3 := Lib.hid (HR.out.trans (hb3.mono (by omega)))
        have Hc3 := Lib.hid (Hc2.out.below hb3 (by omega))
        have HT3 := Lib.hid (HT2.out.below hb3)
        clear hb3 HR HB HT2 Hc2
        generalize hnul : [d].any (fun d => d.k == 0) = nul
        have Hnul := Lib.hid hnul
        clear hnul
        cases nul
        · have HE : Hid (numA [d] (asDecR d) = if (asDecR d).2 then ((asDecR d).1, 0) else (Dt.zero, 4)) := by show numA [d] (asDecR d) = _; rw [numA, if_pos Hall.out, if_neg (by rw [Hnul.out]; simp)]
          have hz4 := (box_new HR3.out).2.2.2
          go_wp2_with fail
          refine (number_dec d b o cap _ (by omega) Hc3.out HX.out.1 HX.out.2).mono ?_
          rintro e w4 ⟨rfl, hb4⟩
          have HR4 := Lib.hid (HR3.out.trans (hb4.mono (by omega)))
          clear hb4 HR3
          obtain ⟨⟨b1, b2, b3⟩, ⟨f1, f2, f3⟩, hB, hzw4⟩ := box_new HR4.out
          have HB := Lib.hid hB
          clear hB
          generalize hfin : (asDecR d) = tv at HE
          have HF := Lib.hid hfin
          clear hfin
          obtain ⟨⟨tk, ti, ts⟩, tb⟩ := tv
          cases tb
          · obtain ⟨c1, c2, c3, -, -, -, -⟩ := ((Bx.mk b1 b2 b3 f1 f2 f3 hzw4).store (.int .i64 0) (.int .i64 0) (.string ⟨#[]⟩)).alloc (.cells #[.int .i64 tk, .int .i64 ti, .string ts] 27)
            go_wp2_with fail
            refine bodyPost_ret (v := .tuple #[Dt.zero.v, .int .i64 4]) (by simp [results, Tryz.results64, go_sem, c1, c2, c3, Dt.zero]) rfl ⟨by rw [HF.out, HE.out]; rfl, ?_⟩
            exact (((HB.out.setCell (Nat.le_refl _) _).setCell (Nat.le_refl _) _).setCell (Nat.le_refl _) _).alloc (by simp; omega) _
          · obtain ⟨c1, c2, c3, -, -, -, -⟩ := ((Bx.mk b1 b2 b3 f1 f2 f3 hzw4).store (.int .i64 tk) (.int .i64 ti) (.string ts)).alloc (.cells #[.int .i64 tk, .int .i64 ti, .string ts] 27)
            go_wp2_with fail
            refine bodyPost_ret (v := .tuple #[.agg #[.int .i64 tk, .int .i64 ti, .string ts], .int .i64 0]) (by simp [results, Tryz.results64, go_sem, c1, c2, c3]) rfl ⟨by rw [HF.out, HE.out]; rfl, ?_⟩
            exact (((HB.out.setCell (Nat.le_refl _) _).setCell (Nat.le_refl _) _).setCell (Nat.le_refl _) _).alloc (by simp; omega) _
        · have HE : Hid (numA [d] (asDecR d) = (Dt.zero, 0)) := by show numA [d] (asDecR d) = _; rw [numA, if_pos Hall.out, if_pos Hnul.out]
          obtain ⟨⟨b1, b2, b3⟩, ⟨f1, f2, f3⟩, hB, hzw4⟩ := box_new HR3.out
          have HB := Lib.hid hB
          clear hB
          go_wp2_with fail
          refine bodyPost_ret (v := .tuple #[Dt.zero.v, .int .i64 0]) (by simp [results, Tryz.results64, go_sem, b1, b2, b3, Dt.zero]) rfl ⟨by rw [HE.out], ?_⟩
          exact ((HB.out.setCell (Nat.le_refl _) _).setCell (Nat.le_refl _) _).setCell (Nat.le_refl _) _
end Go.Proofs.YtokbdleokihdaaaGreatDoor
namespace Go.Proofs.YtokbdleokihdaaaGreatDoor
open Go.RowKit

theorem number_neg1 (d : Dt) (b o cap : Nat) (w : World) (hbk : b < w.heap.size) (hc : DCells w b o [d]) :
    Calls Tryz.prog 86 #[.int .i64 1, .slice (some ⟨b, o, none⟩) 1 cap] w fun e w' => e = .returned (.tuple #[(negR d).1.v, .bool (negR d).2]) ∧ Below w.heap.size w w' := by
  have h := number_neg 1 (Or.inl rfl) d b o cap w hbk hc
  rw [if_pos rfl] at h
  exact h
theorem number_abs (d : Dt) (b o cap : Nat) (w : World) (hbk : b < w.heap.size) (hc : DCells w b o [d]) :
    Calls Tryz.prog 86 #[.int .i64 19, .slice (some ⟨b, o, none⟩) 1 cap] w fun e w' => e = .returned (.tuple #[(absR d).1.v, .bool (absR d).2]) ∧ Below w.heap.size w w' := by
  have h := number_neg 19 (Or.inr rfl) d b o cap w hbk hc
  rw [if_neg (by decide)] at h
  exact h

set_option maxHeartbeats 1000000 in
theorem apply_neg (d : Dt) (b o cap : Nat) (w : World) (hbk : b < w.heap.size) (hc : DCells w b o [d]) (hT : Tabs w) (hr : rightD d = true) (x0 : -9223372036854775808 ≤ d.i) (x1 : d.i < 9223372036854775808) :
    Calls Tryz.prog 64 #[.int .i64 1, .slice (some ⟨b, o, none⟩) 1 cap] w fun e w' => e = .returned (.tuple #[(numA [d] (negR d)).1.v, .int .i64 (numA [d] (negR d)).2]) ∧ Below w.heap.size w w' := by
  have hm : manyF 1 = 1 := by decide
  have HX := Lib.hid (show -9223372036854775808 ≤ d.i ∧ d.i < 9223372036854775808 from ⟨x0, x1⟩)
  clear x0 x1
  have Hc := Lib.hid hc
  have HT := Lib.hid hT
  have Hr := Lib.hid hr
  clear hc hT hr
  go_enter Tryz.func64, Tryz.ntmps64
  go_wp2_with (go_at_call 79; refine (many_any _ _).mono ?_; rintro e w' ⟨rfl, rfl⟩)
  go_loopw [7, 23] (fun _ i wr => ∃ k : Nat, k ≤ 1 ∧ i = .int .i64 k ∧ Below (w.heap.size + 1) (w.alloc (.cells #[.int .i64 0, .int .i64 0, .string ⟨#[]⟩] 27)) wr) (fun _ i _ => 1 - (intOf i).toNat)
  case atStart => exact ⟨0, Nat.zero_le _, rfl, Below.refl _ _⟩
  case round =>
    obtain ⟨k, hk, rfl, hbl⟩ := hrel
    have hzw : w.heap.size < wr.heap.size := (box_new hbl).2.2.2
    have HB := Lib.hid (box_new hbl).2.2.1
    have HTr := Lib.hid (round_hyp HT.out Hc.out hbk hbl).1
    have Hcr := Lib.hid (round_hyp HT.out Hc.out hbk hbl).2.1
    have Hb := Lib.hid hbl
    clear hbl
    by_cases hlt : k < 1
    · have hzero : (0 : Int) ≤ k := by omega
      obtain ⟨hc0, hc1, hc2⟩ := Hcr.out k hlt
      have Hrk : Hid (rightD (dnth [d] k) = true) := by
        obtain rfl : k = 0 := by omega
        exact Hr.out
      generalize dnth [d] k = dd at *
      obtain ⟨dk, di, dst⟩ := dd
      dsimp only at hc0 hc1 hc2
      go_wp2_with fail
      refine (right_any _ _ _ _ (HTr.out.below ((Below.refl _ _).alloc (Nat.le_refl _) _))).mono ?_
      rintro e w2 ⟨rfl, hb2⟩
      have HR := Lib.hid ((Hb.out.alloc (by omega) _).trans (hb2.mono (by simp; omega)))
      clear hb2
      rw [Hrk.out]
      go_wp2_with fail
      go_roundw
      case rel => exact ⟨k + 1, by omega, by go_num, HR.out⟩
      case measure => simp [intOf]; omega
    · clear Hc HT
      go_wp2_with fail
      refine (of_any [d] b o cap [2, 3] _ _ _ (by simp) (by simp; omega) (Hcr.out.below ((Below.refl _ _).alloc (Nat.le_refl _) _) (by omega)) (by simp) (by simp) (kinds_new _ _ _ rfl)).mono ?_
      rintro e w2 ⟨rfl, hb2⟩
      have HR := Lib.hid ((Hb.out.alloc (by omega) _).trans (hb2.mono (by simp; omega)))
      have HT2 := Lib.hid ((HTr.out.below ((Below.refl _ _).alloc (Nat.le_refl _) _)).below hb2)
      have Hc2 := Lib.hid ((Hcr.out.below ((Below.refl _ _).alloc (Nat.le_refl _) _) (by omega)).below hb2 (by simp; omega))
      clear hb2 Hb HTr Hcr HB
      obtain ⟨⟨b1, b2, b3⟩, ⟨f1, f2, f3⟩, hB, hzw2⟩ := box_new HR.out
      have HB := Lib.hid hB
      clear hB hzw
      generalize hall : [d].all (isOf [2, 3]) = al
      have Hall := Lib.hid hall
      clear hall
      cases al
      · -- some value is of another kind
        have HE : Hid (numA [d] (negR d) = (Dt.zero, 5)) := by show numA [d] (negR d) = _; rw [numA, if_neg (by rw [Hall.out]; simp)]
        go_wp2_with fail
        refine bodyPost_ret (v := .tuple #[Dt.zero.v, .int .i64 5]) (by simp [results, Tryz.results64, go_sem, b1, b2, b3, Dt.zero]) rfl ⟨by rw [HE.out], ?_⟩
        exact ((HB.out.setCell (Nat.le_refl _) _).setCell (Nat.le_refl _) _).setCell (Nat.le_refl _) _
      · -- all are NULL or of these kinds
        clear b1 b2 b3 f1 f2 f3
        go_wp2_with fail
        refine (anyNull_any [d] b o cap _ (by simp) (by omega) Hc2.out).mono ?_
        rintro e w3 ⟨rfl, hb3⟩
        have HR3 := Lib.hid (HR.out.trans (hb3.mono (by omega)))
        have Hc3 := Lib.hid (Hc2.out.below hb3 (by omega))
        have HT3 := Lib.hid (HT2.out.below hb3)
        clear hb3 HR HB HT2 Hc2
        generalize hnul : [d].any (fun d => d.k == 0) = nul
        have Hnul := Lib.hid hnul
        clear hnul
        cases nul
        · have HE : Hid (numA [d] (negR d) = if (negR d).2 then ((negR d).1, 0) else (Dt.zero, 4)) := by show numA [d] (negR d) = _; rw [numA, if_pos Hall.out, if_neg (by rw [Hnul.out]; simp)]
          have hz4 := (box_new HR3.out).2.2.2
          go_wp2_with fail
          refine (number_neg1 d b o cap _ (by omega) Hc3.out).mono ?_
          rintro e w4 ⟨rfl, hb4⟩
          have HR4 := Lib.hid (HR3.out.trans (hb4.mono (by omega)))
          clear hb4 HR3
          obtain ⟨⟨b1, b2, b3⟩, ⟨f1, f2, f3⟩, hB, hzw4⟩ := box_new HR4.out
          have HB := Lib.hid hB
          clear hB
          generalize hfin : (negR d) = tv at HE
          have HF := Lib.hid hfin
          clear hfin
          obtain ⟨⟨tk, ti, ts⟩, tb⟩ := tv
          cases tb
          · obtain ⟨c1, c2, c3, -, -, -, -⟩ := ((Bx.mk b1 b2 b3 f1 f2 f3 hzw4).store (.int .i64 0) (.int .i64 0) (.string ⟨#[]⟩)).alloc (.cells #[.int .i64 tk, .int .i64 ti, .string ts] 27)
            go_wp2_with fail
            refine bodyPost_ret (v := .tuple #[Dt.zero.v, .int .i64 4]) (by simp [results, Tryz.results64, go_sem, c1, c2, c3, Dt.zero]) rfl ⟨by rw [HF.out, HE.out]; rfl, ?_⟩
            exact (((HB.out.setCell (Nat.le_refl _) _).setCell (Nat.le_refl _) _).setCell (Nat.le_refl _) _).alloc (by simp; omega) _
          · obtain ⟨c1, c2, c3, -, -, -, -⟩ := ((Bx.mk b1 b2 b3 f1 f2 f3 hzw4).store (.int .i64 tk) (.int .i64 ti) (.string ts)).alloc (.cells #[.int .i64 tk, .int .i64 ti, .string ts] 27)
            go_wp2_with fail
            refine bodyPost_ret (v := .tuple #[.agg #[.int .i64 tk, .int .i64 ti, .string ts], .int .i64 0]) (by simp [results, Tryz.results64, go_sem, c1, c2, c3]) rfl ⟨by rw [HF.out, HE.out]; rfl, ?_⟩
            exact (((HB.out.setCell (Nat.le_refl _) _).setCell (Nat.le_refl _) _).setCell (Nat.le_refl _) _).alloc (by simp; omega) _
        · have HE : Hid (numA [d] (negR d) = (Dt.zero, 0)) := by show numA [d] (negR d) = _; rw [numA, if_pos Hall.out, if_pos Hnul.out]
          obtain ⟨⟨b1, b2, b3⟩, ⟨f1, f2, f3⟩, hB, hzw4⟩ := box_new HR3.out
          have HB := Lib.hid hB
          clear hB
          go_wp2_with fail
          refine bodyPost_ret (v := .tuple #[Dt.zero.v, .int .i64 0]) (by simp [results, Tryz.results64, go_sem, b1, b2, b3, Dt.zero]) rfl ⟨by rw [HE.out], ?_⟩
          exact ((HB.out.setCell (Nat.le_refl _) _).setCell (Nat.le_refl _) _).setCell (Nat.le_refl _) _

set_option maxHeartbeats 1000000 in
theorem apply_abs (d : Dt) (b o cap : Nat) (w : World) (hbk : b < w.heap.size) (hc : DCells w b o [d]) (hT : Tabs w) (hr : rightD d = true) (x0 : -9223372036854775808 ≤ d.i) (x1 : d.i < 9223372036854775808) :
    Calls Tryz.prog 64 #[.int .i64 19, .slice (some ⟨b, o, none⟩) 1 cap] w fun e w' => e = .returned (.tuple #[(numA [d] (absR d)).1.v, .int .i64 (numA [d] (absR d)).2]) ∧ Below w.heap.size w w' := by
  have hm : manyF 19 = 1 := by decide
  have HX := Lib.hid (show -9223372036854775808 ≤ d.i ∧ d.i < 9223372036854775808 from ⟨x0, x1⟩)
  clear x0 x1
  have Hc := Lib.hid hc
  have HT := Lib.hid hT
  have Hr := Lib.hid hr
  clear hc hT hr
  go_enter Tryz.func64, Tryz.ntmps64
  go_wp2_with (go_at_call 79; refine (many_any _ _).mono ?_; rintro e w' ⟨rfl, rfl⟩)
  go_loopw [7, 23] (fun _ i wr => ∃ k : Nat, k ≤ 1 ∧ i = .int .i64 k ∧ Below (w.heap.size + 1) (w.alloc (.cells #[.int .i64 0, .int .i64 0, .string ⟨#[]⟩] 27)) wr) (fun _ i _ => 1 - (intOf i).toNat)
  case atStart => exact ⟨0, Nat.zero_le _, rfl, Below.refl _ _⟩
  case round =>
    obtain ⟨k, hk, rfl, hbl⟩ := hrel
    have hzw : w.heap.size < wr.heap.size := (box_new hbl).2.2.2
    have HB := Lib.hid (box_new hbl).2.2.1
    have HTr := Lib.hid (round_hyp HT.out Hc.out hbk hbl).1
    have Hcr := Lib.hid (round_hyp HT.out Hc.out hbk hbl).2.1
    have Hb := Lib.hid hbl
    clear hbl
    by_cases hlt : k < 1
    · have hzero : (0 : Int) ≤ k := by omega
      obtain ⟨hc0, hc1, hc2⟩ := Hcr.out k hlt
      have Hrk : Hid (rightD (dnth [d] k) = true) := by
        obtain rfl : k = 0 := by omega
        exact Hr.out
      generalize dnth [d] k = dd at *
      obtain ⟨dk, di, dst⟩ := dd
      dsimp only at hc0 hc1 hc2
      go_wp2_with fail
      refine (right_any _ _ _ _ (HTr.out.below ((Below.refl _ _).alloc (Nat.le_refl _) _))).mono ?_
      rintro e w2 ⟨rfl, hb2⟩
      have HR := Lib.hid ((Hb.out.alloc (by omega) _).trans (hb2.mono (by simp; omega)))
      clear hb2
      rw [Hrk.out]
      go_wp2_with fail
      go_roundw
      case rel => exact ⟨k + 1, by omega, by go_num, HR.out⟩
      case measure => simp [intOf]; omega
    · clear Hc HT
      go_wp2_with fail
      refine (of_any [d] b o cap [2, 3] _ _ _ (by simp) (by simp; omega) (Hcr.out.below ((Below.refl _ _).alloc (Nat.le_refl _) _) (by omega)) (by simp) (by simp) (kinds_new _ _ _ rfl)).mono ?_
      rintro e w2 ⟨rfl, hb2⟩
      have HR := Lib.hid ((Hb.out.alloc (by omega) _).trans (hb2.mono (by simp; omega)))
      have HT2 := Lib.hid ((HTr.out.below ((Below.refl _ _).alloc (Nat.le_refl _) _)).below hb2)
      have Hc2 := Lib.hid ((Hcr.out.below ((Below.refl _ _).alloc (Nat.le_refl _) _) (by omega)).below hb2 (by simp; omega))
      clear hb2 Hb HTr Hcr HB
      obtain ⟨⟨b1, b2, b3⟩, ⟨f1, f2, f3⟩, hB, hzw2⟩ := box_new HR.out
      have HB := Lib.hid hB
      clear hB hzw
      generalize hall : [d].all (isOf [2, 3]) = al
      have Hall := Lib.hid hall
      clear hall
      cases al
      · -- some value is of another kind
        have HE : Hid (numA [d] (absR d) = (Dt.zero, 5)) := by show numA [d] (absR d) = _; rw [numA, if_neg (by rw [Hall.out]; simp)]
        go_wp2_with fail
        refine bodyPost_ret (v := .tuple #[Dt.zero.v, .int .i64 5]) (by simp [results, Tryz.results64, go_sem, b1, b2, b3, Dt.zero]) rfl ⟨by rw [HE.out], ?_⟩
        exact ((HB.out.setCell (Nat.le_refl _) _).setCell (Nat.le_refl _) _).setCell (Nat.le_refl _) _
      · -- all are NULL or of these kinds
        clear b1 b2 b3 f1 f2 f3
        go_wp2_with fail
        refine (anyNull_any [d] b o cap _ (by simp) (by omega) Hc2.out).mono ?_
        rintro e w3 ⟨rfl, hb3⟩
        have HR3 := Lib.hid (HR.out.trans (hb3.mono (by omega)))
        have Hc3 := Lib.hid (Hc2.out.below hb3 (by omega))
        have HT3 := Lib.hid (HT2.out.below hb3)
        clear hb3 HR HB HT2 Hc2
        generalize hnul : [d].any (fun d => d.k == 0) = nul
        have Hnul := Lib.hid hnul
        clear hnul
        cases nul
        · have HE : Hid (numA [d] (absR d) = if (absR d).2 then ((absR d).1, 0) else (Dt.zero, 4)) := by show numA [d] (absR d) = _; rw [numA, if_pos Hall.out, if_neg (by rw [Hnul.out]; simp)]
          have hz4 := (box_new HR3.out).2.2.2
          go_wp2_with fail
          refine (number_abs d b o cap _ (by omega) Hc3.out).mono ?_
          rintro e w4 ⟨rfl, hb4⟩
          have HR4 := Lib.hid (HR3.out.trans (hb4.mono (by omega)))
          clear hb4 HR3
          obtain ⟨⟨b1, b2, b3⟩, ⟨f1, f2, f3⟩, hB, hzw4⟩ := box_new HR4.out
          have HB := Lib.hid hB
          clear hB
          generalize hfin : (absR d) = tv at HE
          have HF := Lib.hid hfin
          clear hfin
          obtain ⟨⟨tk, ti, ts⟩, tb⟩ := tv
          cases tb
          · obtain ⟨c1, c2, c3, -, -, -, -⟩ := ((Bx.mk b1 b2 b3 f1 f2 f3 hzw4).store (.int .i64 0) (.int .i64 0) (.string ⟨#[]⟩)).alloc (.cells #[.int .i64 tk, .int .i64 ti, .string ts] 27)
            go_wp2_with fail
            refine bodyPost_ret (v := .tuple #[Dt.zero.v, .int .i64 4]) (by simp [results, Tryz.results64, go_sem, c1, c2, c3, Dt.zero]) rfl ⟨by rw [HF.out, HE.out]; rfl, ?_⟩
            exact (((HB.out.setCell (Nat.le_refl _) _).setCell (Nat.le_refl _) _).setCell (Nat.le_refl _) _).alloc (by simp; omega) _
          · obtain ⟨c1, c2, c3, -, -, -, -⟩ := ((Bx.mk b1 b2 b3 f1 f2 f3 hzw4).store (.int .i64 tk) (.int .i64 ti) (.string ts)).alloc (.cells #[.int .i64 tk, .int .i64 ti, .string ts] 27)
            go_wp2_with fail
            refine bodyPost_ret (v := .tuple #[.agg #[.int .i64 tk, .int .i64 ti, .string ts], .int .i64 0]) (by simp [results, Tryz.results64, go_sem, c1, c2, c3]) rfl ⟨by rw [HF.out, HE.out]; rfl, ?_⟩
            exact (((HB.out.setCell (Nat.le_refl _) _).setCell (Nat.le_refl _) _).setCell (Nat.le_refl _) _).alloc (by simp; omega) _
        · have HE : Hid (numA [d] (absR d) = (Dt.zero, 0)) := by show numA [d] (absR d) = _; rw [numA, if_pos Hall.out, if_pos Hnul.out]
          obtain ⟨⟨b1, b2, b3⟩, ⟨f1, f2, f3⟩, hB, hzw4⟩ := box_new HR3.out
          have HB := Lib.hid hB
          clear hB
          go_wp2_with fail
          refine bodyPost_ret (v := .tuple #[Dt.zero.v, .int .i64 0]) (by simp [results, Tryz.results64, go_sem, b1, b2, b3, Dt.zero]) rfl ⟨by rw [HE.out], ?_⟩
          exact ((HB.out.setCell (Nat.le_refl _) _).setCell (Nat.le_refl _) _).setCell (Nat.le_refl _) _
end Go.Proofs.YtokbdleokihdaaaGreatDoor
namespace Go.Proofs.YtokbdleokihdaaaGreatDoor
open Go.RowKit


set_option maxHeartbeats 1000000 in
theorem apply_add (d d' : Dt) (b o cap : Nat) (w : World) (hbk : b < w.heap.size) (hc : DCells w b o [d, d']) (hT : Tabs w) (hr : rightD d = true) (hr' : rightD d' = true) (x0 : -9223372036854775808 ≤ d.i) (x1 : d.i < 9223372036854775808) (y0 : -9223372036854775808 ≤ d'.i) (y1 : d'.i < 9223372036854775808) :
    Calls Tryz.prog 64 #[.int .i64 3, .slice (some ⟨b, o, none⟩) 2 cap] w fun e w' => e = .returned (.tuple #[(numA [d, d'] (numR 3 d d')).1.v, .int .i64 (numA [d, d'] (numR 3 d d')).2]) ∧ Below w.heap.size w w' := by
  have hm : manyF 3 = 2 := by decide
  have HX := Lib.hid (show -9223372036854775808 ≤ d.i ∧ d.i < 9223372036854775808 ∧ -9223372036854775808 ≤ d'.i ∧ d'.i < 9223372036854775808 from ⟨x0, x1, y0, y1⟩)
  clear x0 x1 y0 y1
  have Hc := Lib.hid hc
  have HT := Lib.hid hT
  have Hr := Lib.hid hr
  have Hr' := Lib.hid hr'
  clear hc hT hr hr'
  go_enter Tryz.func64, Tryz.ntmps64
  go_wp2_with (go_at_call 79; refine (many_any _ _).mono ?_; rintro e w' ⟨rfl, rfl⟩)
  go_loopw [7, 23] (fun _ i wr => ∃ k : Nat, k ≤ 2 ∧ i = .int .i64 k ∧ Below (w.heap.size + 1) (w.alloc (.cells #[.int .i64 0, .int .i64 0, .string ⟨#[]⟩] 27)) wr) (fun _ i _ => 2 - (intOf i).toNat)
  case atStart => exact ⟨0, Nat.zero_le _, rfl, Below.refl _ _⟩
  case round =>
    obtain ⟨k, hk, rfl, hbl⟩ := hrel
    have hzw : w.heap.size < wr.heap.size := (box_new hbl).2.2.2
    have HB := Lib.hid (box_new hbl).2.2.1
    have HTr := Lib.hid (round_hyp HT.out Hc.out hbk hbl).1
    have Hcr := Lib.hid (round_hyp HT.out Hc.out hbk hbl).2.1
    have Hb := Lib.hid hbl
    clear hbl
    by_cases hlt : k < 2
    · have hzero : (0 : Int) ≤ k := by omega
      obtain ⟨hc0, hc1, hc2⟩ := Hcr.out k hlt
      have Hrk : Hid (rightD (dnth [d, d'] k) = true) := by
        rcases (by omega : k = 0 ∨ k = 1) with rfl | rfl
        · exact Hr.out
        · exact Hr'.out
      generalize dnth [d, d'] k = dd at *
      obtain ⟨dk, di, dst⟩ := dd
      dsimp only at hc0 hc1 hc2
      go_wp2_with fail
      refine (right_any _ _ _ _ (HTr.out.below ((Below.refl _ _).alloc (Nat.le_refl _) _))).mono ?_
      rintro e w2 ⟨rfl, hb2⟩
      have HR := Lib.hid ((Hb.out.alloc (by omega) _).trans (hb2.mono (by simp; omega)))
      clear hb2
      rw [Hrk.out]
      go_wp2_with fail
      go_roundw
      case rel => exact ⟨k + 1, by omega, by go_num, HR.out⟩
      case measure => simp [intOf]; omega
    · clear Hc HT
      go_wp2_with fail
      refine (of_any [d, d'] b o cap [2, 3] _ _ _ (by simp) (by simp; omega) (Hcr.out.below ((Below.refl _ _).alloc (Nat.le_refl _) _) (by omega)) (by simp) (by simp) (kinds_new _ _ _ rfl)).mono ?_
      rintro e w2 ⟨rfl, hb2⟩
      have HR := Lib.hid ((Hb.out.alloc (by omega) _).trans (hb2.mono (by simp; omega)))
      have HT2 := Lib.hid ((HTr.out.below ((Below.refl _ _).alloc (Nat.le_refl _) _)).below hb2)
      have Hc2 := Lib.hid ((Hcr.out.below ((Below.refl _ _).alloc (Nat.le_refl _) _) (by omega)).below hb2 (by simp; omega))
      clear hb2 Hb HTr Hcr HB
      obtain ⟨⟨b1, b2, b3⟩, ⟨f1, f2, f3⟩, hB, hzw2⟩ := box_new HR.out
      have HB := Lib.hid hB
      clear hB hzw
      generalize hall : [d, d'].all (isOf [2, 3]) = al
      have Hall := Lib.hid hall
      clear hall
      cases al
      · -- some value is of another kind
        have HE : Hid (numA [d, d'] (numR 3 d d') = (Dt.zero, 5)) := by show numA [d, d'] (numR 3 d d') = _; rw [numA, if_neg (by rw [Hall.out]; simp)]
        go_wp2_with fail
        refine bodyPost_ret (v := .tuple #[Dt.zero.v, .int .i64 5]) (by simp [results, Tryz.results64, go_sem, b1, b2, b3, Dt.zero]) rfl ⟨by rw [HE.out], ?_⟩
        exact ((HB.out.setCell (Nat.le_refl _) _).setCell (Nat.le_refl _) _).setCell (Nat.le_refl _) _
      · -- all are NULL or of these kinds
        clear b1 b2 b3 f1 f2 f3
        go_wp2_with fail
        refine (anyNull_any [d, d'] b o cap _ (by simp) (by omega) Hc2.out).mono ?_
        rintro e w3 ⟨rfl, hb3⟩
        have HR3 := Lib.hid (HR.out.trans (hb3.mono (by omega)))
        have Hc3 := Lib.hid (Hc2.out.below hb3 (by omega))
        have HT3 := Lib.hid (HT2.out.below hb3)
        clear hb3 HR HB HT2 Hc2
        generalize hnul : [d, d'].any (fun d => d.k == 0) = nul
        have Hnul := Lib.hid hnul
        clear hnul
        cases nul
        · have HE : Hid (numA [d, d'] (numR 3 d d') = if (numR 3 d d').2 then ((numR 3 d d').1, 0) else (Dt.zero, 4)) := by show numA [d, d'] (numR 3 d d') = _; rw [numA, if_pos Hall.out, if_neg (by rw [Hnul.out]; simp)]
          have hz4 := (box_new HR3.out).2.2.2
          go_wp2_with fail
          refine (number_two 3 (by omega) d d' b o cap _ (by omega) Hc3.out HX.out.1 HX.out.2.1 HX.out.2.2.1 HX.out.2.2.2).mono ?_
          rintro e w4 ⟨rfl, hb4⟩
          have HR4 := Lib.hid (HR3.out.trans (hb4.mono (by omega)))
          clear hb4 HR3
          obtain ⟨⟨b1, b2, b3⟩, ⟨f1, f2, f3⟩, hB, hzw4⟩ := box_new HR4.out
          have HB := Lib.hid hB
          clear hB
          generalize hfin : (numR 3 d d') = tv at HE
          have HF := Lib.hid hfin
          clear hfin
          obtain ⟨⟨tk, ti, ts⟩, tb⟩ := tv
          cases tb
          · obtain ⟨c1, c2, c3, -, -, -, -⟩ := ((Bx.mk b1 b2 b3 f1 f2 f3 hzw4).store (.int .i64 0) (.int .i64 0) (.string ⟨#[]⟩)).alloc (.cells #[.int .i64 tk, .int .i64 ti, .string ts] 27)
            go_wp2_with fail
            refine bodyPost_ret (v := .tuple #[Dt.zero.v, .int .i64 4]) (by simp [results, Tryz.results64, go_sem, c1, c2, c3, Dt.zero]) rfl ⟨by rw [HF.out, HE.out]; rfl, ?_⟩
            exact (((HB.out.setCell (Nat.le_refl _) _).setCell (Nat.le_refl _) _).setCell (Nat.le_refl _) _).alloc (by simp; omega) _
          · obtain ⟨c1, c2, c3, -, -, -, -⟩ := ((Bx.mk b1 b2 b3 f1 f2 f3 hzw4).store (.int .i64 tk) (.int .i64 ti) (.string ts)).alloc (.cells #[.int .i64 tk, .int .i64 ti, .string ts] 27)
            go_wp2_with fail
            refine bodyPost_ret (v := .tuple #[.agg #[.int .i64 tk, .int .i64 ti, .string ts], .int .i64 0]) (by simp [results, Tryz.results64, go_sem, c1, c2, c3]) rfl ⟨by rw [HF.out, HE.out]; rfl, ?_⟩
            exact (((HB.out.setCell (Nat.le_refl _) _).setCell (Nat.le_refl _) _).setCell (Nat.le_refl _) _).alloc (by simp; omega) _
        · have HE : Hid (numA [d, d'] (numR 3 d d') = (Dt.zero, 0)) := by show numA [d, d'] (numR 3 d d') = _; rw [numA, if_pos Hall.out, if_pos Hnul.out]
          obtain ⟨⟨b1, b2, b3⟩, ⟨f1, f2, f3⟩, hB, hzw4⟩ := box_new HR3.out
          have HB := Lib.hid hB
          clear hB
          go_wp2_with fail
          refine bodyPost_ret (v := .tuple #[Dt.zero.v, .int .i64 0]) (by simp [results, Tryz.results64, go_sem, b1, b2, b3, Dt.zero]) rfl ⟨by rw [HE.out], ?_⟩
          exact ((HB.out.setCell (Nat.le_refl _) _).setCell (Nat.le_refl _) _).setCell (Nat.le_refl _) _
end Go.Proofs.YtokbdleokihdaaaGreatDoor
namespace Go.Proofs.YtokbdleokihdaaaGreatDoor
open Go.RowKit


set_option maxHeartbeats 1000000 in
theorem apply_sub (d d' : Dt) (b o cap : Nat) (w : World) (hbk : b < w.heap.size) (hc : DCells w b o [d, d']) (hT : Tabs w) (hr : rightD d = true) (hr' : rightD d' = true) (x0 : -9223372036854775808 ≤ d.i) (x1 : d.i < 9223372036854775808) (y0 : -9223372036854775808 ≤ d'.i) (y1 : d'.i < 9223372036854775808) :
    Calls Tryz.prog 64 #[.int .i64 4, .slice (some ⟨b, o, none⟩) 2 cap] w fun e w' => e = .returned (.tuple #[(numA [d, d'] (numR 4 d d')).1.v, .int .i64 (numA [d, d'] (numR 4 d d')).2]) ∧ Below w.heap.size w w' := by
  have hm : manyF 4 = 2 := by decide
  have HX := Lib.hid (show -9223372036854775808 ≤ d.i ∧ d.i < 9223372036854775808 ∧ -9223372036854775808 ≤ d'.i ∧ d'.i < 9223372036854775808 from ⟨x0, x1, y0, y1⟩)
  clear x0 x1 y0 y1
  have Hc := Lib.hid hc
  have HT := Lib.hid hT
  have Hr := Lib.hid hr
  have Hr' := Lib.hid hr'
  clear hc hT hr hr'
  go_enter Tryz.func64, Tryz.ntmps64
  go_wp2_with (go_at_call 79; refine (many_any _ _).mono ?_; rintro e w' ⟨rfl, rfl⟩)
  go_loopw [7, 23] (fun _ i wr => ∃ k : Nat, k ≤ 2 ∧ i = .int .i64 k ∧ Below (w.heap.size + 1) (w.alloc (.cells #[.int .i64 0, .int .i64 0, .string ⟨#[]⟩] 27)) wr) (fun _ i _ => 2 - (intOf i).toNat)
  case atStart => exact ⟨0, Nat.zero_le _, rfl, Below.refl _ _⟩
  case round =>
    obtain ⟨k, hk, rfl, hbl⟩ := hrel
    have hzw : w.heap.size < wr.heap.size := (box_new hbl).2.2.2
    have HB := Lib.hid (box_new hbl).2.2.1
    have HTr := Lib.hid (round_hyp HT.out Hc.out hbk hbl).1
    have Hcr := Lib.hid (round_hyp HT.out Hc.out hbk hbl).2.1
    have Hb := Lib.hid hbl
    clear hbl
    by_cases hlt : k < 2
    · have hzero : (0 : Int) ≤ k := by omega
      obtain ⟨hc0, hc1, hc2⟩ := Hcr.out k hlt
      have Hrk : Hid (rightD (dnth [d, d'] k) = true) := by
        rcases (by omega : k = 0 ∨ k = 1) with rfl | rfl
        · exact Hr.out
        · exact Hr'.out
      generalize dnth [d, d'] k = dd at *
      obtain ⟨dk, di, dst⟩ := dd
      dsimp only at hc0 hc1 hc2
      go_wp2_with fail
      refine (right_any _ _ _ _ (HTr.out.below ((Below.refl _ _).alloc (Nat.le_refl _) _))).mono ?_
      rintro e w2 ⟨rfl, hb2⟩
      have HR := Lib.hid ((Hb.out.alloc (by omega) _).trans (hb2.mono (by simp; omega)))
      clear hb2
      rw [Hrk.out]
      go_wp2_with fail
      go_roundw
      case rel => exact ⟨k + 1, by omega, by go_num, HR.out⟩
      case measure => simp [intOf]; omega
    · clear Hc HT
      go_wp2_with fail
      refine (of_any [d, d'] b o cap [2, 3] _ _ _ (by simp) (by simp; omega) (Hcr.out.below ((Below.refl _ _).alloc (Nat.le_refl _) _) (by omega)) (by simp) (by simp) (kinds_new _ _ _ rfl)).mono ?_
      rintro e w2 ⟨rfl, hb2⟩
      have HR := Lib.hid ((Hb.out.alloc (by omega) _).trans (hb2.mono (by simp; omega)))
      have HT2 := Lib.hid ((HTr.out.below ((Below.refl _ _).alloc (Nat.le_refl _) _)).below hb2)
      have Hc2 := Lib.hid ((Hcr.out.below ((Below.refl _ _).alloc (Nat.le_refl _) _) (by omega)).below hb2 (by simp; omega))
      clear hb2 Hb HTr Hcr HB
      obtain ⟨⟨b1, b2, b3⟩, ⟨f1, f2, f3⟩, hB, hzw2⟩ := box_new HR.out
      have HB := Lib.hid hB
      clear hB hzw
      generalize hall : [d, d'].all (isOf [2, 3]) = al
      have Hall := Lib.hid hall
      clear hall
      cases al
      · -- some value is of another kind
        have HE : Hid (numA [d, d'] (numR 4 d d') = (Dt.zero, 5)) := by show numA [d, d'] (numR 4 d d') = _; rw [numA, if_neg (by rw [Hall.out]; simp)]
        go_wp2_with fail
        refine bodyPost_ret (v := .tuple #[Dt.zero.v, .int .i64 5]) (by simp [results, Tryz.results64, go_sem, b1, b2, b3, Dt.zero]) rfl ⟨by rw [HE.out], ?_⟩
        exact ((HB.out.setCell (Nat.le_refl _) _).setCell (Nat.le_refl _) _).setCell (Nat.le_refl _) _
      · -- all are NULL or of these kinds
        clear b1 b2 b3 f1 f2 f3
        go_wp2_with fail
        refine (anyNull_any [d, d'] b o cap _ (by simp) (by omega) Hc2.out).mono ?_
        rintro e w3 ⟨rfl, hb3⟩
        have HR3 := Lib.hid (HR.out.trans (hb3.mono (by omega)))
        have Hc3 := Lib.hid (Hc2.out.below hb3 (by omega))
        have HT3 := Lib.hid (HT2.out.below hb3)
        clear hb3 HR HB HT2 Hc2
        generalize hnul : [d, d'].any (fun d => d.k == 0) = nul
        have Hnul := Lib.hid hnul
        clear hnul
        cases nul
        · have HE : Hid (numA [d, d'] (numR 4 d d') = if (numR 4 d d').2 then ((numR 4 d d').1, 0) else (Dt.zero, 4)) := by show numA [d, d'] (numR 4 d d') = _; rw [numA, if_pos Hall.out, if_neg (by rw [Hnul.out]; simp)]
          have hz4 := (box_new HR3.out).2.2.2
          go_wp2_with fail
          refine (number_two 4 (by omega) d d' b o cap _ (by omega) Hc3.out HX.out.1 HX.out.2.1 HX.out.2.2.1 HX.out.2.2.2).mono ?_
          rintro e w4 ⟨rfl, hb4⟩
          have HR4 := Lib.hid (HR3.out.trans (hb4.mono (by omega)))
          clear hb4 HR3
          obtain ⟨⟨b1, b2, b3⟩, ⟨f1, f2, f3⟩, hB, hzw4⟩ := box_new HR4.out
          have HB := Lib.hid hB
          clear hB
          generalize hfin : (numR 4 d d') = tv at HE
          have HF := Lib.hid hfin
          clear hfin
          obtain ⟨⟨tk, ti, ts⟩, tb⟩ := tv
          cases tb
          · obtain ⟨c1, c2, c3, -, -, -, -⟩ := ((Bx.mk b1 b2 b3 f1 f2 f3 hzw4).store (.int .i64 0) (.int .i64 0) (.string ⟨#[]⟩)).alloc (.cells #[.int .i64 tk, .int .i64 ti, .string ts] 27)
            go_wp2_with fail
            refine bodyPost_ret (v := .tuple #[Dt.zero.v, .int .i64 4]) (by simp [results, Tryz.results64, go_sem, c1, c2, c3, Dt.zero]) rfl ⟨by rw [HF.out, HE.out]; rfl, ?_⟩
            exact (((HB.out.setCell (Nat.le_refl _) _).setCell (Nat.le_refl _) _).setCell (Nat.le_refl _) _).alloc (by simp; omega) _
          · obtain ⟨c1, c2, c3, -, -, -, -⟩ := ((Bx.mk b1 b2 b3 f1 f2 f3 hzw4).store (.int .i64 tk) (.int .i64 ti) (.string ts)).alloc (.cells #[.int .i64 tk, .int .i64 ti, .string ts] 27)
            go_wp2_with fail
            refine bodyPost_ret (v := .tuple #[.agg #[.int .i64 tk, .int .i64 ti, .string ts], .int .i64 0]) (by simp [results, Tryz.results64, go_sem, c1, c2, c3]) rfl ⟨by rw [HF.out, HE.out]; rfl, ?_⟩
            exact (((HB.out.setCell (Nat.le_refl _) _).setCell (Nat.le_refl _) _).setCell (Nat.le_refl _) _).alloc (by simp; omega) _
        · have HE : Hid (numA [d, d'] (numR 4 d d') = (Dt.zero, 0)) := by show numA [d, d'] (numR 4 d d') = _; rw [numA, if_pos Hall.out, if_pos Hnul.out]
          obtain ⟨⟨b1, b2, b3⟩, ⟨f1, f2, f3⟩, hB, hzw4⟩ := box_new HR3.out
          have HB := Lib.hid hB
          clear hB
          go_wp2_with fail
          refine bodyPost_ret (v := .tuple #[Dt.zero.v, .int .i64 0]) (by simp [results, Tryz.results64, go_sem, b1, b2, b3, Dt.zero]) rfl ⟨by rw [HE.out], ?_⟩
          exact ((HB.out.setCell (Nat.le_refl _) _).setCell (Nat.le_refl _) _).setCell (Nat.le_refl _) _
end Go.Proofs.YtokbdleokihdaaaGreatDoor
namespace Go.Proofs.YtokbdleokihdaaaGreatDoor
open Go.RowKit


set_option maxHeartbeats 1000000 in
theorem apply_mul (d d' : Dt) (b o cap : Nat) (w : World) (hbk : b < w.heap.size) (hc : DCells w b o [d, d']) (hT : Tabs w) (hr : rightD d = true) (hr' : rightD d' = true) (x0 : -9223372036854775808 ≤ d.i) (x1 : d.i < 9223372036854775808) (y0 : -9223372036854775808 ≤ d'.i) (y1 : d'.i < 9223372036854775808) :
    Calls Tryz.prog 64 #[.int .i64 5, .slice (some ⟨b, o, none⟩) 2 cap] w fun e w' => e = .returned (.tuple #[(numA [d, d'] (numR 5 d d')).1.v, .int .i64 (numA [d, d'] (numR 5 d d')).2]) ∧ Below w.heap.size w w' := by
  have hm : manyF 5 = 2 := by decide
  have HX := Lib.hid (show -9223372036854775808 ≤ d.i ∧ d.i < 9223372036854775808 ∧ -9223372036854775808 ≤ d'.i ∧ d'.i < 9223372036854775808 from ⟨x0, x1, y0, y1⟩)
  clear x0 x1 y0 y1
  have Hc := Lib.hid hc
  have HT := Lib.hid hT
  have Hr := Lib.hid hr
  have Hr' := Lib.hid hr'
  clear hc hT hr hr'
  go_enter Tryz.func64, Tryz.ntmps64
  go_wp2_with (go_at_call 79; refine (many_any _ _).mono ?_; rintro e w' ⟨rfl, rfl⟩)
  go_loopw [7, 23] (fun _ i wr => ∃ k : Nat, k ≤ 2 ∧ i = .int .i64 k ∧ Below (w.heap.size + 1) (w.alloc (.cells #[.int .i64 0, .int .i64 0, .string ⟨#[]⟩] 27)) wr) (fun _ i _ => 2 - (intOf i).toNat)
  case atStart => exact ⟨0, Nat.zero_le _, rfl, Below.refl _ _⟩
  case round =>
    obtain ⟨k, hk, rfl, hbl⟩ := hrel
    have hzw : w.heap.size < wr.heap.size := (box_new hbl).2.2.2
    have HB := Lib.hid (box_new hbl).2.2.1
    have HTr := Lib.hid (round_hyp HT.out Hc.out hbk hbl).1
    have Hcr := Lib.hid (round_hyp HT.out Hc.out hbk hbl).2.1
    have Hb := Lib.hid hbl
    clear hbl
    by_cases hlt : k < 2
    · have hzero : (0 : Int) ≤ k := by omega
      obtain ⟨hc0, hc1, hc2⟩ := Hcr.out k hlt
      have Hrk : Hid (rightD (dnth [d, d'] k) = true) := by
        rcases (by omega : k = 0 ∨ k = 1) with rfl | rfl
        · exact Hr.out
        · exact Hr'.out
      generalize dnth [d, d'] k = dd at *
      obtain ⟨dk, di, dst⟩ := dd
      dsimp only at hc0 hc1 hc2
      go_wp2_with fail
      refine (right_any _ _ _ _ (HTr.out.below ((Below.refl _ _).alloc (Nat.le_refl _) _))).mono ?_
      rintro e w2 ⟨rfl, hb2⟩
      have HR := Lib.hid ((Hb.out.alloc (by omega) _).trans (hb2.mono (by simp; omega)))
      clear hb2
      rw [Hrk.out]
      go_wp2_with fail
      go_roundw
      case rel => exact ⟨k + 1, by omega, by go_num, HR.out⟩
      case measure => simp [intOf]; omega
    · clear Hc HT
      go_wp2_with fail
      refine (of_any [d, d'] b o cap [2, 3] _ _ _ (by simp) (by simp; omega) (Hcr.out.below ((Below.refl _ _).alloc (Nat.le_refl _) _) (by omega)) (by simp) (by simp) (kinds_new _ _ _ rfl)).mono ?_
      rintro e w2 ⟨rfl, hb2⟩
      have HR := Lib.hid ((Hb.out.alloc (by omega) _).trans (hb2.mono (by simp; omega)))
      have HT2 := Lib.hid ((HTr.out.below ((Below.refl _ _).alloc (Nat.le_refl _) _)).below hb2)
      have Hc2 := Lib.hid ((Hcr.out.below ((Below.refl _ _).alloc (Nat.le_refl _) _) (by omega)).below hb2 (by simp; omega))
      clear hb2 Hb HTr Hcr HB
      obtain ⟨⟨b1, b2, b3⟩, ⟨f1, f2, f3⟩, hB, hzw2⟩ := box_new HR.out
      have HB := Lib.hid hB
      clear hB hzw
      generalize hall : [d, d'].all (isOf [2, 3]) = al
      have Hall := Lib.hid hall
      clear hall
      cases al
      · -- some value is of another kind
        have HE : Hid (numA [d, d'] (numR 5 d d') = (Dt.zero, 5)) := by show numA [d, d'] (numR 5 d d') = _; rw [numA, if_neg (by rw [Hall.out]; simp)]
        go_wp2_with fail
        refine bodyPost_ret (v := .tuple #[Dt.zero.v, .int .i64 5]) (by simp [results, Tryz.results64, go_sem, b1, b2, b3, Dt.zero]) rfl ⟨by rw [HE.out], ?_⟩
        exact ((HB.out.setCell (Nat.le_refl _) _).setCell (Nat.le_refl _) _).setCell (Nat.le_refl _) _
      · -- all are NULL or of these kinds
        clear b1 b2 b3 f1 f2 f3
        go_wp2_with fail
        refine (anyNull_any [d, d'] b o cap _ (by simp) (by omega) Hc2.out).mono ?_
        rintro e w3 ⟨rfl, hb3⟩
        have HR3 := Lib.hid (HR.out.trans (hb3.mono (by omega)))
        have Hc3 := Lib.hid (Hc2.out.below hb3 (by omega))
        have HT3 := Lib.hid (HT2.out.below hb3)
        clear hb3 HR HB HT2 Hc2
        generalize hnul : [d, d'].any (fun d => d.k == 0) = nul
        have Hnul := Lib.hid hnul
        clear hnul
        cases nul
        · have HE : Hid (numA [d, d'] (numR 5 d d') = if (numR 5 d d').2 then ((numR 5 d d').1, 0) else (Dt.zero, 4)) := by show numA [d, d'] (numR 5 d d') = _; rw [numA, if_pos Hall.out, if_neg (by rw [Hnul.out]; simp)]
          have hz4 := (box_new HR3.out).2.2.2
          go_wp2_with fail
          refine (number_two 5 (by omega) d d' b o cap _ (by omega) Hc3.out HX.out.1 HX.out.2.1 HX.out.2.2.1 HX.out.2.2.2).mono ?_
          rintro e w4 ⟨rfl, hb4⟩
          have HR4 := Lib.hid (HR3.out.trans (hb4.mono (by omega)))
          clear hb4 HR3
          obtain ⟨⟨b1, b2, b3⟩, ⟨f1, f2, f3⟩, hB, hzw4⟩ := box_new HR4.out
          have HB := Lib.hid hB
          clear hB
          generalize hfin : (numR 5 d d') = tv at HE
          have HF := Lib.hid hfin
          clear hfin
          obtain ⟨⟨tk, ti, ts⟩, tb⟩ := tv
          cases tb
          · obtain ⟨c1, c2, c3, -, -, -, -⟩ := ((Bx.mk b1 b2 b3 f1 f2 f3 hzw4).store (.int .i64 0) (.int .i64 0) (.string ⟨#[]⟩)).alloc (.cells #[.int .i64 tk, .int .i64 ti, .string ts] 27)
            go_wp2_with fail
            refine bodyPost_ret (v := .tuple #[Dt.zero.v, .int .i64 4]) (by simp [results, Tryz.results64, go_sem, c1, c2, c3, Dt.zero]) rfl ⟨by rw [HF.out, HE.out]; rfl, ?_⟩
            exact (((HB.out.setCell (Nat.le_refl _) _).setCell (Nat.le_refl _) _).setCell (Nat.le_refl _) _).alloc (by simp; omega) _
          · obtain ⟨c1, c2, c3, -, -, -, -⟩ := ((Bx.mk b1 b2 b3 f1 f2 f3 hzw4).store (.int .i64 tk) (.int .i64 ti) (.string ts)).alloc (.cells #[.int .i64 tk, .int .i64 ti, .string ts] 27)
            go_wp2_with fail
            refine bodyPost_ret (v := .tuple #[.agg #[.int .i64 tk, .int .i64 ti, .string ts], .int .i64 0]) (by simp [results, Tryz.results64, go_sem, c1, c2, c3]) rfl ⟨by rw [HF.out, HE.out]; rfl, ?_⟩
            exact (((HB.out.setCell (Nat.le_refl _) _).setCell (Nat.le_refl _) _).setCell (Nat.le_refl _) _).alloc (by simp; omega) _
        · have HE : Hid (numA [d, d'] (numR 5 d d') = (Dt.zero, 0)) := by show numA [d, d'] (numR 5 d d') = _; rw [numA, if_pos Hall.out, if_pos Hnul.out]
          obtain ⟨⟨b1, b2, b3⟩, ⟨f1, f2, f3⟩, hB, hzw4⟩ := box_new HR3.out
          have HB := Lib.hid hB
          clear hB
          go_wp2_with fail
          refine bodyPost_ret (v := .tuple #[Dt.zero.v, .int .i64 0]) (by simp [results, Tryz.results64, go_sem, b1, b2, b3, Dt.zero]) rfl ⟨by rw [HE.out], ?_⟩
          exact ((HB.out.setCell (Nat.le_refl _) _).setCell (Nat.le_refl _) _).setCell (Nat.le_refl _) _
end Go.Proofs.YtokbdleokihdaaaGreatDoor
namespace Go.Proofs.YtokbdleokihdaaaGreatDoor
open Go.RowKit


set_option maxHeartbeats 1000000 in
theorem apply_div (d d' : Dt) (b o cap : Nat) (w : World) (hbk : b < w.heap.size) (hc : DCells w b o [d, d']) (hT : Tabs w) (hr : rightD d = true) (hr' : rightD d' = true) (x0 : -9223372036854775808 ≤ d.i) (x1 : d.i < 9223372036854775808) (y0 : -9223372036854775808 ≤ d'.i) (y1 : d'.i < 9223372036854775808) :
    Calls Tryz.prog 64 #[.int .i64 6, .slice (some ⟨b, o, none⟩) 2 cap] w fun e w' => e = .returned (.tuple #[(numA [d, d'] (numR 6 d d')).1.v, .int .i64 (numA [d, d'] (numR 6 d d')).2]) ∧ Below w.heap.size w w' := by
  have hm : manyF 6 = 2 := by decide
  have HX := Lib.hid (show -9223372036854775808 ≤ d.i ∧ d.i < 9223372036854775808 ∧ -9223372036854775808 ≤ d'.i ∧ d'.i < 9223372036854775808 from ⟨x0, x1, y0, y1⟩)
  clear x0 x1 y0 y1
  have Hc := Lib.hid hc
  have HT := Lib.hid hT
  have Hr := Lib.hid hr
  have Hr' := Lib.hid hr'
  clear hc hT hr hr'
  go_enter Tryz.func64, Tryz.ntmps64
  go_wp2_with (go_at_call 79; refine (many_any _ _).mono ?_; rintro e w' ⟨rfl, rfl⟩)
  go_loopw [7, 23] (fun _ i wr => ∃ k : Nat, k ≤ 2 ∧ i = .int .i64 k ∧ Below (w.heap.size + 1) (w.alloc (.cells #[.int .i64 0, .int .i64 0, .string ⟨#[]⟩] 27)) wr) (fun _ i _ => 2 - (intOf i).toNat)
  case atStart => exact ⟨0, Nat.zero_le _, rfl, Below.refl _ _⟩
  case round =>
    obtain ⟨k, hk, rfl, hbl⟩ := hrel
    have hzw : w.heap.size < wr.heap.size := (box_new hbl).2.2.2
    have HB := Lib.hid (box_new hbl).2.2.1
    have HTr := Lib.hid (round_hyp HT.out Hc.out hbk hbl).1
    have Hcr := Lib.hid (round_hyp HT.out Hc.out hbk hbl).2.1
    have Hb := Lib.hid hbl
    clear hbl
    by_cases hlt : k < 2
    · have hzero : (0 : Int) ≤ k := by omega
      obtain ⟨hc0, hc1, hc2⟩ := Hcr.out k hlt
      have Hrk : Hid (rightD (dnth [d, d'] k) = true) := by
        rcases (by omega : k = 0 ∨ k = 1) with rfl | rfl
        · exact Hr.out
        · exact Hr'.out
      generalize dnth [d, d'] k = dd at *
      obtain ⟨dk, di, dst⟩ := dd
      dsimp only at hc0 hc1 hc2
      go_wp2_with fail
      refine (right_any _ _ _ _ (HTr.out.below ((Below.refl _ _).alloc (Nat.le_refl _) _))).mono ?_
      rintro e w2 ⟨rfl, hb2⟩
      have HR := Lib.hid ((Hb.out.alloc (by omega) _).trans (hb2.mono (by simp; omega)))
      clear hb2
      rw [Hrk.out]
      go_wp2_with fail
      go_roundw
      case rel => exact ⟨k + 1, by omega, by go_num, HR.out⟩
      case measure => simp [intOf]; omega
    · clear Hc HT
      go_wp2_with fail
      refine (of_any [d, d'] b o cap [2, 3] _ _ _ (by simp) (by simp; omega) (Hcr.out.below ((Below.refl _ _).alloc (Nat.le_refl _) _) (by omega)) (by simp) (by simp) (kinds_new _ _ _ rfl)).mono ?_
      rintro e w2 ⟨rfl, hb2⟩
      have HR := Lib.hid ((Hb.out.alloc (by omega) _).trans (hb2.mono (by simp; omega)))
      have HT2 := Lib.hid ((HTr.out.below ((Below.refl _ _).alloc (Nat.le_refl _) _)).below hb2)
      have Hc2 := Lib.hid ((Hcr.out.below ((Below.refl _ _).alloc (Nat.le_refl _) _) (by omega)).below hb2 (by simp; omega))
      clear hb2 Hb HTr Hcr HB
      obtain ⟨⟨b1, b2, b3⟩, ⟨f1, f2, f3⟩, hB, hzw2⟩ := box_new HR.out
      have HB := Lib.hid hB
      clear hB hzw
      generalize hall : [d, d'].all (isOf [2, 3]) = al
      have Hall := Lib.hid hall
      clear hall
      cases al
      · -- some value is of another kind
        have HE : Hid (numA [d, d'] (numR 6 d d') = (Dt.zero, 5)) := by show numA [d, d'] (numR 6 d d') = _; rw [numA, if_neg (by rw [Hall.out]; simp)]
        go_wp2_with fail
        refine bodyPost_ret (v := .tuple #[Dt.zero.v, .int .i64 5]) (by simp [results, Tryz.results64, go_sem, b1, b2, b3, Dt.zero]) rfl ⟨by rw [HE.out], ?_⟩
        exact ((HB.out.setCell (Nat.le_refl _) _).setCell (Nat.le_refl _) _).setCell (Nat.le_refl _) _
      · -- all are NULL or of these kinds
        clear b1 b2 b3 f1 f2 f3
        go_wp2_with fail
        refine (anyNull_any [d, d'] b o cap _ (by simp) (by omega) Hc2.out).mono ?_
        rintro e w3 ⟨rfl, hb3⟩
        have HR3 := Lib.hid (HR.out.trans (hb3.mono (by omega)))
        have Hc3 := Lib.hid (Hc2.out.below hb3 (by omega))
        have HT3 := Lib.hid (HT2.out.below hb3)
        clear hb3 HR HB HT2 Hc2
        generalize hnul : [d, d'].any (fun d => d.k == 0) = nul
        have Hnul := Lib.hid hnul
        clear hnul
        cases nul
        · have HE : Hid (numA [d, d'] (numR 6 d d') = if (numR 6 d d').2 then ((numR 6 d d').1, 0) else (Dt.zero, 4)) := by show numA [d, d'] (numR 6 d d') = _; rw [numA, if_pos Hall.out, if_neg (by rw [Hnul.out]; simp)]
          have hz4 := (box_new HR3.out).2.2.2
          go_wp2_with fail
          refine (number_two 6 (by omega) d d' b o cap _ (by omega) Hc3.out HX.out.1 HX.out.2.1 HX.out.2.2.1 HX.out.2.2.2).mono ?_
          rintro e w4 ⟨rfl, hb4⟩
          have HR4 := Lib.hid (HR3.out.trans (hb4.mono (by omega)))
          clear hb4 HR3
          obtain ⟨⟨b1, b2, b3⟩, ⟨f1, f2, f3⟩, hB, hzw4⟩ := box_new HR4.out
          have HB := Lib.hid hB
          clear hB
          generalize hfin : (numR 6 d d') = tv at HE
          have HF := Lib.hid hfin
          clear hfin
          obtain ⟨⟨tk, ti, ts⟩, tb⟩ := tv
          cases tb
          · obtain ⟨c1, c2, c3, -, -, -, -⟩ := ((Bx.mk b1 b2 b3 f1 f2 f3 hzw4).store (.int .i64 0) (.int .i64 0) (.string ⟨#[]⟩)).alloc (.cells #[.int .i64 tk, .int .i64 ti, .string ts] 27)
            go_wp2_with fail
            refine bodyPost_ret (v := .tuple #[Dt.zero.v, .int .i64 4]) (by simp [results, Tryz.results64, go_sem, c1, c2, c3, Dt.zero]) rfl ⟨by rw [HF.out, HE.out]; rfl, ?_⟩
            exact (((HB.out.setCell (Nat.le_refl _) _).setCell (Nat.le_refl _) _).setCell (Nat.le_refl _) _).alloc (by simp; omega) _
          · obtain ⟨c1, c2, c3, -, -, -, -⟩ := ((Bx.mk b1 b2 b3 f1 f2 f3 hzw4).store (.int .i64 tk) (.int .i64 ti) (.string ts)).alloc (.cells #[.int .i64 tk, .int .i64 ti, .string ts] 27)
            go_wp2_with fail
            refine bodyPost_ret (v := .tuple #[.agg #[.int .i64 tk, .int .i64 ti, .string ts], .int .i64 0]) (by simp [results, Tryz.results64, go_sem, c1, c2, c3]) rfl ⟨by rw [HF.out, HE.out]; rfl, ?_⟩
            exact (((HB.out.setCell (Nat.le_refl _) _).setCell (Nat.le_refl _) _).setCell (Nat.le_refl _) _).alloc (by simp; omega) _
        · have HE : Hid (numA [d, d'] (numR 6 d d') = (Dt.zero, 0)) := by show numA [d, d'] (numR 6 d d') = _; rw [numA, if_pos Hall.out, if_pos Hnul.out]
          obtain ⟨⟨b1, b2, b3⟩, ⟨f1, f2, f3⟩, hB, hzw4⟩ := box_new HR3.out
          have HB := Lib.hid hB
          clear hB
          go_wp2_with fail
          refine bodyPost_ret (v := .tuple #[Dt.zero.v, .int .i64 0]) (by simp [results, Tryz.results64, go_sem, b1, b2, b3, Dt.zero]) rfl ⟨by rw [HE.out], ?_⟩
          exact ((HB.out.setCell (Nat.le_refl _) _).setCell (Nat.le_refl _) _).setCell (Nat.le_refl _) _
end Go.Proofs.YtokbdleokihdaaaGreatDoor

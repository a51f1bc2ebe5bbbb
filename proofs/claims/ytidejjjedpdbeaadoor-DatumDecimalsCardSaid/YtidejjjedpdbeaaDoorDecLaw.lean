/- The walk of DatumDecimals: it answers true. -/
import Derived.Test.YtidejjjedpdbeaaDoorNumT
namespace Go.Proofs.YtidejjjedpdbeaaDoor
open Go.RowKit

set_option maxHeartbeats 4000000 in
theorem decimals_walk (i j : Int) (w : World) (hT : Tabs w) (i0 : -9223372036854775808 ≤ i) (i1 : i < 9223372036854775808) (j0 : -9223372036854775808 ≤ j) (j1 : j < 9223372036854775808) :
    Calls Tryd.prog 7 #[.int .i64 i, .int .i64 j] w fun e w' => e = .returned (.bool true) ∧ Below w.heap.size w w' := by
  have HG := Lib.hid (Gd.refl hT)
  have HJ := Lib.hid (show -9223372036854775808 ≤ j ∧ j < 9223372036854775808 ∧ j ≤ 9223372036854775807 from ⟨j0, j1, by omega⟩)
  have HI := Lib.hid (show -9223372036854775808 ≤ i ∧ i < 9223372036854775808 ∧ i ≤ 9223372036854775807 from ⟨i0, i1, by omega⟩)
  clear hT i0 i1 j0 j1
  go_enter Tryd.func7, Tryd.ntmps7
  go_wp2_with fail
  have K1 := Lib.hid (((Bx.at w w.heap.size rfl (.int .i64 2) (.int .i64 i) (.string ⟨#[]⟩) 24).alloc (.cells #[.int .i64 2, .int .i64 j, .string ⟨#[]⟩] 24)).alloc (.cells #[.int .i64 2, .int .i64 i, .string ⟨#[]⟩] 24))
  have K2 := Lib.hid ((Bx.at (w.alloc (.cells #[.int .i64 2, .int .i64 i, .string ⟨#[]⟩] 24)) (w.heap.size + 1) (by simp) (.int .i64 2) (.int .i64 j) (.string ⟨#[]⟩) 24).alloc (.cells #[.int .i64 2, .int .i64 i, .string ⟨#[]⟩] 24))
  replace HG := Lib.hid (((HG.out.alloc (.cells #[.int .i64 2, .int .i64 i, .string ⟨#[]⟩] 24)).alloc (.cells #[.int .i64 2, .int .i64 j, .string ⟨#[]⟩] 24)).alloc (.cells #[.int .i64 2, .int .i64 i, .string ⟨#[]⟩] 24))
  refine (apply_dec (nd 2 i) (w.heap.size + 1 + 1) 0 _ _ (by simp) (args1 _ _ (by simp) _ _ _ _) HG.out.t (right_nd _ _ (.inl rfl)) HI.out.1 HI.out.2.1).mono ?_
  rintro e w1 ⟨rfl, hb1⟩
  replace HG := Lib.hid (HG.out.step hb1)
  replace K1 := Lib.hid (K1.out.below hb1)
  replace K2 := Lib.hid (K2.out.below hb1)
  clear hb1
  obtain ⟨a1, a2, a3, -, -, -, lt1⟩ := K1.out
  obtain ⟨b1, b2, b3, -, -, -, lt2⟩ := K2.out
  cases hr : room (i * 10000)
  · rw [show numA [nd 2 i] (asDecR (nd 2 i)) = (⟨0, 0, ⟨#[]⟩⟩, 4) from dec_none i hr]
    have hrr : ¬(i ≤ 922337203685477 ∧ -922337203685477 ≤ i) := fun h => by have := (room_iff (i * 10000)).2 ⟨by omega, by omega⟩; rw [hr] at this; cases this
    have hcm := cmpR_two 11 2 i 3 j (.inl rfl) (.inr rfl)
    rw [cmpOp11] at hcm
    by_cases hp : 0 < i
    · have hp2 : decide (0 < i) = true := by simpa using hp
      have HF := Lib.hid (show cmpR 11 (nd 2 i) (nd 3 j) = (⟨1, 1, ⟨#[]⟩⟩, 0) by rw [hcm, show decide (j * unitOf 3 < i * unitOf 2) = true by rw [decide_eq_true_eq]; show j * 1 < i * 10000; have := HJ.out; omega]; rfl)
      have t1 : decide (i ≤ 922337203685477) = false := by rw [decide_eq_false_iff_not]; omega
      have t2 : decide (-922337203685477 ≤ i) = true := by rw [decide_eq_true_eq]; omega
      clear hcm hrr
      go_wp2_with fail
      replace HG := Lib.hid ((HG.out.alloc (.cells #[.int .i64 0, .int .i64 0, .string ⟨#[]⟩] 24)).alloc (.cells #[.int .i64 2, .int .i64 i, .string ⟨#[]⟩, .int .i64 3, .int .i64 j, .string ⟨#[]⟩] 24))
      refine (apply_cmp 11 (nd 2 i) (nd 3 j) (w1.heap.size + 1) 0 _ _ (by simp) (args2 _ _ (by simp) _ _ _ _ _ _ _) HG.out.t (right_nd _ _ (.inl rfl)) (right_nd _ _ (.inr rfl)) (by decide) (by decide) HI.out.1 HI.out.2.2 HJ.out.1 HJ.out.2.2).mono ?_
      rintro e w2 ⟨rfl, hb2⟩
      replace HG := Lib.hid (HG.out.step hb2)
      clear hb2 a1 a2 a3 b1 b2 b3
      rw [HF.out]
      go_wp2_with (go_at_call 12; refine (is_any _ _ _ _ _).mono ?_; rintro e w3 ⟨rfl, hb3⟩)
      refine bodyPost_ret (v := .bool true) (by simp [results, Tryd.results7, go_sem, isD]) rfl ⟨rfl, ((HG.out.alloc _).step hb3).b⟩
    · have hp2 : decide (0 < i) = false := by simpa using hp
      have HF := Lib.hid (show cmpR 11 (nd 2 i) (nd 3 j) = (⟨1, 0, ⟨#[]⟩⟩, 0) by rw [hcm, show decide (j * unitOf 3 < i * unitOf 2) = false by rw [decide_eq_false_iff_not]; show ¬(j * 1 < i * 10000); have := HJ.out; omega]; rfl)
      have t1 : decide (i ≤ 922337203685477) = true := by rw [decide_eq_true_eq]; omega
      have t2 : decide (-922337203685477 ≤ i) = false := by rw [decide_eq_false_iff_not]; omega
      clear hcm hrr
      go_wp2_with fail
      replace HG := Lib.hid ((HG.out.alloc (.cells #[.int .i64 0, .int .i64 0, .string ⟨#[]⟩] 24)).alloc (.cells #[.int .i64 2, .int .i64 i, .string ⟨#[]⟩, .int .i64 3, .int .i64 j, .string ⟨#[]⟩] 24))
      refine (apply_cmp 11 (nd 2 i) (nd 3 j) (w1.heap.size + 1) 0 _ _ (by simp) (args2 _ _ (by simp) _ _ _ _ _ _ _) HG.out.t (right_nd _ _ (.inl rfl)) (right_nd _ _ (.inr rfl)) (by decide) (by decide) HI.out.1 HI.out.2.2 HJ.out.1 HJ.out.2.2).mono ?_
      rintro e w2 ⟨rfl, hb2⟩
      replace HG := Lib.hid (HG.out.step hb2)
      clear hb2 a1 a2 a3 b1 b2 b3
      rw [HF.out]
      go_wp2_with (go_at_call 12; refine (is_any _ _ _ _ _).mono ?_; rintro e w3 ⟨rfl, hb3⟩)
      refine bodyPost_ret (v := .bool true) (by simp [results, Tryd.results7, go_sem, isD]) rfl ⟨rfl, ((HG.out.alloc _).step hb3).b⟩
  · rw [show numA [nd 2 i] (asDecR (nd 2 i)) = (⟨3, i * 10000, ⟨#[]⟩⟩, 0) from dec_room i hr]
    have t1 : decide (i ≤ 922337203685477) = true := by rw [decide_eq_true_eq]; have := (room_iff (i * 10000)).1 hr; omega
    have t2 : decide (-922337203685477 ≤ i) = true := by rw [decide_eq_true_eq]; have := (room_iff (i * 10000)).1 hr; omega
    have HX := Lib.hid (show -9223372036854775808 ≤ i * 10000 ∧ i * 10000 < 9223372036854775808 ∧ i * 10000 ≤ 9223372036854775807 by have := (room_iff (i * 10000)).1 hr; omega)
    have F3 := Lib.hid (show cmpR 7 (nd 2 i) (nd 3 (i * 10000)) = (⟨1, 1, ⟨#[]⟩⟩, 0) by rw [cmpR_two 7 2 i 3 (i * 10000) (.inl rfl) (.inr rfl), cmpOp7, show decide (i * unitOf 2 = i * 10000 * unitOf 3) = true by rw [decide_eq_true_eq]; show i * 10000 = i * 10000 * 1; omega]; rfl)
    have F6 := Lib.hid (show numA [nd 3 (i * 10000)] (asDecR (nd 3 (i * 10000))) = (⟨3, i * 10000, ⟨#[]⟩⟩, 0) from dec_dec (i * 10000))
    clear hr
    go_wp2_with fail
    replace HG := Lib.hid ((HG.out.alloc (.cells #[.int .i64 3, .int .i64 (i * 10000), .string ⟨#[]⟩] 24)).alloc (.cells #[.int .i64 2, .int .i64 i, .string ⟨#[]⟩, .int .i64 3, .int .i64 (i * 10000), .string ⟨#[]⟩] 24))
    refine (apply_cmp 7 (nd 2 i) (nd 3 (i * 10000)) (w1.heap.size + 1) 0 _ _ (by simp) (args2 _ _ (by simp) _ _ _ _ _ _ _) HG.out.t (right_nd _ _ (.inl rfl)) (right_nd _ _ (.inr rfl)) (by decide) (by decide) HI.out.1 HI.out.2.2 HX.out.1 HX.out.2.2).mono ?_
    rintro e w2 ⟨rfl, hb⟩
    replace HG := Lib.hid (HG.out.step hb)
    clear a1 a2 a3 b1 b2 b3
    replace K1 := Lib.hid ((((K1.out).alloc _).alloc _).below hb)
    replace K2 := Lib.hid ((((K2.out).alloc _).alloc _).below hb)
    have K3 := Lib.hid (((Bx.at w1 w1.heap.size rfl (.int .i64 3) (.int .i64 (i * 10000)) (.string ⟨#[]⟩) 24).alloc (.cells #[.int .i64 2, .int .i64 i, .string ⟨#[]⟩, .int .i64 3, .int .i64 (i * 10000), .string ⟨#[]⟩] 24)).below hb)
    clear hb
    obtain ⟨a1, a2, a3, -, -, -, lta⟩ := K1.out
    obtain ⟨b1, b2, b3, -, -, -, ltb⟩ := K2.out
    obtain ⟨x1, x2, x3, -, -, -, ltx⟩ := K3.out
    rw [F3.out]
    by_cases hij : i < j
    · have F4 := Lib.hid (show cmpR 9 (nd 2 i) (nd 2 j) = (⟨1, 1, ⟨#[]⟩⟩, 0) by rw [cmpR_two 9 2 i 2 j (.inl rfl) (.inl rfl), cmpOp9, show decide (i * unitOf 2 < j * unitOf 2) = true by rw [decide_eq_true_eq]; show i * 10000 < j * 10000; omega]; rfl)
      have F5 := Lib.hid (show cmpR 9 (nd 3 (i * 10000)) (nd 2 j) = (⟨1, 1, ⟨#[]⟩⟩, 0) by rw [cmpR_two 9 3 (i * 10000) 2 j (.inr rfl) (.inl rfl), cmpOp9, show decide (i * 10000 * unitOf 3 < j * unitOf 2) = true by rw [decide_eq_true_eq]; show i * 10000 * 1 < j * 10000; omega]; rfl)
      clear hij
      go_wp2_with fail
      replace HG := Lib.hid ((HG.out.alloc (.cells #[.int .i64 1, .int .i64 1, .string ⟨#[]⟩] 24)).alloc (.cells #[.int .i64 2, .int .i64 i, .string ⟨#[]⟩, .int .i64 2, .int .i64 j, .string ⟨#[]⟩] 24))
      refine (apply_cmp 9 (nd 2 i) (nd 2 j) (w2.heap.size + 1) 0 _ _ (by simp) (args2 _ _ (by simp) _ _ _ _ _ _ _) HG.out.t (right_nd _ _ (.inl rfl)) (right_nd _ _ (.inl rfl)) (by decide) (by decide) HI.out.1 HI.out.2.2 HJ.out.1 HJ.out.2.2).mono ?_
      rintro e w3 ⟨rfl, hb⟩
      replace HG := Lib.hid (HG.out.step hb)
      clear a1 a2 a3 b1 b2 b3 x1 x2 x3
      replace K1 := Lib.hid ((((K1.out).alloc _).alloc _).below hb)
      replace K2 := Lib.hid ((((K2.out).alloc _).alloc _).below hb)
      replace K3 := Lib.hid ((((K3.out).alloc _).alloc _).below hb)
      have K4 := Lib.hid (((Bx.at w2 w2.heap.size rfl (.int .i64 1) (.int .i64 1) (.string ⟨#[]⟩) 24).alloc (.cells #[.int .i64 2, .int .i64 i, .string ⟨#[]⟩, .int .i64 2, .int .i64 j, .string ⟨#[]⟩] 24)).below hb)
      clear hb
      obtain ⟨a1, a2, a3, -, -, -, lta⟩ := K1.out
      obtain ⟨b1, b2, b3, -, -, -, ltb⟩ := K2.out
      obtain ⟨x1, x2, x3, -, -, -, ltx⟩ := K3.out
      obtain ⟨s1, s2, s3, -, -, -, lts⟩ := K4.out
      rw [F4.out]
      go_wp2_with fail
      replace HG := Lib.hid ((HG.out.alloc (.cells #[.int .i64 1, .int .i64 1, .string ⟨#[]⟩] 24)).alloc (.cells #[.int .i64 3, .int .i64 (i * 10000), .string ⟨#[]⟩, .int .i64 2, .int .i64 j, .string ⟨#[]⟩] 24))
      refine (apply_cmp 9 (nd 3 (i * 10000)) (nd 2 j) (w3.heap.size + 1) 0 _ _ (by simp) (args2 _ _ (by simp) _ _ _ _ _ _ _) HG.out.t (right_nd _ _ (.inr rfl)) (right_nd _ _ (.inl rfl)) (by decide) (by decide) HX.out.1 HX.out.2.2 HJ.out.1 HJ.out.2.2).mono ?_
      rintro e w4 ⟨rfl, hb⟩
      replace HG := Lib.hid (HG.out.step hb)
      clear a1 a2 a3 b1 b2 b3 x1 x2 x3 s1 s2 s3
      replace K1 := Lib.hid ((((K1.out).alloc _).alloc _).below hb)
      replace K2 := Lib.hid ((((K2.out).alloc _).alloc _).below hb)
      replace K3 := Lib.hid ((((K3.out).alloc _).alloc _).below hb)
      replace K4 := Lib.hid ((((K4.out).alloc _).alloc _).below hb)
      have K5 := Lib.hid (((Bx.at w3 w3.heap.size rfl (.int .i64 1) (.int .i64 1) (.string ⟨#[]⟩) 24).alloc (.cells #[.int .i64 3, .int .i64 (i * 10000), .string ⟨#[]⟩, .int .i64 2, .int .i64 j, .string ⟨#[]⟩] 24)).below hb)
      clear hb
      obtain ⟨a1, a2, a3, -, -, -, lta⟩ := K1.out
      obtain ⟨b1, b2, b3, -, -, -, ltb⟩ := K2.out
      obtain ⟨x1, x2, x3, -, -, -, ltx⟩ := K3.out
      obtain ⟨s1, s2, s3, -, -, -, lts⟩ := K4.out
      obtain ⟨l1, l2, l3, -, -, -, ltl⟩ := K5.out
      rw [F5.out]
      go_wp2_with fail
      replace HG := Lib.hid ((HG.out.alloc (.cells #[.int .i64 1, .int .i64 1, .string ⟨#[]⟩] 24)).alloc (.cells #[.int .i64 3, .int .i64 (i * 10000), .string ⟨#[]⟩] 24))
      refine (apply_dec (nd 3 (i * 10000)) (w4.heap.size + 1) 0 _ _ (by simp) (args1 _ _ (by simp) _ _ _ _) HG.out.t (right_nd _ _ (.inr rfl)) HX.out.1 HX.out.2.1).mono ?_
      rintro e w5 ⟨rfl, hb⟩
      replace HG := Lib.hid (HG.out.step hb)
      clear a1 a2 a3 b1 b2 b3 x1 x2 x3 s1 s2 s3 l1 l2 l3
      replace K1 := Lib.hid ((((K1.out).alloc _).alloc _).below hb)
      replace K2 := Lib.hid ((((K2.out).alloc _).alloc _).below hb)
      replace K3 := Lib.hid ((((K3.out).alloc _).alloc _).below hb)
      replace K4 := Lib.hid ((((K4.out).alloc _).alloc _).below hb)
      replace K5 := Lib.hid ((((K5.out).alloc _).alloc _).below hb)
      have K6 := Lib.hid (((Bx.at w4 w4.heap.size rfl (.int .i64 1) (.int .i64 1) (.string ⟨#[]⟩) 24).alloc (.cells #[.int .i64 3, .int .i64 (i * 10000), .string ⟨#[]⟩] 24)).below hb)
      clear hb
      obtain ⟨a1, a2, a3, -, -, -, lta⟩ := K1.out
      obtain ⟨b1, b2, b3, -, -, -, ltb⟩ := K2.out
      obtain ⟨x1, x2, x3, -, -, -, ltx⟩ := K3.out
      obtain ⟨s1, s2, s3, -, -, -, lts⟩ := K4.out
      obtain ⟨l1, l2, l3, -, -, -, ltl⟩ := K5.out
      obtain ⟨o1, o2, o3, -, -, -, lto⟩ := K6.out
      rw [F6.out]
      go_wp2_with fail
      refine (is_any _ _ _ _ _).mono ?_
      rintro e w6 ⟨rfl, hb⟩
      rw [show isD ⟨1, 1, ⟨#[]⟩⟩ 0 = true from rfl]
      replace HG := Lib.hid ((HG.out.alloc (.cells #[.int .i64 3, .int .i64 (i * 10000), .string ⟨#[]⟩] 24)).step hb)
      clear a1 a2 a3 b1 b2 b3 x1 x2 x3 s1 s2 s3 l1 l2 l3 o1 o2 o3
      replace K1 := Lib.hid (((K1.out).alloc _).below hb)
      replace K2 := Lib.hid (((K2.out).alloc _).below hb)
      replace K3 := Lib.hid (((K3.out).alloc _).below hb)
      replace K4 := Lib.hid (((K4.out).alloc _).below hb)
      replace K5 := Lib.hid (((K5.out).alloc _).below hb)
      replace K6 := Lib.hid (((K6.out).alloc _).below hb)
      have K7 := Lib.hid ((Bx.at w5 w5.heap.size rfl (.int .i64 3) (.int .i64 (i * 10000)) (.string ⟨#[]⟩) 24).below hb)
      clear hb
      obtain ⟨a1, a2, a3, -, -, -, lta⟩ := K1.out
      obtain ⟨b1, b2, b3, -, -, -, ltb⟩ := K2.out
      obtain ⟨x1, x2, x3, -, -, -, ltx⟩ := K3.out
      obtain ⟨s1, s2, s3, -, -, -, lts⟩ := K4.out
      obtain ⟨l1, l2, l3, -, -, -, ltl⟩ := K5.out
      obtain ⟨o1, o2, o3, -, -, -, lto⟩ := K6.out
      obtain ⟨p1, p2, p3, -, -, -, ltp⟩ := K7.out
      have hw1 : IntKind.i64.wrap (i * 10000) = i * 10000 := by rw [IntKind.wrap_i64]; have := HX.out; omega
      have hw2 : wrap64 (i * 10000) = i * 10000 := by unfold wrap64; have := HX.out; omega
      go_wp2_with fail
      refine bodyPost_ret (v := .bool true) (by simp [results, Tryd.results7, go_sem]) rfl ⟨rfl, HG.out.b⟩
    · have F4 := Lib.hid (show cmpR 9 (nd 2 i) (nd 2 j) = (⟨1, 0, ⟨#[]⟩⟩, 0) by rw [cmpR_two 9 2 i 2 j (.inl rfl) (.inl rfl), cmpOp9, show decide (i * unitOf 2 < j * unitOf 2) = false by rw [decide_eq_false_iff_not]; show ¬(i * 10000 < j * 10000); omega]; rfl)
      have F5 := Lib.hid (show cmpR 9 (nd 3 (i * 10000)) (nd 2 j) = (⟨1, 0, ⟨#[]⟩⟩, 0) by rw [cmpR_two 9 3 (i * 10000) 2 j (.inr rfl) (.inl rfl), cmpOp9, show decide (i * 10000 * unitOf 3 < j * unitOf 2) = false by rw [decide_eq_false_iff_not]; show ¬(i * 10000 * 1 < j * 10000); omega]; rfl)
      clear hij
      go_wp2_with fail
      replace HG := Lib.hid ((HG.out.alloc (.cells #[.int .i64 1, .int .i64 1, .string ⟨#[]⟩] 24)).alloc (.cells #[.int .i64 2, .int .i64 i, .string ⟨#[]⟩, .int .i64 2, .int .i64 j, .string ⟨#[]⟩] 24))
      refine (apply_cmp 9 (nd 2 i) (nd 2 j) (w2.heap.size + 1) 0 _ _ (by simp) (args2 _ _ (by simp) _ _ _ _ _ _ _) HG.out.t (right_nd _ _ (.inl rfl)) (right_nd _ _ (.inl rfl)) (by decide) (by decide) HI.out.1 HI.out.2.2 HJ.out.1 HJ.out.2.2).mono ?_
      rintro e w3 ⟨rfl, hb⟩
      replace HG := Lib.hid (HG.out.step hb)
      clear a1 a2 a3 b1 b2 b3 x1 x2 x3
      replace K1 := Lib.hid ((((K1.out).alloc _).alloc _).below hb)
      replace K2 := Lib.hid ((((K2.out).alloc _).alloc _).below hb)
      replace K3 := Lib.hid ((((K3.out).alloc _).alloc _).below hb)
      have K4 := Lib.hid (((Bx.at w2 w2.heap.size rfl (.int .i64 1) (.int .i64 1) (.string ⟨#[]⟩) 24).alloc (.cells #[.int .i64 2, .int .i64 i, .string ⟨#[]⟩, .int .i64 2, .int .i64 j, .string ⟨#[]⟩] 24)).below hb)
      clear hb
      obtain ⟨a1, a2, a3, -, -, -, lta⟩ := K1.out
      obtain ⟨b1, b2, b3, -, -, -, ltb⟩ := K2.out
      obtain ⟨x1, x2, x3, -, -, -, ltx⟩ := K3.out
      obtain ⟨s1, s2, s3, -, -, -, lts⟩ := K4.out
      rw [F4.out]
      go_wp2_with fail
      replace HG := Lib.hid ((HG.out.alloc (.cells #[.int .i64 1, .int .i64 0, .string ⟨#[]⟩] 24)).alloc (.cells #[.int .i64 3, .int .i64 (i * 10000), .string ⟨#[]⟩, .int .i64 2, .int .i64 j, .string ⟨#[]⟩] 24))
      refine (apply_cmp 9 (nd 3 (i * 10000)) (nd 2 j) (w3.heap.size + 1) 0 _ _ (by simp) (args2 _ _ (by simp) _ _ _ _ _ _ _) HG.out.t (right_nd _ _ (.inr rfl)) (right_nd _ _ (.inl rfl)) (by decide) (by decide) HX.out.1 HX.out.2.2 HJ.out.1 HJ.out.2.2).mono ?_
      rintro e w4 ⟨rfl, hb⟩
      replace HG := Lib.hid (HG.out.step hb)
      clear a1 a2 a3 b1 b2 b3 x1 x2 x3 s1 s2 s3
      replace K1 := Lib.hid ((((K1.out).alloc _).alloc _).below hb)
      replace K2 := Lib.hid ((((K2.out).alloc _).alloc _).below hb)
      replace K3 := Lib.hid ((((K3.out).alloc _).alloc _).below hb)
      replace K4 := Lib.hid ((((K4.out).alloc _).alloc _).below hb)
      have K5 := Lib.hid (((Bx.at w3 w3.heap.size rfl (.int .i64 1) (.int .i64 0) (.string ⟨#[]⟩) 24).alloc (.cells #[.int .i64 3, .int .i64 (i * 10000), .string ⟨#[]⟩, .int .i64 2, .int .i64 j, .string ⟨#[]⟩] 24)).below hb)
      clear hb
      obtain ⟨a1, a2, a3, -, -, -, lta⟩ := K1.out
      obtain ⟨b1, b2, b3, -, -, -, ltb⟩ := K2.out
      obtain ⟨x1, x2, x3, -, -, -, ltx⟩ := K3.out
      obtain ⟨s1, s2, s3, -, -, -, lts⟩ := K4.out
      obtain ⟨l1, l2, l3, -, -, -, ltl⟩ := K5.out
      rw [F5.out]
      go_wp2_with fail
      replace HG := Lib.hid ((HG.out.alloc (.cells #[.int .i64 1, .int .i64 0, .string ⟨#[]⟩] 24)).alloc (.cells #[.int .i64 3, .int .i64 (i * 10000), .string ⟨#[]⟩] 24))
      refine (apply_dec (nd 3 (i * 10000)) (w4.heap.size + 1) 0 _ _ (by simp) (args1 _ _ (by simp) _ _ _ _) HG.out.t (right_nd _ _ (.inr rfl)) HX.out.1 HX.out.2.1).mono ?_
      rintro e w5 ⟨rfl, hb⟩
      replace HG := Lib.hid (HG.out.step hb)
      clear a1 a2 a3 b1 b2 b3 x1 x2 x3 s1 s2 s3 l1 l2 l3
      replace K1 := Lib.hid ((((K1.out).alloc _).alloc _).below hb)
      replace K2 := Lib.hid ((((K2.out).alloc _).alloc _).below hb)
      replace K3 := Lib.hid ((((K3.out).alloc _).alloc _).below hb)
      replace K4 := Lib.hid ((((K4.out).alloc _).alloc _).below hb)
      replace K5 := Lib.hid ((((K5.out).alloc _).alloc _).below hb)
      have K6 := Lib.hid (((Bx.at w4 w4.heap.size rfl (.int .i64 1) (.int .i64 0) (.string ⟨#[]⟩) 24).alloc (.cells #[.int .i64 3, .int .i64 (i * 10000), .string ⟨#[]⟩] 24)).below hb)
      clear hb
      obtain ⟨a1, a2, a3, -, -, -, lta⟩ := K1.out
      obtain ⟨b1, b2, b3, -, -, -, ltb⟩ := K2.out
      obtain ⟨x1, x2, x3, -, -, -, ltx⟩ := K3.out
      obtain ⟨s1, s2, s3, -, -, -, lts⟩ := K4.out
      obtain ⟨l1, l2, l3, -, -, -, ltl⟩ := K5.out
      obtain ⟨o1, o2, o3, -, -, -, lto⟩ := K6.out
      rw [F6.out]
      go_wp2_with fail
      refine (is_any _ _ _ _ _).mono ?_
      rintro e w6 ⟨rfl, hb⟩
      rw [show isD ⟨1, 1, ⟨#[]⟩⟩ 0 = true from rfl]
      replace HG := Lib.hid ((HG.out.alloc (.cells #[.int .i64 3, .int .i64 (i * 10000), .string ⟨#[]⟩] 24)).step hb)
      clear a1 a2 a3 b1 b2 b3 x1 x2 x3 s1 s2 s3 l1 l2 l3 o1 o2 o3
      replace K1 := Lib.hid (((K1.out).alloc _).below hb)
      replace K2 := Lib.hid (((K2.out).alloc _).below hb)
      replace K3 := Lib.hid (((K3.out).alloc _).below hb)
      replace K4 := Lib.hid (((K4.out).alloc _).below hb)
      replace K5 := Lib.hid (((K5.out).alloc _).below hb)
      replace K6 := Lib.hid (((K6.out).alloc _).below hb)
      have K7 := Lib.hid ((Bx.at w5 w5.heap.size rfl (.int .i64 3) (.int .i64 (i * 10000)) (.string ⟨#[]⟩) 24).below hb)
      clear hb
      obtain ⟨a1, a2, a3, -, -, -, lta⟩ := K1.out
      obtain ⟨b1, b2, b3, -, -, -, ltb⟩ := K2.out
      obtain ⟨x1, x2, x3, -, -, -, ltx⟩ := K3.out
      obtain ⟨s1, s2, s3, -, -, -, lts⟩ := K4.out
      obtain ⟨l1, l2, l3, -, -, -, ltl⟩ := K5.out
      obtain ⟨o1, o2, o3, -, -, -, lto⟩ := K6.out
      obtain ⟨p1, p2, p3, -, -, -, ltp⟩ := K7.out
      have hw1 : IntKind.i64.wrap (i * 10000) = i * 10000 := by rw [IntKind.wrap_i64]; have := HX.out; omega
      have hw2 : wrap64 (i * 10000) = i * 10000 := by unfold wrap64; have := HX.out; omega
      go_wp2_with fail
      refine bodyPost_ret (v := .bool true) (by simp [results, Tryd.results7, go_sem]) rfl ⟨rfl, HG.out.b⟩
end Go.Proofs.YtidejjjedpdbeaaDoor

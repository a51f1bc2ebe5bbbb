/- The walk of DatumSums, a part of the inputs: it answers true. -/
import Derived.Test.YtidejjjedpdbeaaDoorSumB
import Derived.Deep.CutRange
import Derived.Deep.DeepCutAuto
namespace Go.Proofs.YtidejjjedpdbeaaDoor
open Go.RowKit

set_option maxRecDepth 100000 in
set_option maxHeartbeats 40000000 in
theorem sums_O (ak ai bk bi : Int) (sa sb : ByteArray) (w : World) (hT : Tabs w) (hq : ¬(ak = 2 ∧ bk = 2 ∧ bi ≠ 0 ∧ room (ai.tdiv bi) = true)) (i0 : -9223372036854775808 ≤ ai) (i1 : ai < 9223372036854775808) (j0 : -9223372036854775808 ≤ bi) (j1 : bi < 9223372036854775808) :
    Calls Tryd.prog 6 #[.agg #[.int .i64 ak, .int .i64 ai, .string sa], .agg #[.int .i64 bk, .int .i64 bi, .string sb]] w fun e w' => e = .returned (.bool true) ∧ Below w.heap.size w w' := by
  have HG := Lib.hid (Gd.refl hT)
  have HQ := Lib.hid hq
  clear hq
  have HI := Lib.hid (show -9223372036854775808 ≤ ai ∧ ai < 9223372036854775808 ∧ ai ≤ 9223372036854775807 from ⟨i0, i1, by omega⟩)
  have HJ := Lib.hid (show -9223372036854775808 ≤ bi ∧ bi < 9223372036854775808 ∧ bi ≤ 9223372036854775807 from ⟨j0, j1, by omega⟩)
  clear hT i0 i1 j0 j1
  go_enter Tryd.func6, Tryd.ntmps6
  go_wp2_with fail
  have K1 := Lib.hid ((Bx.at w w.heap.size rfl (.int .i64 ak) (.int .i64 ai) (.string sa) 24).alloc (.cells #[.int .i64 bk, .int .i64 bi, .string sb] 24))
  have K2 := Lib.hid (Bx.at (w.alloc (.cells #[.int .i64 ak, .int .i64 ai, .string sa] 24)) (w.heap.size + 1) (by simp) (.int .i64 bk) (.int .i64 bi) (.string sb) 24)
  replace HG := Lib.hid ((HG.out.alloc (.cells #[.int .i64 ak, .int .i64 ai, .string sa] 24)).alloc (.cells #[.int .i64 bk, .int .i64 bi, .string sb] 24))
  refine (numb_any _ _ _ _).mono ?_
  rintro e w1 ⟨rfl, hb1⟩
  replace HG := Lib.hid (HG.out.step hb1)
  replace K1 := Lib.hid (K1.out.below hb1)
  replace K2 := Lib.hid (K2.out.below hb1)
  clear hb1
  obtain ⟨a1, a2, a3, -, -, -, lta⟩ := K1.out
  obtain ⟨b1, b2, b3, -, -, -, ltb⟩ := K2.out
  cases hna : numB ak sa
  · go_wp2_with fail
    refine bodyPost_ret (v := .bool true) (by simp [results, Tryd.results6, go_sem]) rfl ⟨rfl, HG.out.b⟩
  · obtain ⟨hk, rfl⟩ := numb_of hna
    have HK := Lib.hid hk
    clear hna hk
    go_wp2_with fail
    refine (numb_any _ _ _ _).mono ?_
    rintro e w2 ⟨rfl, hb1⟩
    replace HG := Lib.hid (HG.out.step hb1)
    replace K1 := Lib.hid (K1.out.below hb1)
    replace K2 := Lib.hid (K2.out.below hb1)
    clear hb1 a1 a2 a3 b1 b2 b3 lta ltb
    obtain ⟨a1, a2, a3, -, -, -, lta⟩ := K1.out
    obtain ⟨b1, b2, b3, -, -, -, ltb⟩ := K2.out
    cases hnb : numB bk sb
    · go_wp2_with fail
      refine bodyPost_ret (v := .bool true) (by simp [results, Tryd.results6, go_sem]) rfl ⟨rfl, HG.out.b⟩
    · obtain ⟨hl, rfl⟩ := numb_of hnb
      have HL := Lib.hid hl
      clear hnb hl
      obtain ⟨xk, xi, e, hx, he⟩ := numA_form 3 ak ai bk bi HK.out HL.out
      obtain ⟨pk, pi, g, hp, hg⟩ := numA_form 5 ak ai bk bi HK.out HL.out
      have FX := Lib.hid hx
      have FP := Lib.hid hp
      have FY : Hid (numA [nd bk bi, nd ak ai] (numR 3 (nd bk bi) (nd ak ai)) = (⟨xk, xi, ⟨#[]⟩⟩, e)) := (numA_comm 3 ak ai bk bi HK.out HL.out (.inl rfl)).symm.trans hx
      have FQ : Hid (numA [nd bk bi, nd ak ai] (numR 5 (nd bk bi) (nd ak ai)) = (⟨pk, pi, ⟨#[]⟩⟩, g)) := (numA_comm 5 ak ai bk bi HK.out HL.out (.inr rfl)).symm.trans hp
      have HE := Lib.hid he
      have HEG := Lib.hid hg
      clear hx hp he hg
      go_wp2_with fail
      replace HG := Lib.hid (HG.out.alloc (.cells #[.int .i64 ak, .int .i64 ai, .string ⟨#[]⟩, .int .i64 bk, .int .i64 bi, .string ⟨#[]⟩] 24))
      refine (apply_add (nd ak ai) (nd bk bi) (w2.heap.size) 0 _ _ (by simp) (args2 _ _ (rfl) _ _ _ _ _ _ _) HG.out.t (right_nd _ _ HK.out) (right_nd _ _ HL.out) HI.out.1 HI.out.2.1 HJ.out.1 HJ.out.2.1).mono ?_
      rintro e w3 ⟨rfl, hb⟩
      replace HG := Lib.hid (HG.out.step hb)
      clear a1 a2 a3 lta b1 b2 b3 ltb
      replace K1 := Lib.hid ((K1.out.alloc _).below hb)
      replace K2 := Lib.hid ((K2.out.alloc _).below hb)
      clear hb
      obtain ⟨a1, a2, a3, -, -, -, lta⟩ := K1.out
      obtain ⟨b1, b2, b3, -, -, -, ltb⟩ := K2.out
      rw [FX.out]
      go_wp2_with fail
      replace HG := Lib.hid ((HG.out.alloc (.cells #[.int .i64 xk, .int .i64 xi, .string ⟨#[]⟩] 24)).alloc (.cells #[.int .i64 bk, .int .i64 bi, .string ⟨#[]⟩, .int .i64 ak, .int .i64 ai, .string ⟨#[]⟩] 24))
      refine (apply_add (nd bk bi) (nd ak ai) (w3.heap.size + 1) 0 _ _ (by simp) (args2 _ _ (by simp) _ _ _ _ _ _ _) HG.out.t (right_nd _ _ HL.out) (right_nd _ _ HK.out) HJ.out.1 HJ.out.2.1 HI.out.1 HI.out.2.1).mono ?_
      rintro e w4 ⟨rfl, hb⟩
      replace HG := Lib.hid (HG.out.step hb)
      clear a1 a2 a3 lta b1 b2 b3 ltb
      replace K1 := Lib.hid (((K1.out.alloc _).alloc _).below hb)
      replace K2 := Lib.hid (((K2.out.alloc _).alloc _).below hb)
      have K3 := Lib.hid (((Bx.at w3 w3.heap.size rfl (.int .i64 xk) (.int .i64 xi) (.string ⟨#[]⟩) 24).alloc (.cells #[.int .i64 bk, .int .i64 bi, .string ⟨#[]⟩, .int .i64 ak, .int .i64 ai, .string ⟨#[]⟩] 24)).below hb)
      clear hb
      obtain ⟨a1, a2, a3, -, -, -, lta⟩ := K1.out
      obtain ⟨b1, b2, b3, -, -, -, ltb⟩ := K2.out
      obtain ⟨x1, x2, x3, -, -, -, ltx⟩ := K3.out
      rw [FY.out]
      go_wp2_with fail
      replace HG := Lib.hid ((HG.out.alloc (.cells #[.int .i64 xk, .int .i64 xi, .string ⟨#[]⟩] 24)).alloc (.cells #[.int .i64 ak, .int .i64 ai, .string ⟨#[]⟩, .int .i64 bk, .int .i64 bi, .string ⟨#[]⟩] 24))
      refine (apply_mul (nd ak ai) (nd bk bi) (w4.heap.size + 1) 0 _ _ (by simp) (args2 _ _ (by simp) _ _ _ _ _ _ _) HG.out.t (right_nd _ _ HK.out) (right_nd _ _ HL.out) HI.out.1 HI.out.2.1 HJ.out.1 HJ.out.2.1).mono ?_
      rintro e w5 ⟨rfl, hb⟩
      replace HG := Lib.hid (HG.out.step hb)
      clear a1 a2 a3 lta b1 b2 b3 ltb x1 x2 x3 ltx
      replace K1 := Lib.hid (((K1.out.alloc _).alloc _).below hb)
      replace K2 := Lib.hid (((K2.out.alloc _).alloc _).below hb)
      replace K3 := Lib.hid (((K3.out.alloc _).alloc _).below hb)
      have K4 := Lib.hid (((Bx.at w4 w4.heap.size rfl (.int .i64 xk) (.int .i64 xi) (.string ⟨#[]⟩) 24).alloc (.cells #[.int .i64 ak, .int .i64 ai, .string ⟨#[]⟩, .int .i64 bk, .int .i64 bi, .string ⟨#[]⟩] 24)).below hb)
      clear hb
      obtain ⟨a1, a2, a3, -, -, -, lta⟩ := K1.out
      obtain ⟨b1, b2, b3, -, -, -, ltb⟩ := K2.out
      obtain ⟨x1, x2, x3, -, -, -, ltx⟩ := K3.out
      obtain ⟨y1, y2, y3, -, -, -, lty⟩ := K4.out
      rw [FP.out]
      go_wp2_with fail
      replace HG := Lib.hid ((HG.out.alloc (.cells #[.int .i64 pk, .int .i64 pi, .string ⟨#[]⟩] 24)).alloc (.cells #[.int .i64 bk, .int .i64 bi, .string ⟨#[]⟩, .int .i64 ak, .int .i64 ai, .string ⟨#[]⟩] 24))
      refine (apply_mul (nd bk bi) (nd ak ai) (w5.heap.size + 1) 0 _ _ (by simp) (args2 _ _ (by simp) _ _ _ _ _ _ _) HG.out.t (right_nd _ _ HL.out) (right_nd _ _ HK.out) HJ.out.1 HJ.out.2.1 HI.out.1 HI.out.2.1).mono ?_
      rintro e w6 ⟨rfl, hb⟩
      replace HG := Lib.hid (HG.out.step hb)
      clear a1 a2 a3 lta b1 b2 b3 ltb x1 x2 x3 ltx y1 y2 y3 lty
      replace K1 := Lib.hid (((K1.out.alloc _).alloc _).below hb)
      replace K2 := Lib.hid (((K2.out.alloc _).alloc _).below hb)
      replace K3 := Lib.hid (((K3.out.alloc _).alloc _).below hb)
      replace K4 := Lib.hid (((K4.out.alloc _).alloc _).below hb)
      have K5 := Lib.hid (((Bx.at w5 w5.heap.size rfl (.int .i64 pk) (.int .i64 pi) (.string ⟨#[]⟩) 24).alloc (.cells #[.int .i64 bk, .int .i64 bi, .string ⟨#[]⟩, .int .i64 ak, .int .i64 ai, .string ⟨#[]⟩] 24)).below hb)
      clear hb
      obtain ⟨a1, a2, a3, -, -, -, lta⟩ := K1.out
      obtain ⟨b1, b2, b3, -, -, -, ltb⟩ := K2.out
      obtain ⟨x1, x2, x3, -, -, -, ltx⟩ := K3.out
      obtain ⟨y1, y2, y3, -, -, -, lty⟩ := K4.out
      obtain ⟨p1, p2, p3, -, -, -, ltp⟩ := K5.out
      rw [FQ.out]
      go_upto_region 8 with fail
      go_cut [92] (fun v wc => v = .bool false ∧ wc = w6.alloc (.cells #[.int .i64 pk, .int .i64 pi, .string ⟨#[]⟩] 24))
      case first =>
        rcases HE.out with rfl | rfl <;> rcases HEG.out with rfl | rfl
        all_goals
          go_wp2_with fail
          go_meet
          case rel => exact ⟨rfl, rfl⟩
      case rest =>
        obtain ⟨rfl, rfl⟩ := hcut
        go_upto_if 94 with fail
        go_cut [] (fun wc => Gd w wc ∧ Bx wc w.heap.size (.int .i64 ak) (.int .i64 ai) (.string ⟨#[]⟩) ∧ Bx wc (w.heap.size + 1) (.int .i64 bk) (.int .i64 bi) (.string ⟨#[]⟩))
        case first =>
          rcases HE.out with rfl | rfl
          · obtain ⟨zi, hb1, hb2, hb3, hb4, hb5⟩ := sums_back ak ai bk bi xk xi HK.out HL.out HI.out.1 HI.out.2.1 FX.out
            have FB := Lib.hid hb1
            have FC := Lib.hid hb2
            have HXK := Lib.hid hb3
            have HX := Lib.hid hb4
            have HZ := Lib.hid hb5
            clear hb1 hb2 hb3 hb4 hb5
            go_wp2_with fail
            replace HG := Lib.hid ((HG.out.alloc (.cells #[.int .i64 pk, .int .i64 pi, .string ⟨#[]⟩] 24)).alloc (.cells #[.int .i64 xk, .int .i64 xi, .string ⟨#[]⟩, .int .i64 bk, .int .i64 bi, .string ⟨#[]⟩] 24))
            refine (apply_sub (nd xk xi) (nd bk bi) (w6.heap.size + 1) 0 _ _ (by simp) (args2 _ _ (by simp) _ _ _ _ _ _ _) HG.out.t (right_nd _ _ HXK.out) (right_nd _ _ HL.out) HX.out.1 HX.out.2.1 HJ.out.1 HJ.out.2.1).mono ?_
            rintro e w7 ⟨rfl, hb⟩
            replace HG := Lib.hid (HG.out.step hb)
            clear a1 a2 a3 lta b1 b2 b3 ltb x1 x2 x3 ltx y1 y2 y3 lty p1 p2 p3 ltp
            replace K1 := Lib.hid (((K1.out.alloc _).alloc _).below hb)
            replace K2 := Lib.hid (((K2.out.alloc _).alloc _).below hb)
            replace K3 := Lib.hid (((K3.out.alloc _).alloc _).below hb)
            replace K4 := Lib.hid (((K4.out.alloc _).alloc _).below hb)
            replace K5 := Lib.hid (((K5.out.alloc _).alloc _).below hb)
            have K6 := Lib.hid (((Bx.at w6 w6.heap.size rfl (.int .i64 pk) (.int .i64 pi) (.string ⟨#[]⟩) 24).alloc (.cells #[.int .i64 xk, .int .i64 xi, .string ⟨#[]⟩, .int .i64 bk, .int .i64 bi, .string ⟨#[]⟩] 24)).below hb)
            clear hb
            obtain ⟨a1, a2, a3, -, -, -, lta⟩ := K1.out
            obtain ⟨b1, b2, b3, -, -, -, ltb⟩ := K2.out
            obtain ⟨x1, x2, x3, -, -, -, ltx⟩ := K3.out
            obtain ⟨y1, y2, y3, -, -, -, lty⟩ := K4.out
            obtain ⟨p1, p2, p3, -, -, -, ltp⟩ := K5.out
            obtain ⟨q1, q2, q3, -, -, -, ltq⟩ := K6.out
            rw [FB.out]
            go_wp2_with fail
            replace HG := Lib.hid ((HG.out.alloc (.cells #[.int .i64 xk, .int .i64 zi, .string ⟨#[]⟩] 24)).alloc (.cells #[.int .i64 xk, .int .i64 zi, .string ⟨#[]⟩, .int .i64 ak, .int .i64 ai, .string ⟨#[]⟩] 24))
            refine (apply_cmp 7 (nd xk zi) (nd ak ai) (w7.heap.size + 1) 0 _ _ (by simp) (args2 _ _ (by simp) _ _ _ _ _ _ _) HG.out.t (right_nd _ _ HXK.out) (right_nd _ _ HK.out) (by decide) (by decide) HZ.out.1 HZ.out.2.2 HI.out.1 HI.out.2.2).mono ?_
            rintro e w8 ⟨rfl, hb⟩
            replace HG := Lib.hid (HG.out.step hb)
            clear a1 a2 a3 lta b1 b2 b3 ltb x1 x2 x3 ltx y1 y2 y3 lty p1 p2 p3 ltp q1 q2 q3 ltq
            replace K1 := Lib.hid (((K1.out.alloc _).alloc _).below hb)
            replace K2 := Lib.hid (((K2.out.alloc _).alloc _).below hb)
            replace K3 := Lib.hid (((K3.out.alloc _).alloc _).below hb)
            replace K4 := Lib.hid (((K4.out.alloc _).alloc _).below hb)
            replace K5 := Lib.hid (((K5.out.alloc _).alloc _).below hb)
            replace K6 := Lib.hid (((K6.out.alloc _).alloc _).below hb)
            have K7 := Lib.hid (((Bx.at w7 w7.heap.size rfl (.int .i64 xk) (.int .i64 zi) (.string ⟨#[]⟩) 24).alloc (.cells #[.int .i64 xk, .int .i64 zi, .string ⟨#[]⟩, .int .i64 ak, .int .i64 ai, .string ⟨#[]⟩] 24)).below hb)
            clear hb
            obtain ⟨a1, a2, a3, -, -, -, lta⟩ := K1.out
            obtain ⟨b1, b2, b3, -, -, -, ltb⟩ := K2.out
            obtain ⟨x1, x2, x3, -, -, -, ltx⟩ := K3.out
            obtain ⟨y1, y2, y3, -, -, -, lty⟩ := K4.out
            obtain ⟨p1, p2, p3, -, -, -, ltp⟩ := K5.out
            obtain ⟨q1, q2, q3, -, -, -, ltq⟩ := K6.out
            obtain ⟨z1, z2, z3, -, -, -, ltz⟩ := K7.out
            rw [FC.out]
            go_wp2_with fail
            refine (is_any _ _ _ _ _).mono ?_
            rintro e w9 ⟨rfl, hb⟩
            rw [show isD ⟨1, 1, ⟨#[]⟩⟩ 0 = true from rfl]
            replace HG := Lib.hid ((HG.out.alloc (.cells #[.int .i64 1, .int .i64 1, .string ⟨#[]⟩] 24)).step hb)
            clear a1 a2 a3 lta b1 b2 b3 ltb x1 x2 x3 ltx y1 y2 y3 lty p1 p2 p3 ltp q1 q2 q3 ltq z1 z2 z3 ltz
            replace K1 := Lib.hid ((K1.out.alloc _).below hb)
            replace K2 := Lib.hid ((K2.out.alloc _).below hb)
            replace K3 := Lib.hid ((K3.out.alloc _).below hb)
            replace K4 := Lib.hid ((K4.out.alloc _).below hb)
            replace K5 := Lib.hid ((K5.out.alloc _).below hb)
            replace K6 := Lib.hid ((K6.out.alloc _).below hb)
            replace K7 := Lib.hid ((K7.out.alloc _).below hb)
            clear hb
            obtain ⟨a1, a2, a3, -, -, -, lta⟩ := K1.out
            obtain ⟨b1, b2, b3, -, -, -, ltb⟩ := K2.out
            obtain ⟨x1, x2, x3, -, -, -, ltx⟩ := K3.out
            obtain ⟨y1, y2, y3, -, -, -, lty⟩ := K4.out
            obtain ⟨p1, p2, p3, -, -, -, ltp⟩ := K5.out
            obtain ⟨q1, q2, q3, -, -, -, ltq⟩ := K6.out
            obtain ⟨z1, z2, z3, -, -, -, ltz⟩ := K7.out
            go_wp2_with fail
            go_meet
            case rel => exact ⟨HG.out, K1.out, K2.out⟩
          · go_wp2_with fail
            go_meet
            case rel => exact ⟨HG.out.alloc _, K1.out.alloc _, K2.out.alloc _⟩
        case rest =>
          clear FX FY FP FQ HE HEG HG K1 K2 K3 K4 K5 a1 a2 a3 b1 b2 b3 x1 x2 x3 y1 y2 y3 p1 p2 p3 lta ltb ltx lty ltp
          obtain ⟨hg, hk1, hk2⟩ := hcut
          have HG := Lib.hid hg
          have K1 := Lib.hid hk1
          have K2 := Lib.hid hk2
          clear hg hk1 hk2
          obtain ⟨a1, a2, a3, -, -, -, lta⟩ := K1.out
          obtain ⟨b1, b2, b3, -, -, -, ltb⟩ := K2.out
          rcases HK.out with rfl | rfl
          · rcases HL.out with rfl | rfl
            · go_wp2_with fail
              replace HG := Lib.hid (HG.out.alloc (.cells #[.int .i64 2, .int .i64 ai, .string ⟨#[]⟩, .int .i64 2, .int .i64 bi, .string ⟨#[]⟩] 24))
              refine (apply_div (nd 2 ai) (nd 2 bi) (wc.heap.size) 0 _ _ (by simp) (args2 _ _ (rfl) _ _ _ _ _ _ _) HG.out.t (right_nd _ _ (.inl rfl)) (right_nd _ _ (.inl rfl)) HI.out.1 HI.out.2.1 HJ.out.1 HJ.out.2.1).mono ?_
              rintro e w10 ⟨rfl, hb⟩
              replace HG := Lib.hid (HG.out.step hb)
              clear a1 a2 a3 lta b1 b2 b3 ltb
              replace K1 := Lib.hid ((K1.out.alloc _).below hb)
              replace K2 := Lib.hid ((K2.out.alloc _).below hb)
              clear hb
              obtain ⟨a1, a2, a3, -, -, -, lta⟩ := K1.out
              obtain ⟨b1, b2, b3, -, -, -, ltb⟩ := K2.out
              by_cases hd : bi ≠ 0 ∧ room (ai.tdiv bi) = true
              · exact absurd ⟨by simp, by simp, hd⟩ HQ.out
              · rw [show numA [nd 2 ai, nd 2 bi] (numR 6 (nd 2 ai) (nd 2 bi)) = (⟨0, 0, ⟨#[]⟩⟩, 4) by rw [div_ints, if_neg hd]]
                have hcs : bi = 0 ∨ (bi = -1 ∧ ai = -9223372036854775808) := by
                  by_cases hb : bi = 0
                  · exact .inl hb
                  · exact .inr (div_none ai bi HI.out.1 HI.out.2.1 hb (fun h => hd ⟨hb, h⟩))
                clear hd
                rcases hcs with rfl | ⟨rfl, rfl⟩
                all_goals
                  go_wp2_with fail
                  refine bodyPost_ret (v := .bool true) (by simp [results, Tryd.results6, go_sem] <;> assumption) rfl ⟨rfl, (HG.out.alloc _).b⟩
            · go_wp2_with fail
              refine bodyPost_ret (v := .bool true) (by simp [results, Tryd.results6, go_sem] <;> assumption) rfl ⟨rfl, (HG.out).b⟩
          · go_wp2_with fail
            refine bodyPost_ret (v := .bool true) (by simp [results, Tryd.results6, go_sem] <;> assumption) rfl ⟨rfl, (HG.out).b⟩
end Go.Proofs.YtidejjjedpdbeaaDoor

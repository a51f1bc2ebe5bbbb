/- The walk of DatumCompares, a part of the inputs: it answers true. -/
import Derived.Test.YtidejjjedpdbeaaDoorCompT
namespace Go.Proofs.YtidejjjedpdbeaaDoor
open Go.RowKit

set_option maxRecDepth 100000 in
set_option maxHeartbeats 8000000 in
theorem compares_null (ak ai bk bi : Int) (sa sb : ByteArray) (w : World) (hT : Tabs w) (hN : ak = 0 ∨ bk = 0) (i0 : -9223372036854775808 ≤ ai) (i1 : ai ≤ 9223372036854775807) (j0 : -9223372036854775808 ≤ bi) (j1 : bi ≤ 9223372036854775807) :
    Calls Tryd.prog 4 #[.agg #[.int .i64 ak, .int .i64 ai, .string sa], .agg #[.int .i64 bk, .int .i64 bi, .string sb]] w fun e w' => e = .returned (.bool true) ∧ Below w.heap.size w w' := by
  have HG := Lib.hid (Gd.refl hT)
  have HTW := Lib.hid hT
  have HI := Lib.hid (show -9223372036854775808 ≤ ai ∧ ai ≤ 9223372036854775807 from ⟨i0, i1⟩)
  have HJ := Lib.hid (show -9223372036854775808 ≤ bi ∧ bi ≤ 9223372036854775807 from ⟨j0, j1⟩)
  clear hT i0 i1 j0 j1
  go_enter Tryd.func4, Tryd.ntmps4
  go_wp2_with fail
  have K1 := Lib.hid ((Bx.at w w.heap.size rfl (.int .i64 ak) (.int .i64 ai) (.string sa) 24).alloc (.cells #[.int .i64 bk, .int .i64 bi, .string sb] 24))
  have K2 := Lib.hid (Bx.at (w.alloc (.cells #[.int .i64 ak, .int .i64 ai, .string sa] 24)) (w.heap.size + 1) (by simp) (.int .i64 bk) (.int .i64 bi) (.string sb) 24)
  replace HG := Lib.hid ((HG.out.alloc (.cells #[.int .i64 ak, .int .i64 ai, .string sa] 24)).alloc (.cells #[.int .i64 bk, .int .i64 bi, .string sb] 24))
  refine (refright_any _ _ _ _).mono ?_
  rintro e w1 ⟨rfl, hb1⟩
  replace HG := Lib.hid (HG.out.step hb1)
  replace K1 := Lib.hid (K1.out.below hb1)
  replace K2 := Lib.hid (K2.out.below hb1)
  clear hb1
  obtain ⟨a1, a2, a3, -, -, -, lta⟩ := K1.out
  obtain ⟨b1, b2, b3, -, -, -, ltb⟩ := K2.out
  generalize hra : rightD ⟨ak, ai, sa⟩ = ra
  have RA := Lib.hid hra
  clear hra
  cases ra
  · go_wp2_with fail
    refine bodyPost_ret (v := .bool true) (by simp [results, Tryd.results4, go_sem]) rfl ⟨rfl, HG.out.b⟩
  · go_wp2_with fail
    refine (refright_any _ _ _ _).mono ?_
    rintro e w2 ⟨rfl, hb1⟩
    replace HG := Lib.hid (HG.out.step hb1)
    replace K1 := Lib.hid (K1.out.below hb1)
    replace K2 := Lib.hid (K2.out.below hb1)
    clear hb1 a1 a2 a3 b1 b2 b3 lta ltb
    obtain ⟨a1, a2, a3, -, -, -, lta⟩ := K1.out
    obtain ⟨b1, b2, b3, -, -, -, ltb⟩ := K2.out
    generalize hrb : rightD ⟨bk, bi, sb⟩ = rb
    have RB := Lib.hid hrb
    clear hrb
    cases rb
    · go_wp2_with fail
      refine bodyPost_ret (v := .bool true) (by simp [results, Tryd.results4, go_sem]) rfl ⟨rfl, HG.out.b⟩
    · have G0 := Lib.hid (Gt.new w2 31)
      have HG' := Lib.hid (HG.out.alloc (.cells #[.bool false, .bool false, .bool false, .bool false, .bool false, .bool false] 31))
      have K1' := Lib.hid (K1.out.alloc (.cells #[.bool false, .bool false, .bool false, .bool false, .bool false, .bool false] 31))
      have K2' := Lib.hid (K2.out.alloc (.cells #[.bool false, .bool false, .bool false, .bool false, .bool false, .bool false] 31))
      clear HG K1 K2 a1 a2 a3 b1 b2 b3
      by_cases ha : ak = 0
      · have HZ := Lib.hid ha
        have hz : (ak == 0) = true := by simpa using ha
        clear hN ha
        go_wp2_with fail
        go_loopw [20] (fun i wr => ∃ k : Nat, k ≤ 6 ∧ i = .int .i64 k ∧ Gd w wr ∧ Bx wr w.heap.size (.int .i64 ak) (.int .i64 ai) (.string sa) ∧ Bx wr (w.heap.size + 1) (.int .i64 bk) (.int .i64 bi) (.string sb)) (fun i _ => 6 - (intOf i).toNat)
        case atStart => exact ⟨0, by omega, rfl, HG'.out, K1'.out, K2'.out⟩
        case round =>
          clear HG' K1' K2' G0
          obtain ⟨k, hk6, rfl, hg0, hk10, hk20⟩ := hrel
          have HG := Lib.hid hg0
          have K1 := Lib.hid hk10
          have K2 := Lib.hid hk20

          clear hg0 hk10 hk20
          obtain ⟨a1, a2, a3, -, -, -, lta⟩ := K1.out
          obtain ⟨b1, b2, b3, -, -, -, ltb⟩ := K2.out
          by_cases hlt : k < 6
          · have hzero : (0 : Int) ≤ k := by omega
            go_wp2_with fail
            replace HG := Lib.hid (HG.out.alloc (.cells #[.int .i64 ak, .int .i64 ai, .string sa, .int .i64 bk, .int .i64 bi, .string sb] 24))
            replace K1 := Lib.hid (K1.out.alloc (.cells #[.int .i64 ak, .int .i64 ai, .string sa, .int .i64 bk, .int .i64 bi, .string sb] 24))
            replace K2 := Lib.hid (K2.out.alloc (.cells #[.int .i64 ak, .int .i64 ai, .string sa, .int .i64 bk, .int .i64 bi, .string sb] 24))
            refine (apply_cmp (7 + k) ⟨ak, ai, sa⟩ ⟨bk, bi, sb⟩ wr.heap.size 0 _ _ (by simp) (args2 _ _ rfl _ _ _ _ _ _ _) HG.out.t RA.out RB.out (by omega) (by omega) HI.out.1 HI.out.2 HJ.out.1 HJ.out.2).mono ?_
            rintro e w3 ⟨rfl, hb⟩
            replace HG := Lib.hid (HG.out.step hb)
            replace K1 := Lib.hid (K1.out.below hb)
            replace K2 := Lib.hid (K2.out.below hb)
            clear hb a1 a2 a3 b1 b2 b3 lta ltb
            obtain ⟨a1, a2, a3, -, -, -, lta⟩ := K1.out
            obtain ⟨b1, b2, b3, -, -, -, ltb⟩ := K2.out
            rw [cmpR_null _ _ _ (.inl HZ.out)]
            go_wp2_with fail
            go_roundw
            case rel => exact ⟨k + 1, by omega, by go_num, HG.out.alloc _, K1.out.alloc _, K2.out.alloc _⟩
            case measure => simp [intOf]; omega
          · obtain rfl : k = 6 := by omega
            go_wp2_with fail
            refine bodyPost_ret (v := .bool true) (by simp [results, Tryd.results4, go_sem]) rfl ⟨rfl, HG.out.b⟩
      · have HZ := Lib.hid (hN.resolve_left ha)
        have hz : (bk == 0) = true := by simpa using HZ.out
        have ha2 : (ak == 0) = false := by simpa using ha
        clear hN ha
        go_wp2_with fail
        go_loopw [20] (fun i wr => ∃ k : Nat, k ≤ 6 ∧ i = .int .i64 k ∧ Gd w wr ∧ Bx wr w.heap.size (.int .i64 ak) (.int .i64 ai) (.string sa) ∧ Bx wr (w.heap.size + 1) (.int .i64 bk) (.int .i64 bi) (.string sb)) (fun i _ => 6 - (intOf i).toNat)
        case atStart => exact ⟨0, by omega, rfl, HG'.out, K1'.out, K2'.out⟩
        case round =>
          clear HG' K1' K2' G0
          obtain ⟨k, hk6, rfl, hg0, hk10, hk20⟩ := hrel
          have HG := Lib.hid hg0
          have K1 := Lib.hid hk10
          have K2 := Lib.hid hk20

          clear hg0 hk10 hk20
          obtain ⟨a1, a2, a3, -, -, -, lta⟩ := K1.out
          obtain ⟨b1, b2, b3, -, -, -, ltb⟩ := K2.out
          by_cases hlt : k < 6
          · have hzero : (0 : Int) ≤ k := by omega
            go_wp2_with fail
            replace HG := Lib.hid (HG.out.alloc (.cells #[.int .i64 ak, .int .i64 ai, .string sa, .int .i64 bk, .int .i64 bi, .string sb] 24))
            replace K1 := Lib.hid (K1.out.alloc (.cells #[.int .i64 ak, .int .i64 ai, .string sa, .int .i64 bk, .int .i64 bi, .string sb] 24))
            replace K2 := Lib.hid (K2.out.alloc (.cells #[.int .i64 ak, .int .i64 ai, .string sa, .int .i64 bk, .int .i64 bi, .string sb] 24))
            refine (apply_cmp (7 + k) ⟨ak, ai, sa⟩ ⟨bk, bi, sb⟩ wr.heap.size 0 _ _ (by simp) (args2 _ _ rfl _ _ _ _ _ _ _) HG.out.t RA.out RB.out (by omega) (by omega) HI.out.1 HI.out.2 HJ.out.1 HJ.out.2).mono ?_
            rintro e w3 ⟨rfl, hb⟩
            replace HG := Lib.hid (HG.out.step hb)
            replace K1 := Lib.hid (K1.out.below hb)
            replace K2 := Lib.hid (K2.out.below hb)
            clear hb a1 a2 a3 b1 b2 b3 lta ltb
            obtain ⟨a1, a2, a3, -, -, -, lta⟩ := K1.out
            obtain ⟨b1, b2, b3, -, -, -, ltb⟩ := K2.out
            rw [cmpR_null _ _ _ (.inr HZ.out)]
            go_wp2_with fail
            go_roundw
            case rel => exact ⟨k + 1, by omega, by go_num, HG.out.alloc _, K1.out.alloc _, K2.out.alloc _⟩
            case measure => simp [intOf]; omega
          · obtain rfl : k = 6 := by omega
            go_wp2_with fail
            refine bodyPost_ret (v := .bool true) (by simp [results, Tryd.results4, go_sem]) rfl ⟨rfl, HG.out.b⟩
end Go.Proofs.YtidejjjedpdbeaaDoor

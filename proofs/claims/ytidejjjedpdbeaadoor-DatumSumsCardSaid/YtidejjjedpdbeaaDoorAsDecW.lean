/- Contract of datum.asDec. -/
import Derived.Test.YtidejjjedpdbeaaDoorAsDec
import Derived.Test.YtidejjjedpdbeaaDoorKeep
namespace Go.Proofs.YtidejjjedpdbeaaDoor
open Go.RowKit

set_option maxHeartbeats 1000000 in
theorem asDec_any (dk di : Int) (ds : ByteArray) (w : World) (h0 : -9223372036854775808 ≤ di) (h1 : di < 9223372036854775808) :
    Calls Tryd.prog 50 #[.agg #[.int .i64 dk, .int .i64 di, .string ds]] w fun e w' => e = .returned (.tuple #[(asDecR ⟨dk, di, ds⟩).1.v, .bool (asDecR ⟨dk, di, ds⟩).2]) ∧ Below w.heap.size w w' := by
  have HT := Lib.hid (fun w => times_any di 10000 w h0 (by omega) (by omega) (by omega))
  have HO := Lib.hid (fun w => over_any (mulNeg di 10000) (di.natAbs * (10000 : Int).natAbs / 18446744073709551616) (di.natAbs * (10000 : Int).natAbs % 18446744073709551616) 1 w (Nat.mod_lt _ (by omega)) (by omega) (by omega))
  have HL := Lib.hid (decI_over di h0 h1)
  obtain ⟨hB, hz, c0⟩ := boxes1 w #[.int .i64 dk, .int .i64 di, .string ds] 24
  clear h0 h1
  by_cases hk : dk = 3
  · subst hk
    have HR := Lib.hid (show asDecR ⟨3, di, ds⟩ = (⟨3, di, ds⟩, true) from if_pos rfl)
    rw [HR.out]
    clear HR HT HO HL
    go_enter Tryd.func50, Tryd.ntmps50
    go_wp2_with fail
    obtain ⟨⟨b1, b2, b3⟩, ⟨f1, f2, f3⟩, hB2, hz2, c2⟩ := boxes2_res (w := w) (x := #[.int .i64 3, .int .i64 di, .string ds]) (a := .int .i64 0) (b := .int .i64 0) (c := .string ⟨#[]⟩) (t := 24) (u := 24) (Below.refl _ _)
    refine bodyPost_ret (v := .tuple #[.agg #[.int .i64 3, .int .i64 di, .string ds], .bool true]) (by simp [results, Tryd.results50, go_sem]) rfl ⟨rfl, ?_⟩
    repeat' (first | exact (boxes2 w _ _ _ _).1 | exact hB2 | refine Below.setCell ?_ ?_ _ | exact Nat.le_succ w.heap.size)
  · have hk2 : (dk == 3) = false := by simpa using hk
    have HR := Lib.hid (show asDecR ⟨dk, di, ds⟩ = (⟨3, (decI di).1, ⟨#[]⟩⟩, (decI di).2) from if_neg hk)
    rw [HR.out]
    clear HR
    have HO2 : Hid (∀ w : World, Calls Tryd.prog 53 #[.agg #[.bool (mulNeg di 10000), .int .u64 (mulHi di 10000), .int .u64 (mulLo di 10000)], .int .i64 1] w fun e w' => e = .returned (.tuple #[.int .i64 (decI di).1, .bool (decI di).2]) ∧ Below w.heap.size w w') := by
      intro w
      have := HO.out w
      rw [HL.out] at this
      exact this
    clear HO HL
    generalize mulNeg di 10000 = m at *
    generalize mulHi di 10000 = hi at *
    generalize mulLo di 10000 = lo at *
    generalize (decI di).1 = ri at *
    generalize (decI di).2 = rb at *
    go_enter Tryd.func50, Tryd.ntmps50
    go_wp2_with (first | (go_at_call 52; refine (HT.out _).mono ?_; rintro e w' ⟨rfl, hb'⟩))
    refine (HO2.out _).mono ?_
    rintro e w2 ⟨rfl, hb2⟩
    obtain ⟨⟨b1, b2, b3⟩, ⟨f1, f2, f3⟩, hB2, hz2, c2⟩ := boxes2_res (hb'.trans (hb2.mono hb'.size))
    have HB := Lib.hid hB2
    clear hB2 hb' hb2 hB hz c0 c2 HT HO2
    go_wp2_with fail
    refine bodyPost_ret (v := .tuple #[.agg #[.int .i64 3, .int .i64 ri, .string ⟨#[]⟩], .bool rb]) (by simp [results, Tryd.results50, go_sem, b1, b2, b3]) rfl ⟨rfl, ?_⟩
    repeat' (first | exact HB.out | refine Below.setCell ?_ ?_ _ | exact Nat.le_succ w.heap.size)
end Go.Proofs.YtidejjjedpdbeaaDoor

/- Contract of datum.Apply where its arguments may not be. -/
import Derived.Test.YtidejjjedpdbeaaDoorG03
import Derived.Test.YtidejjjedpdbeaaDoorG04
namespace Go.Proofs.YtidejjjedpdbeaaDoor
open Go.RowKit

set_option maxHeartbeats 1000000 in
theorem apply_count (op : Int) (p : Option Addr) (n cap : Nat) (w : World) (h : manyF op = 0 ∨ (n : Int) ≠ manyF op) :
    Calls Tryd.prog 9 #[.int .i64 op, .slice p n cap] w fun e w' => e = .returned (.tuple #[Dt.zero.v, .int .i64 1]) ∧ Below w.heap.size w w' := by
  by_cases h0 : manyF op = 0
  · have t0 : (manyF op == 0) = true := by simpa using h0
    clear h h0
    go_enter Tryd.func9, Tryd.ntmps9
    go_wp2_with (go_at_call 22; refine (many_any _ _).mono ?_; rintro e w' ⟨rfl, rfl⟩)
    refine bodyPost_ret (v := .tuple #[Dt.zero.v, .int .i64 1]) (by simp [results, Tryd.results9, go_sem, Dt.zero]) rfl ⟨rfl, ?_⟩
    exact (boxes1 w _ _).1
  · have t0 : (manyF op == 0) = false := by simpa using h0
    have t1 : ((n : Int) != manyF op) = true := by simpa using h.resolve_left h0
    clear h h0
    go_enter Tryd.func9, Tryd.ntmps9
    go_wp2_with (go_at_call 22; refine (many_any _ _).mono ?_; rintro e w' ⟨rfl, rfl⟩)
    refine bodyPost_ret (v := .tuple #[Dt.zero.v, .int .i64 1]) (by simp [results, Tryd.results9, go_sem, Dt.zero]) rfl ⟨rfl, ?_⟩
    exact (boxes1 w _ _).1

set_option maxHeartbeats 1000000 in
theorem apply_bad (op : Int) (ds : List Dt) (b o cap : Nat) (w : World) (hn : ds.length ≤ 1000) (hm : manyF op = ds.length) (h0 : 0 < ds.length) (hbk : b < w.heap.size) (hc : DCells w b o ds) (hT : Tabs w) (hbad : ∃ j, j < ds.length ∧ rightD (dnth ds j) = false) :
    Calls Tryd.prog 9 #[.int .i64 op, .slice (some ⟨b, o, none⟩) ds.length cap] w fun e w' => e = .returned (.tuple #[Dt.zero.v, .int .i64 1]) ∧ Below w.heap.size w w' := by
  have t0 : (manyF op == 0) = false := by rw [hm, beq_eq_false_iff_ne]; omega
  have t1 : ((ds.length : Int) != manyF op) = false := by rw [hm]; simp
  have Hc := Lib.hid hc
  have HT := Lib.hid hT
  have HX := Lib.hid hbad
  clear hc hT hbad hm
  generalize hl : ds.length = l at *
  have HL := Lib.hid hl
  clear hl
  go_enter Tryd.func9, Tryd.ntmps9
  go_wp2_with (go_at_call 22; refine (many_any _ _).mono ?_; rintro e w' ⟨rfl, rfl⟩)
  go_loopw [7, 23] (fun _ i wr => ∃ k : Nat, k ≤ l ∧ i = .int .i64 k ∧ Below (w.heap.size + 1) (w.alloc (.cells #[.int .i64 0, .int .i64 0, .string ⟨#[]⟩] 24)) wr ∧ ∀ j, j < k → rightD (dnth ds j) = true) (fun _ i _ => l - (intOf i).toNat)
  case atStart => exact ⟨0, Nat.zero_le _, rfl, Below.refl _ _, fun j hj => by omega⟩
  case round =>
    obtain ⟨k, hk, rfl, hbl, hall⟩ := hrel
    have HA := Lib.hid hall
    have hzw : w.heap.size < wr.heap.size := (box_new hbl).2.2.2
    have HB := Lib.hid (box_new hbl).2.2.1
    have HTr := Lib.hid (round_hyp HT.out Hc.out hbk hbl).1
    have Hcr := Lib.hid (round_hyp HT.out Hc.out hbk hbl).2.1
    have Hb := Lib.hid hbl
    clear hbl hall
    by_cases hlt : k < l
    · have hzero : (0 : Int) ≤ k := by omega
      obtain ⟨hc0, hc1, hc2⟩ := Hcr.out k (by rw [HL.out]; exact hlt)
      cases hrk : rightD (dnth ds k)
      · have Hrk := Lib.hid hrk
        clear hrk
        generalize dnth ds k = dd at *
        obtain ⟨dk, di, dst⟩ := dd
        dsimp only at hc0 hc1 hc2
        go_wp2_with fail
        refine (right_any _ _ _ _ (HTr.out.below ((Below.refl _ _).alloc (Nat.le_refl _) _))).mono ?_
        rintro e w2 ⟨rfl, hb2⟩
        have HR := Lib.hid ((Hb.out.alloc (by omega) _).trans (hb2.mono (by simp; omega)))
        clear hb2
        rw [Hrk.out]
        obtain ⟨⟨b1, b2, b3⟩, ⟨f1, f2, f3⟩, hB, hzw2⟩ := box_new HR.out
        have HB2 := Lib.hid hB
        clear hB
        go_wp2_with fail
        refine bodyPost_ret (v := .tuple #[Dt.zero.v, .int .i64 1]) (by simp [results, Tryd.results9, go_sem, b1, b2, b3, Dt.zero]) rfl ⟨rfl, ?_⟩
        exact ((HB2.out.setCell (Nat.le_refl _) _).setCell (Nat.le_refl _) _).setCell (Nat.le_refl _) _
      · have Hrk := Lib.hid hrk
        have HA2 : Hid (∀ j, j < k + 1 → rightD (dnth ds j) = true) := fun j hj => by
          rcases Nat.lt_succ_iff_lt_or_eq.1 hj with h | h
          · exact HA.out j h
          · rw [h]; exact hrk
        clear hrk
        generalize dnth ds k = dd at *
        obtain ⟨dk, di, dst⟩ := dd
        dsimp only at hc0 hc1 hc2
        go_wp2_with fail
        refine (right_any _ _ _ _ (HTr.out.below ((Below.refl _ _).alloc (Nat.le_refl _) _))).mono ?_
        rintro e w2 ⟨rfl, hb2⟩
        have HR := Lib.hid ((Hb.out.alloc (by omega) _).trans (hb2.mono (by simp; omega)))
        clear hb2
        rw [Hrk.out]
        go_wp2_with fail
        go_roundw
        case rel => exact ⟨k + 1, by omega, by go_num, HR.out, HA2.out⟩
        case measure => simp [intOf]; omega
    · exfalso
      obtain ⟨j, hj, hjr⟩ := HX.out
      have := HA.out j (by omega)
      rw [hjr] at this
      cases this
end Go.Proofs.YtidejjjedpdbeaaDoor

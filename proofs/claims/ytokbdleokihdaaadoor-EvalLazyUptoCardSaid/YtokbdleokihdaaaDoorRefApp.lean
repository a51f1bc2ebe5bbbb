/- The document's Apply. -/
import Derived.Test.YtokbdleokihdaaaDoorRefComp
import Derived.Test.YtokbdleokihdaaaDoorG16
import Derived.Test.YtokbdleokihdaaaDoorG05
namespace Go.Proofs.YtokbdleokihdaaaDoor
open Go.RowKit

theorem round_ref {w wr : World} {b o : Nat} {ds : List Dt} {x : Obj} (hc : DCells w b o ds) (hbk : b < w.heap.size) (hb : Below (w.heap.size + 1) (w.alloc x) wr) : DCells wr b o ds ∧ w.heap.size < wr.heap.size := by
  have h1 : Below w.heap.size w wr := ((Below.refl w.heap.size w).alloc (Nat.le_refl _) x).trans (hb.mono (by omega))
  have := hb.size
  rw [World.size_alloc] at this
  exact ⟨hc.below h1 hbk, by omega⟩

set_option maxHeartbeats 1000000 in
theorem refapply_count (op : Int) (p : Option Addr) (n cap : Nat) (w : World) (h : manyF op = 0 ∨ (n : Int) ≠ manyF op) :
    Calls Tryd.prog 30 #[.int .i64 op, .slice p n cap] w fun e w' => e = .returned (.tuple #[Dt.zero.v, .int .i64 1]) ∧ Below w.heap.size w w' := by
  by_cases h0 : manyF op = 0
  · have t0 : (manyF op == 0) = true := by simpa using h0
    clear h h0
    go_enter Tryd.func30, Tryd.ntmps30
    go_wp2_with (go_at_call 27; refine (refmany_any _ _).mono ?_; rintro e w' ⟨rfl, rfl⟩)
    refine bodyPost_ret (v := .tuple #[Dt.zero.v, .int .i64 1]) (by simp [results, Tryd.results30, go_sem, Dt.zero]) rfl ⟨rfl, ?_⟩
    exact (boxes1 w _ _).1
  · have t0 : (manyF op == 0) = false := by simpa using h0
    have t1 : ((n : Int) != manyF op) = true := by simpa using h.resolve_left h0
    clear h h0
    go_enter Tryd.func30, Tryd.ntmps30
    go_wp2_with (go_at_call 27; refine (refmany_any _ _).mono ?_; rintro e w' ⟨rfl, rfl⟩)
    refine bodyPost_ret (v := .tuple #[Dt.zero.v, .int .i64 1]) (by simp [results, Tryd.results30, go_sem, Dt.zero]) rfl ⟨rfl, ?_⟩
    exact (boxes1 w _ _).1

set_option maxHeartbeats 1000000 in
theorem refapply_bad (op : Int) (ds : List Dt) (b o cap : Nat) (w : World) (hn : ds.length ≤ 1000) (hm : manyF op = ds.length) (h0 : 0 < ds.length) (hbk : b < w.heap.size) (hc : DCells w b o ds) (hbad : ∃ j, j < ds.length ∧ rightD (dnth ds j) = false) :
    Calls Tryd.prog 30 #[.int .i64 op, .slice (some ⟨b, o, none⟩) ds.length cap] w fun e w' => e = .returned (.tuple #[Dt.zero.v, .int .i64 1]) ∧ Below w.heap.size w w' := by
  have t0 : (manyF op == 0) = false := by rw [hm, beq_eq_false_iff_ne]; omega
  have t1 : ((ds.length : Int) != manyF op) = false := by rw [hm]; simp
  have Hc := Lib.hid hc
  have HX := Lib.hid hbad
  clear hc hbad hm
  generalize hl : ds.length = l at *
  have HL := Lib.hid hl
  clear hl
  go_enter Tryd.func30, Tryd.ntmps30
  go_wp2_with (go_at_call 27; refine (refmany_any _ _).mono ?_; rintro e w' ⟨rfl, rfl⟩)
  go_loopw [7, 21] (fun _ i wr => ∃ k : Nat, k ≤ l ∧ i = .int .i64 k ∧ Below (w.heap.size + 1) (w.alloc (.cells #[.int .i64 0, .int .i64 0, .string ⟨#[]⟩] 23)) wr ∧ ∀ j, j < k → rightD (dnth ds j) = true) (fun _ i _ => l - (intOf i).toNat)
  case atStart => exact ⟨0, Nat.zero_le _, rfl, Below.refl _ _, fun j hj => by omega⟩
  case round =>
    obtain ⟨k, hk, rfl, hbl, hall⟩ := hrel
    have HA := Lib.hid hall
    have hzw : w.heap.size < wr.heap.size := (box_new hbl).2.2.2
    have HB := Lib.hid (box_new hbl).2.2.1
    have Hcr := Lib.hid (round_ref Hc.out hbk hbl).1
    have Hb := Lib.hid hbl
    clear hbl hall
    by_cases hlt : k < l
    · have hzero : (0 : Int) ≤ k := by omega
      obtain ⟨hc0, hc1, hc2⟩ := Hcr.out k (by rw [HL.out]; exact hlt)
      cases hrk : rightD (dnth ds k)
      · have Hrk := Lib.hid hrk
        clear hrk
        generalize dnth ds k = dd at *
        obtain ⟨dk, di, dst⟩ := dd
        dsimp only at hc0 hc1 hc2
        go_wp2_with fail
        refine (refright_any _ _ _ _).mono ?_
        rintro e w2 ⟨rfl, hb2⟩
        have HR := Lib.hid ((Hb.out.alloc (by omega) _).trans (hb2.mono (by simp; omega)))
        clear hb2
        rw [Hrk.out]
        obtain ⟨⟨b1, b2, b3⟩, ⟨f1, f2, f3⟩, hB, hzw2⟩ := box_new HR.out
        have HB2 := Lib.hid hB
        clear hB
        go_wp2_with fail
        refine bodyPost_ret (v := .tuple #[Dt.zero.v, .int .i64 1]) (by simp [results, Tryd.results30, go_sem, b1, b2, b3, Dt.zero]) rfl ⟨rfl, ?_⟩
        exact ((HB2.out.setCell (Nat.le_refl _) _).setCell (Nat.le_refl _) _).setCell (Nat.le_refl _) _
      · have Hrk := Lib.hid hrk
        have HA2 : Hid (∀ j, j < k + 1 → rightD (dnth ds j) = true) := fun j hj => by
          rcases Nat.lt_succ_iff_lt_or_eq.1 hj with h | h
          · exact HA.out j h
          · rw [h]; exact hrk
        clear hrk
        generalize dnth ds k = dd at *
        obtain ⟨dk, di, dst⟩ := dd
        dsimp only at hc0 hc1 hc2
        go_wp2_with fail
        refine (refright_any _ _ _ _).mono ?_
        rintro e w2 ⟨rfl, hb2⟩
        have HR := Lib.hid ((Hb.out.alloc (by omega) _).trans (hb2.mono (by simp; omega)))
        clear hb2
        rw [Hrk.out]
        go_wp2_with fail
        go_roundw
        case rel => exact ⟨k + 1, by omega, by go_num, HR.out, HA2.out⟩
        case measure => simp [intOf]; omega
    · exfalso
      obtain ⟨j, hj, hjr⟩ := HX.out
      have := HA.out j (by omega)
      rw [hjr] at this
      cases this

set_option maxHeartbeats 2000000 in
theorem refapply_logic (op : Int) (ds : List Dt) (b o cap : Nat) (w : World) (hn : ds.length ≤ 1000) (hm : manyF op = ds.length) (h0 : 0 < ds.length) (hbk : b < w.heap.size) (hc : DCells w b o ds) (hr : ∀ j, j < ds.length → rightD (dnth ds j) = true) (hop : op = 2 ∨ op = 13 ∨ op = 14) (tk ti : Int) (ts : ByteArray) (te : Int) (HS : ∀ W, Below w.heap.size w W → Calls Tryd.prog 40 #[.int .i64 op, .slice (some ⟨b, o, none⟩) ds.length cap] W fun e w' => e = .returned (.tuple #[.agg #[.int .i64 tk, .int .i64 ti, .string ts], .int .i64 te]) ∧ Below W.heap.size W w') :
    Calls Tryd.prog 30 #[.int .i64 op, .slice (some ⟨b, o, none⟩) ds.length cap] w fun e w' => e = .returned (.tuple #[.agg #[.int .i64 tk, .int .i64 ti, .string ts], .int .i64 te]) ∧ Below w.heap.size w w' := by
  have t0 : (manyF op == 0) = false := by rw [hm, beq_eq_false_iff_ne]; omega
  have t1 : ((ds.length : Int) != manyF op) = false := by rw [hm]; simp
  have Hc := Lib.hid hc
  have Hr := Lib.hid hr
  have HS := Lib.hid HS
  have t15n : (op == 15) = false := by simp; omega

  clear hc hr hm
  generalize hl : ds.length = l at *
  have HL := Lib.hid hl
  clear hl
  go_enter Tryd.func30, Tryd.ntmps30
  go_wp2_with (go_at_call 27; refine (refmany_any _ _).mono ?_; rintro e w' ⟨rfl, rfl⟩)
  go_loopw [7, 21] (fun _ i wr => ∃ k : Nat, k ≤ l ∧ i = .int .i64 k ∧ Below (w.heap.size + 1) (w.alloc (.cells #[.int .i64 0, .int .i64 0, .string ⟨#[]⟩] 23)) wr) (fun _ i _ => l - (intOf i).toNat)
  case atStart => exact ⟨0, Nat.zero_le _, rfl, Below.refl _ _⟩
  case round =>
    obtain ⟨k, hk, rfl, hbl⟩ := hrel
    have hzw : w.heap.size < wr.heap.size := (box_new hbl).2.2.2
    have HB := Lib.hid (box_new hbl).2.2.1
    have Hcr := Lib.hid (round_ref Hc.out hbk hbl).1
    have Hb := Lib.hid hbl
    clear hbl
    by_cases hlt : k < l
    · have hzero : (0 : Int) ≤ k := by omega
      obtain ⟨hc0, hc1, hc2⟩ := Hcr.out k (by rw [HL.out]; exact hlt)
      have Hrk := Lib.hid (Hr.out k hlt)
      generalize dnth ds k = dd at *
      obtain ⟨dk, di, dst⟩ := dd
      dsimp only at hc0 hc1 hc2
      go_wp2_with fail
      refine (refright_any _ _ _ _).mono ?_
      rintro e w2 ⟨rfl, hb2⟩
      have HR := Lib.hid ((Hb.out.alloc (by omega) _).trans (hb2.mono (by simp; omega)))
      clear hb2
      rw [Hrk.out]
      go_wp2_with fail
      go_roundw
      case rel => exact ⟨k + 1, by omega, by go_num, HR.out⟩
      case measure => simp [intOf]; omega
    · obtain rfl : k = l := by omega
      clear Hc
      obtain ⟨⟨b1, b2, b3⟩, ⟨f1, f2, f3⟩, hB, hzw2⟩ := box_new Hb.out
      clear hB
      rcases hop with rfl | rfl | rfl
      all_goals
        go_wp2_with fail
        refine (HS.out _ HB.out).mono ?_
        rintro e w3 ⟨rfl, hb⟩
        have HW := Lib.hid (HB.out.trans (hb.mono (by omega)))
        obtain ⟨r0, r1, r2, h0', h1', h2', hl'⟩ := (Bx.mk b1 b2 b3 f1 f2 f3 hzw2).below hb
        clear hb
        go_wp2_with fail
        refine bodyPost_ret (v := .tuple #[.agg #[.int .i64 tk, .int .i64 ti, .string ts], .int .i64 te]) (by simp [results, Tryd.results30, go_sem, r0, r1, r2]) rfl ⟨rfl, ?_⟩
        exact ((HW.out.setCell (p := ⟨w.heap.size, 0, none⟩) (Nat.le_refl _) _).setCell (p := ⟨w.heap.size, 1, none⟩) (Nat.le_refl _) _).setCell (p := ⟨w.heap.size, 2, none⟩) (Nat.le_refl _) _

set_option maxHeartbeats 2000000 in
theorem refapply_cmp (op : Int) (ds : List Dt) (b o cap : Nat) (w : World) (hn : ds.length ≤ 1000) (hm : manyF op = ds.length) (h0 : 0 < ds.length) (hbk : b < w.heap.size) (hc : DCells w b o ds) (hr : ∀ j, j < ds.length → rightD (dnth ds j) = true) (h7 : 7 ≤ op) (h12 : op ≤ 12) (tk ti : Int) (ts : ByteArray) (te : Int) (HS : ∀ W, Below w.heap.size w W → Calls Tryd.prog 42 #[.int .i64 op, .slice (some ⟨b, o, none⟩) ds.length cap] W fun e w' => e = .returned (.tuple #[.agg #[.int .i64 tk, .int .i64 ti, .string ts], .int .i64 te]) ∧ Below W.heap.size W w') :
    Calls Tryd.prog 30 #[.int .i64 op, .slice (some ⟨b, o, none⟩) ds.length cap] w fun e w' => e = .returned (.tuple #[.agg #[.int .i64 tk, .int .i64 ti, .string ts], .int .i64 te]) ∧ Below w.heap.size w w' := by
  have t0 : (manyF op == 0) = false := by rw [hm, beq_eq_false_iff_ne]; omega
  have t1 : ((ds.length : Int) != manyF op) = false := by rw [hm]; simp
  have Hc := Lib.hid hc
  have Hr := Lib.hid hr
  have HS := Lib.hid HS
  have t15n : (op == 15) = false := by simp; omega
  have t2n : (op == 2) = false := by simp; omega
  have t13n : (op == 13) = false := by simp; omega
  have t14n : (op == 14) = false := by simp; omega
  have t18n : (op == 18) = false := by simp; omega

  clear hc hr hm
  generalize hl : ds.length = l at *
  have HL := Lib.hid hl
  clear hl
  go_enter Tryd.func30, Tryd.ntmps30
  go_wp2_with (go_at_call 27; refine (refmany_any _ _).mono ?_; rintro e w' ⟨rfl, rfl⟩)
  go_loopw [7, 21] (fun _ i wr => ∃ k : Nat, k ≤ l ∧ i = .int .i64 k ∧ Below (w.heap.size + 1) (w.alloc (.cells #[.int .i64 0, .int .i64 0, .string ⟨#[]⟩] 23)) wr) (fun _ i _ => l - (intOf i).toNat)
  case atStart => exact ⟨0, Nat.zero_le _, rfl, Below.refl _ _⟩
  case round =>
    obtain ⟨k, hk, rfl, hbl⟩ := hrel
    have hzw : w.heap.size < wr.heap.size := (box_new hbl).2.2.2
    have HB := Lib.hid (box_new hbl).2.2.1
    have Hcr := Lib.hid (round_ref Hc.out hbk hbl).1
    have Hb := Lib.hid hbl
    clear hbl
    by_cases hlt : k < l
    · have hzero : (0 : Int) ≤ k := by omega
      obtain ⟨hc0, hc1, hc2⟩ := Hcr.out k (by rw [HL.out]; exact hlt)
      have Hrk := Lib.hid (Hr.out k hlt)
      generalize dnth ds k = dd at *
      obtain ⟨dk, di, dst⟩ := dd
      dsimp only at hc0 hc1 hc2
      go_wp2_with fail
      refine (refright_any _ _ _ _).mono ?_
      rintro e w2 ⟨rfl, hb2⟩
      have HR := Lib.hid ((Hb.out.alloc (by omega) _).trans (hb2.mono (by simp; omega)))
      clear hb2
      rw [Hrk.out]
      go_wp2_with fail
      go_roundw
      case rel => exact ⟨k + 1, by omega, by go_num, HR.out⟩
      case measure => simp [intOf]; omega
    · obtain rfl : k = l := by omega
      clear Hc
      obtain ⟨⟨b1, b2, b3⟩, ⟨f1, f2, f3⟩, hB, hzw2⟩ := box_new Hb.out
      clear hB
      rcases (by omega : op = 7 ∨ op = 8 ∨ op = 9 ∨ op = 10 ∨ op = 11 ∨ op = 12) with rfl | rfl | rfl | rfl | rfl | rfl
      all_goals
        go_wp2_with fail
        refine (HS.out _ HB.out).mono ?_
        rintro e w3 ⟨rfl, hb⟩
        have HW := Lib.hid (HB.out.trans (hb.mono (by omega)))
        obtain ⟨r0, r1, r2, h0', h1', h2', hl'⟩ := (Bx.mk b1 b2 b3 f1 f2 f3 hzw2).below hb
        clear hb
        go_wp2_with fail
        refine bodyPost_ret (v := .tuple #[.agg #[.int .i64 tk, .int .i64 ti, .string ts], .int .i64 te]) (by simp [results, Tryd.results30, go_sem, r0, r1, r2]) rfl ⟨rfl, ?_⟩
        exact ((HW.out.setCell (p := ⟨w.heap.size, 0, none⟩) (Nat.le_refl _) _).setCell (p := ⟨w.heap.size, 1, none⟩) (Nat.le_refl _) _).setCell (p := ⟨w.heap.size, 2, none⟩) (Nat.le_refl _) _

set_option maxHeartbeats 2000000 in
theorem refapply_ar (op : Int) (ds : List Dt) (b o cap : Nat) (w : World) (hn : ds.length ≤ 1000) (hm : manyF op = ds.length) (h0 : 0 < ds.length) (hbk : b < w.heap.size) (hc : DCells w b o ds) (hr : ∀ j, j < ds.length → rightD (dnth ds j) = true) (hop : op = 1 ∨ op = 19 ∨ op = 20 ∨ op = 3 ∨ op = 4 ∨ op = 5 ∨ op = 6) (hall : ds.all (onlyF 2 3) = true) (tk ti : Int) (ts : ByteArray) (te : Int) (HS : ∀ W, Below w.heap.size w W → Calls Tryd.prog 44 #[.int .i64 op, .slice (some ⟨b, o, none⟩) ds.length cap] W fun e w' => e = .returned (.tuple #[.agg #[.int .i64 tk, .int .i64 ti, .string ts], .int .i64 te]) ∧ Below W.heap.size W w') :
    Calls Tryd.prog 30 #[.int .i64 op, .slice (some ⟨b, o, none⟩) ds.length cap] w fun e w' => e = .returned (.tuple #[.agg #[.int .i64 tk, .int .i64 ti, .string ts], .int .i64 te]) ∧ Below w.heap.size w w' := by
  have t0 : (manyF op == 0) = false := by rw [hm, beq_eq_false_iff_ne]; omega
  have t1 : ((ds.length : Int) != manyF op) = false := by rw [hm]; simp
  have Hc := Lib.hid hc
  have Hr := Lib.hid hr
  have HS := Lib.hid HS
  have HAl := Lib.hid hall
  have HO := Lib.hid (fun (W : World) (hW : Below w.heap.size w W) => refonly_any ds b o cap 2 3 W hn (by have := hW.size; omega) (hc.below hW hbk))
  have t15n : (op == 15) = false := by simp; omega
  have t2n : (op == 2) = false := by simp; omega
  have t13n : (op == 13) = false := by simp; omega
  have t14n : (op == 14) = false := by simp; omega
  have t18n : (op == 18) = false := by simp; omega
  have t7n : (op == 7) = false := by simp; omega
  have t8n : (op == 8) = false := by simp; omega
  have t9n : (op == 9) = false := by simp; omega
  have t10n : (op == 10) = false := by simp; omega
  have t11n : (op == 11) = false := by simp; omega
  have t12n : (op == 12) = false := by simp; omega
  clear hop hall

  clear hc hr hm
  generalize hl : ds.length = l at *
  have HL := Lib.hid hl
  clear hl
  go_enter Tryd.func30, Tryd.ntmps30
  go_wp2_with (go_at_call 27; refine (refmany_any _ _).mono ?_; rintro e w' ⟨rfl, rfl⟩)
  go_loopw [7, 21] (fun _ i wr => ∃ k : Nat, k ≤ l ∧ i = .int .i64 k ∧ Below (w.heap.size + 1) (w.alloc (.cells #[.int .i64 0, .int .i64 0, .string ⟨#[]⟩] 23)) wr) (fun _ i _ => l - (intOf i).toNat)
  case atStart => exact ⟨0, Nat.zero_le _, rfl, Below.refl _ _⟩
  case round =>
    obtain ⟨k, hk, rfl, hbl⟩ := hrel
    have hzw : w.heap.size < wr.heap.size := (box_new hbl).2.2.2
    have HB := Lib.hid (box_new hbl).2.2.1
    have Hcr := Lib.hid (round_ref Hc.out hbk hbl).1
    have Hb := Lib.hid hbl
    clear hbl
    by_cases hlt : k < l
    · have hzero : (0 : Int) ≤ k := by omega
      obtain ⟨hc0, hc1, hc2⟩ := Hcr.out k (by rw [HL.out]; exact hlt)
      have Hrk := Lib.hid (Hr.out k hlt)
      generalize dnth ds k = dd at *
      obtain ⟨dk, di, dst⟩ := dd
      dsimp only at hc0 hc1 hc2
      go_wp2_with fail
      refine (refright_any _ _ _ _).mono ?_
      rintro e w2 ⟨rfl, hb2⟩
      have HR := Lib.hid ((Hb.out.alloc (by omega) _).trans (hb2.mono (by simp; omega)))
      clear hb2
      rw [Hrk.out]
      go_wp2_with fail
      go_roundw
      case rel => exact ⟨k + 1, by omega, by go_num, HR.out⟩
      case measure => simp [intOf]; omega
    · obtain rfl : k = l := by omega
      clear Hc
      obtain ⟨⟨b1, b2, b3⟩, ⟨f1, f2, f3⟩, hB, hzw2⟩ := box_new Hb.out
      clear hB
      go_wp2_with fail
      refine (HO.out _ HB.out).mono ?_
      rintro e w5 ⟨rfl, hb⟩
      rw [HAl.out]
      replace HB := Lib.hid (HB.out.trans (hb.mono (by omega)))
      obtain ⟨b1, b2, b3, f1, f2, f3, hzw2⟩ := (Bx.mk b1 b2 b3 f1 f2 f3 hzw2).below hb
      clear hb
      go_wp2_with fail
      refine (HS.out _ HB.out).mono ?_
      rintro e w3 ⟨rfl, hb⟩
      have HW := Lib.hid (HB.out.trans (hb.mono (by omega)))
      obtain ⟨r0, r1, r2, h0', h1', h2', hl'⟩ := (Bx.mk b1 b2 b3 f1 f2 f3 hzw2).below hb
      clear hb
      go_wp2_with fail
      refine bodyPost_ret (v := .tuple #[.agg #[.int .i64 tk, .int .i64 ti, .string ts], .int .i64 te]) (by simp [results, Tryd.results30, go_sem, r0, r1, r2]) rfl ⟨rfl, ?_⟩
      exact ((HW.out.setCell (p := ⟨w.heap.size, 0, none⟩) (Nat.le_refl _) _).setCell (p := ⟨w.heap.size, 1, none⟩) (Nat.le_refl _) _).setCell (p := ⟨w.heap.size, 2, none⟩) (Nat.le_refl _) _

set_option maxHeartbeats 2000000 in
theorem refapply_type (op : Int) (ds : List Dt) (b o cap : Nat) (w : World) (hn : ds.length ≤ 1000) (hm : manyF op = ds.length) (h0 : 0 < ds.length) (hbk : b < w.heap.size) (hc : DCells w b o ds) (hr : ∀ j, j < ds.length → rightD (dnth ds j) = true) (hop : op = 1 ∨ op = 19 ∨ op = 20 ∨ op = 3 ∨ op = 4 ∨ op = 5 ∨ op = 6) (hall : ds.all (onlyF 2 3) = false)  :
    Calls Tryd.prog 30 #[.int .i64 op, .slice (some ⟨b, o, none⟩) ds.length cap] w fun e w' => e = .returned (.tuple #[Dt.zero.v, .int .i64 5]) ∧ Below w.heap.size w w' := by
  have t0 : (manyF op == 0) = false := by rw [hm, beq_eq_false_iff_ne]; omega
  have t1 : ((ds.length : Int) != manyF op) = false := by rw [hm]; simp
  have Hc := Lib.hid hc
  have Hr := Lib.hid hr
  have HAl := Lib.hid hall
  have HO := Lib.hid (fun (W : World) (hW : Below w.heap.size w W) => refonly_any ds b o cap 2 3 W hn (by have := hW.size; omega) (hc.below hW hbk))
  have t15n : (op == 15) = false := by simp; omega
  have t2n : (op == 2) = false := by simp; omega
  have t13n : (op == 13) = false := by simp; omega
  have t14n : (op == 14) = false := by simp; omega
  have t18n : (op == 18) = false := by simp; omega
  have t7n : (op == 7) = false := by simp; omega
  have t8n : (op == 8) = false := by simp; omega
  have t9n : (op == 9) = false := by simp; omega
  have t10n : (op == 10) = false := by simp; omega
  have t11n : (op == 11) = false := by simp; omega
  have t12n : (op == 12) = false := by simp; omega
  clear hop hall

  clear hc hr hm
  generalize hl : ds.length = l at *
  have HL := Lib.hid hl
  clear hl
  go_enter Tryd.func30, Tryd.ntmps30
  go_wp2_with (go_at_call 27; refine (refmany_any _ _).mono ?_; rintro e w' ⟨rfl, rfl⟩)
  go_loopw [7, 21] (fun _ i wr => ∃ k : Nat, k ≤ l ∧ i = .int .i64 k ∧ Below (w.heap.size + 1) (w.alloc (.cells #[.int .i64 0, .int .i64 0, .string ⟨#[]⟩] 23)) wr) (fun _ i _ => l - (intOf i).toNat)
  case atStart => exact ⟨0, Nat.zero_le _, rfl, Below.refl _ _⟩
  case round =>
    obtain ⟨k, hk, rfl, hbl⟩ := hrel
    have hzw : w.heap.size < wr.heap.size := (box_new hbl).2.2.2
    have HB := Lib.hid (box_new hbl).2.2.1
    have Hcr := Lib.hid (round_ref Hc.out hbk hbl).1
    have Hb := Lib.hid hbl
    clear hbl
    by_cases hlt : k < l
    · have hzero : (0 : Int) ≤ k := by omega
      obtain ⟨hc0, hc1, hc2⟩ := Hcr.out k (by rw [HL.out]; exact hlt)
      have Hrk := Lib.hid (Hr.out k hlt)
      generalize dnth ds k = dd at *
      obtain ⟨dk, di, dst⟩ := dd
      dsimp only at hc0 hc1 hc2
      go_wp2_with fail
      refine (refright_any _ _ _ _).mono ?_
      rintro e w2 ⟨rfl, hb2⟩
      have HR := Lib.hid ((Hb.out.alloc (by omega) _).trans (hb2.mono (by simp; omega)))
      clear hb2
      rw [Hrk.out]
      go_wp2_with fail
      go_roundw
      case rel => exact ⟨k + 1, by omega, by go_num, HR.out⟩
      case measure => simp [intOf]; omega
    · obtain rfl : k = l := by omega
      clear Hc
      obtain ⟨⟨b1, b2, b3⟩, ⟨f1, f2, f3⟩, hB, hzw2⟩ := box_new Hb.out
      clear hB
      go_wp2_with fail
      refine (HO.out _ HB.out).mono ?_
      rintro e w3 ⟨rfl, hb⟩
      rw [HAl.out]
      have HW := Lib.hid (HB.out.trans (hb.mono (by omega)))
      obtain ⟨r0, r1, r2, h0', h1', h2', hl'⟩ := (Bx.mk b1 b2 b3 f1 f2 f3 hzw2).below hb
      clear hb
      go_wp2_with fail
      refine bodyPost_ret (v := .tuple #[Dt.zero.v, .int .i64 5]) (by simp [results, Tryd.results30, go_sem, r0, r1, r2, Dt.zero]) rfl ⟨rfl, ?_⟩
      exact ((HW.out.setCell (p := ⟨w.heap.size, 0, none⟩) (Nat.le_refl _) _).setCell (p := ⟨w.heap.size, 1, none⟩) (Nat.le_refl _) _).setCell (p := ⟨w.heap.size, 2, none⟩) (Nat.le_refl _) _

set_option maxHeartbeats 2000000 in
theorem refapply_null (op : Int) (ds : List Dt) (b o cap : Nat) (w : World) (hn : ds.length ≤ 1000) (hm : manyF op = ds.length) (h0 : 0 < ds.length) (hbk : b < w.heap.size) (hc : DCells w b o ds) (hr : ∀ j, j < ds.length → rightD (dnth ds j) = true) (ak ai : Int) (sa : ByteArray) (hd : dnth ds 0 = ⟨ak, ai, sa⟩) (hop : op = 15)  :
    Calls Tryd.prog 30 #[.int .i64 op, .slice (some ⟨b, o, none⟩) ds.length cap] w fun e w' => e = .returned (.tuple #[(truthD (ak == 0)).v, .int .i64 0]) ∧ Below w.heap.size w w' := by
  have t0 : (manyF op == 0) = false := by rw [hm, beq_eq_false_iff_ne]; omega
  have t1 : ((ds.length : Int) != manyF op) = false := by rw [hm]; simp
  have Hc := Lib.hid hc
  have Hr := Lib.hid hr
  have HD := Lib.hid hd
  have t15 : (op == 15) = true := by simp; omega
  clear hd hop

  clear hc hr hm
  generalize hl : ds.length = l at *
  have HL := Lib.hid hl
  clear hl
  go_enter Tryd.func30, Tryd.ntmps30
  go_wp2_with (go_at_call 27; refine (refmany_any _ _).mono ?_; rintro e w' ⟨rfl, rfl⟩)
  go_loopw [7, 21] (fun _ i wr => ∃ k : Nat, k ≤ l ∧ i = .int .i64 k ∧ Below (w.heap.size + 1) (w.alloc (.cells #[.int .i64 0, .int .i64 0, .string ⟨#[]⟩] 23)) wr) (fun _ i _ => l - (intOf i).toNat)
  case atStart => exact ⟨0, Nat.zero_le _, rfl, Below.refl _ _⟩
  case round =>
    obtain ⟨k, hk, rfl, hbl⟩ := hrel
    have hzw : w.heap.size < wr.heap.size := (box_new hbl).2.2.2
    have HB := Lib.hid (box_new hbl).2.2.1
    have Hcr := Lib.hid (round_ref Hc.out hbk hbl).1
    have Hb := Lib.hid hbl
    clear hbl
    by_cases hlt : k < l
    · have hzero : (0 : Int) ≤ k := by omega
      obtain ⟨hc0, hc1, hc2⟩ := Hcr.out k (by rw [HL.out]; exact hlt)
      have Hrk := Lib.hid (Hr.out k hlt)
      generalize dnth ds k = dd at *
      obtain ⟨dk, di, dst⟩ := dd
      dsimp only at hc0 hc1 hc2
      go_wp2_with fail
      refine (refright_any _ _ _ _).mono ?_
      rintro e w2 ⟨rfl, hb2⟩
      have HR := Lib.hid ((Hb.out.alloc (by omega) _).trans (hb2.mono (by simp; omega)))
      clear hb2
      rw [Hrk.out]
      go_wp2_with fail
      go_roundw
      case rel => exact ⟨k + 1, by omega, by go_num, HR.out⟩
      case measure => simp [intOf]; omega
    · obtain rfl : k = l := by omega
      clear Hc
      obtain ⟨⟨b1, b2, b3⟩, ⟨f1, f2, f3⟩, hB, hzw2⟩ := box_new Hb.out
      clear hB
      have e0 := Hcr.out 0 (by rw [HL.out]; exact h0)
      rw [HD.out] at e0
      simp only [Nat.zero_mul, Nat.add_zero] at e0
      obtain ⟨e0, e1, e2⟩ := e0
      have h0i : (0 : Int) < (k : Int) := by omega
      go_wp2_with fail
      refine (bool_form _ _).mono ?_
      rintro e w3 ⟨ti, ht, rfl, hb⟩
      have HTI := Lib.hid ht
      have HW := Lib.hid (HB.out.trans (hb.mono (by omega)))
      obtain ⟨r0, r1, r2, h0', h1', h2', hl'⟩ := (Bx.mk b1 b2 b3 f1 f2 f3 hzw2).below hb
      clear hb ht
      go_wp2_with fail
      refine bodyPost_ret (v := .tuple #[.agg #[.int .i64 1, .int .i64 ti, .string ⟨#[]⟩], .int .i64 0]) (by simp [results, Tryd.results30, go_sem, r0, r1, r2]) rfl ⟨congrArg (fun d : Dt => Ending.returned (.tuple #[d.v, .int .i64 0])) HTI.out, ?_⟩
      exact ((HW.out.setCell (p := ⟨w.heap.size, 0, none⟩) (Nat.le_refl _) _).setCell (p := ⟨w.heap.size, 1, none⟩) (Nat.le_refl _) _).setCell (p := ⟨w.heap.size, 2, none⟩) (Nat.le_refl _) _

set_option maxHeartbeats 2000000 in
theorem refapply_len (op : Int) (ds : List Dt) (b o cap : Nat) (w : World) (hn : ds.length ≤ 1000) (hm : manyF op = ds.length) (h0 : 0 < ds.length) (hbk : b < w.heap.size) (hc : DCells w b o ds) (hr : ∀ j, j < ds.length → rightD (dnth ds j) = true) (ak ai : Int) (sa : ByteArray) (hd : dnth ds 0 = ⟨ak, ai, sa⟩) (hop : op = 18)  :
    Calls Tryd.prog 30 #[.int .i64 op, .slice (some ⟨b, o, none⟩) ds.length cap] w fun e w' => e = .returned (.tuple #[(lenR ⟨ak, ai, sa⟩).1.v, .int .i64 (lenR ⟨ak, ai, sa⟩).2]) ∧ Below w.heap.size w w' := by
  have t0 : (manyF op == 0) = false := by rw [hm, beq_eq_false_iff_ne]; omega
  have t1 : ((ds.length : Int) != manyF op) = false := by rw [hm]; simp
  have Hc := Lib.hid hc
  have Hr := Lib.hid hr
  have HD := Lib.hid hd
  have HS := Lib.hid (fun W => reflen_any ⟨ak, ai, sa⟩ W (by rw [← hd]; exact hr 0 h0))
  have t18 : (op == 18) = true := by simp; omega
  have t15n : (op == 15) = false := by simp; omega
  have t2n : (op == 2) = false := by simp; omega
  have t13n : (op == 13) = false := by simp; omega
  have t14n : (op == 14) = false := by simp; omega
  clear hd hop

  clear hc hr hm
  generalize hl : ds.length = l at *
  have HL := Lib.hid hl
  clear hl
  go_enter Tryd.func30, Tryd.ntmps30
  go_wp2_with (go_at_call 27; refine (refmany_any _ _).mono ?_; rintro e w' ⟨rfl, rfl⟩)
  go_loopw [7, 21] (fun _ i wr => ∃ k : Nat, k ≤ l ∧ i = .int .i64 k ∧ Below (w.heap.size + 1) (w.alloc (.cells #[.int .i64 0, .int .i64 0, .string ⟨#[]⟩] 23)) wr) (fun _ i _ => l - (intOf i).toNat)
  case atStart => exact ⟨0, Nat.zero_le _, rfl, Below.refl _ _⟩
  case round =>
    obtain ⟨k, hk, rfl, hbl⟩ := hrel
    have hzw : w.heap.size < wr.heap.size := (box_new hbl).2.2.2
    have HB := Lib.hid (box_new hbl).2.2.1
    have Hcr := Lib.hid (round_ref Hc.out hbk hbl).1
    have Hb := Lib.hid hbl
    clear hbl
    by_cases hlt : k < l
    · have hzero : (0 : Int) ≤ k := by omega
      obtain ⟨hc0, hc1, hc2⟩ := Hcr.out k (by rw [HL.out]; exact hlt)
      have Hrk := Lib.hid (Hr.out k hlt)
      generalize dnth ds k = dd at *
      obtain ⟨dk, di, dst⟩ := dd
      dsimp only at hc0 hc1 hc2
      go_wp2_with fail
      refine (refright_any _ _ _ _).mono ?_
      rintro e w2 ⟨rfl, hb2⟩
      have HR := Lib.hid ((Hb.out.alloc (by omega) _).trans (hb2.mono (by simp; omega)))
      clear hb2
      rw [Hrk.out]
      go_wp2_with fail
      go_roundw
      case rel => exact ⟨k + 1, by omega, by go_num, HR.out⟩
      case measure => simp [intOf]; omega
    · obtain rfl : k = l := by omega
      clear Hc
      obtain ⟨⟨b1, b2, b3⟩, ⟨f1, f2, f3⟩, hB, hzw2⟩ := box_new Hb.out
      clear hB
      have e0 := Hcr.out 0 (by rw [HL.out]; exact h0)
      rw [HD.out] at e0
      simp only [Nat.zero_mul, Nat.add_zero] at e0
      obtain ⟨e0, e1, e2⟩ := e0
      have h0i : (0 : Int) < (k : Int) := by omega
      obtain ⟨⟨⟨tk, ti, ts⟩, te⟩, hT⟩ : ∃ T, lenR ⟨ak, ai, sa⟩ = T := ⟨_, rfl⟩
      rw [hT] at HS
      have HT := Lib.hid hT
      clear hT
      go_wp2_with fail
      refine (HS.out _).mono ?_
      rintro e w3 ⟨rfl, hb⟩
      have HW := Lib.hid (HB.out.trans (hb.mono (by omega)))
      obtain ⟨r0, r1, r2, h0', h1', h2', hl'⟩ := (Bx.mk b1 b2 b3 f1 f2 f3 hzw2).below hb
      clear hb
      go_wp2_with fail
      refine bodyPost_ret (v := .tuple #[.agg #[.int .i64 tk, .int .i64 ti, .string ts], .int .i64 te]) (by simp [results, Tryd.results30, go_sem, r0, r1, r2]) rfl ⟨by rw [HT.out], ?_⟩
      exact ((HW.out.setCell (p := ⟨w.heap.size, 0, none⟩) (Nat.le_refl _) _).setCell (p := ⟨w.heap.size, 1, none⟩) (Nat.le_refl _) _).setCell (p := ⟨w.heap.size, 2, none⟩) (Nat.le_refl _) _
end Go.Proofs.YtokbdleokihdaaaDoor

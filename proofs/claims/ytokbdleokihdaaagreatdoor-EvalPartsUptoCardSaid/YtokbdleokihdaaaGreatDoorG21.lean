/- The document's Apply. The plain law of DatumApplies: the document's answers are the program's. -/
import Derived.Test.YtokbdleokihdaaaGreatDoorRefComp
import Derived.Test.YtokbdleokihdaaaGreatDoorG20
import Derived.Test.YtokbdleokihdaaaGreatDoorG18
import Derived.Test.YtokbdleokihdaaaGreatDoorG09
import Derived.Test.YtokbdleokihdaaaGreatDoorG10
import Derived.Test.YtokbdleokihdaaaGreatDoorG03
import Derived.Test.YtokbdleokihdaaaGreatDoorG07
namespace Go.Proofs.YtokbdleokihdaaaGreatDoor
open Go.RowKit

theorem round_ref {w wr : World} {b o : Nat} {ds : List Dt} {x : Obj} (hc : DCells w b o ds) (hbk : b < w.heap.size) (hb : Below (w.heap.size + 1) (w.alloc x) wr) : DCells wr b o ds ∧ w.heap.size < wr.heap.size := by
  have h1 : Below w.heap.size w wr := ((Below.refl w.heap.size w).alloc (Nat.le_refl _) x).trans (hb.mono (by omega))
  have := hb.size
  rw [World.size_alloc] at this
  exact ⟨hc.below h1 hbk, by omega⟩

set_option maxHeartbeats 1000000 in
theorem refapply_count (op : Int) (p : Option Addr) (n cap : Nat) (w : World) (h : manyF op = 0 ∨ (n : Int) ≠ manyF op) :
    Calls Tryz.prog 8 #[.int .i64 op, .slice p n cap] w fun e w' => e = .returned (.tuple #[Dt.zero.v, .int .i64 1]) ∧ Below w.heap.size w w' := by
  by_cases h0 : manyF op = 0
  · have t0 : (manyF op == 0) = true := by simpa using h0
    clear h h0
    go_enter Tryz.func8, Tryz.ntmps8
    go_wp2_with (go_at_call 18; refine (refmany_any _ _).mono ?_; rintro e w' ⟨rfl, rfl⟩)
    refine bodyPost_ret (v := .tuple #[Dt.zero.v, .int .i64 1]) (by simp [results, Tryz.results8, go_sem, Dt.zero]) rfl ⟨rfl, ?_⟩
    exact (boxes1 w _ _).1
  · have t0 : (manyF op == 0) = false := by simpa using h0
    have t1 : ((n : Int) != manyF op) = true := by simpa using h.resolve_left h0
    clear h h0
    go_enter Tryz.func8, Tryz.ntmps8
    go_wp2_with (go_at_call 18; refine (refmany_any _ _).mono ?_; rintro e w' ⟨rfl, rfl⟩)
    refine bodyPost_ret (v := .tuple #[Dt.zero.v, .int .i64 1]) (by simp [results, Tryz.results8, go_sem, Dt.zero]) rfl ⟨rfl, ?_⟩
    exact (boxes1 w _ _).1

set_option maxHeartbeats 1000000 in
theorem refapply_bad (op : Int) (ds : List Dt) (b o cap : Nat) (w : World) (hn : ds.length ≤ 1000) (hm : manyF op = ds.length) (h0 : 0 < ds.length) (hbk : b < w.heap.size) (hc : DCells w b o ds) (hbad : ∃ j, j < ds.length ∧ rightD (dnth ds j) = false) :
    Calls Tryz.prog 8 #[.int .i64 op, .slice (some ⟨b, o, none⟩) ds.length cap] w fun e w' => e = .returned (.tuple #[Dt.zero.v, .int .i64 1]) ∧ Below w.heap.size w w' := by
  have t0 : (manyF op == 0) = false := by rw [hm, beq_eq_false_iff_ne]; omega
  have t1 : ((ds.length : Int) != manyF op) = false := by rw [hm]; simp
  have Hc := Lib.hid hc
  have HX := Lib.hid hbad
  clear hc hbad hm
  generalize hl : ds.length = l at *
  have HL := Lib.hid hl
  clear hl
  go_enter Tryz.func8, Tryz.ntmps8
  go_wp2_with (go_at_call 18; refine (refmany_any _ _).mono ?_; rintro e w' ⟨rfl, rfl⟩)
  go_loopw [7, 21] (fun _ i wr => ∃ k : Nat, k ≤ l ∧ i = .int .i64 k ∧ Below (w.heap.size + 1) (w.alloc (.cells #[.int .i64 0, .int .i64 0, .string ⟨#[]⟩] 27)) wr ∧ ∀ j, j < k → rightD (dnth ds j) = true) (fun _ i _ => l - (intOf i).toNat)
  case atStart => exact ⟨0, Nat.zero_le _, rfl, Below.refl _ _, fun j hj => by omega⟩
  case round =>
    obtain ⟨k, hk, rfl, hbl, hall⟩ := hrel
    have HA := Lib.hid hall
    have hzw : w.heap.size < wr.heap.size := (box_new hbl).2.2.2
    have HB := Lib.hid (box_new hbl).2.2.1
    have Hcr := Lib.hid (round_ref Hc.out hbk hbl).1
    have Hb := Lib.hid hbl
    clear hbl hall
    by_cases hlt : k < l
    · have hzero : (0 : Int) ≤ k := by omega
      obtain ⟨hc0, hc1, hc2⟩ := Hcr.out k (by rw [HL.out]; exact hlt)
      cases hrk : rightD (dnth ds k)
      · have Hrk := Lib.hid hrk
        clear hrk
        generalize dnth ds k = dd at *
        obtain ⟨dk, di, dst⟩ := dd
        dsimp only at hc0 hc1 hc2
        go_wp2_with fail
        refine (refright_any _ _ _ _).mono ?_
        rintro e w2 ⟨rfl, hb2⟩
        have HR := Lib.hid ((Hb.out.alloc (by omega) _).trans (hb2.mono (by simp; omega)))
        clear hb2
        rw [Hrk.out]
        obtain ⟨⟨b1, b2, b3⟩, ⟨f1, f2, f3⟩, hB, hzw2⟩ := box_new HR.out
        have HB2 := Lib.hid hB
        clear hB
        go_wp2_with fail
        refine bodyPost_ret (v := .tuple #[Dt.zero.v, .int .i64 1]) (by simp [results, Tryz.results8, go_sem, b1, b2, b3, Dt.zero]) rfl ⟨rfl, ?_⟩
        exact ((HB2.out.setCell (Nat.le_refl _) _).setCell (Nat.le_refl _) _).setCell (Nat.le_refl _) _
      · have Hrk := Lib.hid hrk
        have HA2 : Hid (∀ j, j < k + 1 → rightD (dnth ds j) = true) := fun j hj => by
          rcases Nat.lt_succ_iff_lt_or_eq.1 hj with h | h
          · exact HA.out j h
          · rw [h]; exact hrk
        clear hrk
        generalize dnth ds k = dd at *
        obtain ⟨dk, di, dst⟩ := dd
        dsimp only at hc0 hc1 hc2
        go_wp2_with fail
        refine (refright_any _ _ _ _).mono ?_
        rintro e w2 ⟨rfl, hb2⟩
        have HR := Lib.hid ((Hb.out.alloc (by omega) _).trans (hb2.mono (by simp; omega)))
        clear hb2
        rw [Hrk.out]
        go_wp2_with fail
        go_roundw
        case rel => exact ⟨k + 1, by omega, by go_num, HR.out, HA2.out⟩
        case measure => simp [intOf]; omega
    · exfalso
      obtain ⟨j, hj, hjr⟩ := HX.out
      have := HA.out j (by omega)
      rw [hjr] at this
      cases this

set_option maxHeartbeats 2000000 in
theorem refapply_logic (op : Int) (ds : List Dt) (b o cap : Nat) (w : World) (hn : ds.length ≤ 1000) (hm : manyF op = ds.length) (h0 : 0 < ds.length) (hbk : b < w.heap.size) (hc : DCells w b o ds) (hr : ∀ j, j < ds.length → rightD (dnth ds j) = true) (hop : op = 2 ∨ op = 13 ∨ op = 14) (tk ti : Int) (ts : ByteArray) (te : Int) (HS : ∀ W, Below w.heap.size w W → Calls Tryz.prog 19 #[.int .i64 op, .slice (some ⟨b, o, none⟩) ds.length cap] W fun e w' => e = .returned (.tuple #[.agg #[.int .i64 tk, .int .i64 ti, .string ts], .int .i64 te]) ∧ Below W.heap.size W w') :
    Calls Tryz.prog 8 #[.int .i64 op, .slice (some ⟨b, o, none⟩) ds.length cap] w fun e w' => e = .returned (.tuple #[.agg #[.int .i64 tk, .int .i64 ti, .string ts], .int .i64 te]) ∧ Below w.heap.size w w' := by
  have t0 : (manyF op == 0) = false := by rw [hm, beq_eq_false_iff_ne]; omega
  have t1 : ((ds.length : Int) != manyF op) = false := by rw [hm]; simp
  have Hc := Lib.hid hc
  have Hr := Lib.hid hr
  have HS := Lib.hid HS
  have t15n : (op == 15) = false := by simp; omega

  clear hc hr hm
  generalize hl : ds.length = l at *
  have HL := Lib.hid hl
  clear hl
  go_enter Tryz.func8, Tryz.ntmps8
  go_wp2_with (go_at_call 18; refine (refmany_any _ _).mono ?_; rintro e w' ⟨rfl, rfl⟩)
  go_loopw [7, 21] (fun _ i wr => ∃ k : Nat, k ≤ l ∧ i = .int .i64 k ∧ Below (w.heap.size + 1) (w.alloc (.cells #[.int .i64 0, .int .i64 0, .string ⟨#[]⟩] 27)) wr) (fun _ i _ => l - (intOf i).toNat)
  case atStart => exact ⟨0, Nat.zero_le _, rfl, Below.refl _ _⟩
  case round =>
    obtain ⟨k, hk, rfl, hbl⟩ := hrel
    have hzw : w.heap.size < wr.heap.size := (box_new hbl).2.2.2
    have HB := Lib.hid (box_new hbl).2.2.1
    have Hcr := Lib.hid (round_ref Hc.out hbk hbl).1
    have Hb := Lib.hid hbl
    clear hbl
    by_cases hlt : k < l
    · have hzero : (0 : Int) ≤ k := by omega
      obtain ⟨hc0, hc1, hc2⟩ := Hcr.out k (by rw [HL.out]; exact hlt)
      have Hrk := Lib.hid (Hr.out k hlt)
      generalize dnth ds k = dd at *
      obtain ⟨dk, di, dst⟩ := dd
      dsimp only at hc0 hc1 hc2
      go_wp2_with fail
      refine (refright_any _ _ _ _).mono ?_
      rintro e w2 ⟨rfl, hb2⟩
      have HR := Lib.hid ((Hb.out.alloc (by omega) _).trans (hb2.mono (by simp; omega)))
      clear hb2
      rw [Hrk.out]
      go_wp2_with fail
      go_roundw
      case rel => exact ⟨k + 1, by omega, by go_num, HR.out⟩
      case measure => simp [intOf]; omega
    · obtain rfl : k = l := by omega
      clear Hc
      obtain ⟨⟨b1, b2, b3⟩, ⟨f1, f2, f3⟩, hB, hzw2⟩ := box_new Hb.out
      clear hB
      rcases hop with rfl | rfl | rfl
      all_goals
        go_wp2_with fail
        refine (HS.out _ HB.out).mono ?_
        rintro e w3 ⟨rfl, hb⟩
        have HW := Lib.hid (HB.out.trans (hb.mono (by omega)))
        obtain ⟨r0, r1, r2, h0', h1', h2', hl'⟩ := (Bx.mk b1 b2 b3 f1 f2 f3 hzw2).below hb
        clear hb
        go_wp2_with fail
        refine bodyPost_ret (v := .tuple #[.agg #[.int .i64 tk, .int .i64 ti, .string ts], .int .i64 te]) (by simp [results, Tryz.results8, go_sem, r0, r1, r2]) rfl ⟨rfl, ?_⟩
        exact ((HW.out.setCell (p := ⟨w.heap.size, 0, none⟩) (Nat.le_refl _) _).setCell (p := ⟨w.heap.size, 1, none⟩) (Nat.le_refl _) _).setCell (p := ⟨w.heap.size, 2, none⟩) (Nat.le_refl _) _

set_option maxHeartbeats 2000000 in
theorem refapply_cmp (op : Int) (ds : List Dt) (b o cap : Nat) (w : World) (hn : ds.length ≤ 1000) (hm : manyF op = ds.length) (h0 : 0 < ds.length) (hbk : b < w.heap.size) (hc : DCells w b o ds) (hr : ∀ j, j < ds.length → rightD (dnth ds j) = true) (h7 : 7 ≤ op) (h12 : op ≤ 12) (tk ti : Int) (ts : ByteArray) (te : Int) (HS : ∀ W, Below w.heap.size w W → Calls Tryz.prog 21 #[.int .i64 op, .slice (some ⟨b, o, none⟩) ds.length cap] W fun e w' => e = .returned (.tuple #[.agg #[.int .i64 tk, .int .i64 ti, .string ts], .int .i64 te]) ∧ Below W.heap.size W w') :
    Calls Tryz.prog 8 #[.int .i64 op, .slice (some ⟨b, o, none⟩) ds.length cap] w fun e w' => e = .returned (.tuple #[.agg #[.int .i64 tk, .int .i64 ti, .string ts], .int .i64 te]) ∧ Below w.heap.size w w' := by
  have t0 : (manyF op == 0) = false := by rw [hm, beq_eq_false_iff_ne]; omega
  have t1 : ((ds.length : Int) != manyF op) = false := by rw [hm]; simp
  have Hc := Lib.hid hc
  have Hr := Lib.hid hr
  have HS := Lib.hid HS
  have t15n : (op == 15) = false := by simp; omega
  have t2n : (op == 2) = false := by simp; omega
  have t13n : (op == 13) = false := by simp; omega
  have t14n : (op == 14) = false := by simp; omega
  have t18n : (op == 18) = false := by simp; omega

  clear hc hr hm
  generalize hl : ds.length = l at *
  have HL := Lib.hid hl
  clear hl
  go_enter Tryz.func8, Tryz.ntmps8
  go_wp2_with (go_at_call 18; refine (refmany_any _ _).mono ?_; rintro e w' ⟨rfl, rfl⟩)
  go_loopw [7, 21] (fun _ i wr => ∃ k : Nat, k ≤ l ∧ i = .int .i64 k ∧ Below (w.heap.size + 1) (w.alloc (.cells #[.int .i64 0, .int .i64 0, .string ⟨#[]⟩] 27)) wr) (fun _ i _ => l - (intOf i).toNat)
  case atStart => exact ⟨0, Nat.zero_le _, rfl, Below.refl _ _⟩
  case round =>
    obtain ⟨k, hk, rfl, hbl⟩ := hrel
    have hzw : w.heap.size < wr.heap.size := (box_new hbl).2.2.2
    have HB := Lib.hid (box_new hbl).2.2.1
    have Hcr := Lib.hid (round_ref Hc.out hbk hbl).1
    have Hb := Lib.hid hbl
    clear hbl
    by_cases hlt : k < l
    · have hzero : (0 : Int) ≤ k := by omega
      obtain ⟨hc0, hc1, hc2⟩ := Hcr.out k (by rw [HL.out]; exact hlt)
      have Hrk := Lib.hid (Hr.out k hlt)
      generalize dnth ds k = dd at *
      obtain ⟨dk, di, dst⟩ := dd
      dsimp only at hc0 hc1 hc2
      go_wp2_with fail
      refine (refright_any _ _ _ _).mono ?_
      rintro e w2 ⟨rfl, hb2⟩
      have HR := Lib.hid ((Hb.out.alloc (by omega) _).trans (hb2.mono (by simp; omega)))
      clear hb2
      rw [Hrk.out]
      go_wp2_with fail
      go_roundw
      case rel => exact ⟨k + 1, by omega, by go_num, HR.out⟩
      case measure => simp [intOf]; omega
    · obtain rfl : k = l := by omega
      clear Hc
      obtain ⟨⟨b1, b2, b3⟩, ⟨f1, f2, f3⟩, hB, hzw2⟩ := box_new Hb.out
      clear hB
      rcases (by omega : op = 7 ∨ op = 8 ∨ op = 9 ∨ op = 10 ∨ op = 11 ∨ op = 12) with rfl | rfl | rfl | rfl | rfl | rfl
      all_goals
        go_wp2_with fail
        refine (HS.out _ HB.out).mono ?_
        rintro e w3 ⟨rfl, hb⟩
        have HW := Lib.hid (HB.out.trans (hb.mono (by omega)))
        obtain ⟨r0, r1, r2, h0', h1', h2', hl'⟩ := (Bx.mk b1 b2 b3 f1 f2 f3 hzw2).below hb
        clear hb
        go_wp2_with fail
        refine bodyPost_ret (v := .tuple #[.agg #[.int .i64 tk, .int .i64 ti, .string ts], .int .i64 te]) (by simp [results, Tryz.results8, go_sem, r0, r1, r2]) rfl ⟨rfl, ?_⟩
        exact ((HW.out.setCell (p := ⟨w.heap.size, 0, none⟩) (Nat.le_refl _) _).setCell (p := ⟨w.heap.size, 1, none⟩) (Nat.le_refl _) _).setCell (p := ⟨w.heap.size, 2, none⟩) (Nat.le_refl _) _

set_option maxHeartbeats 2000000 in
theorem refapply_ar (op : Int) (ds : List Dt) (b o cap : Nat) (w : World) (hn : ds.length ≤ 1000) (hm : manyF op = ds.length) (h0 : 0 < ds.length) (hbk : b < w.heap.size) (hc : DCells w b o ds) (hr : ∀ j, j < ds.length → rightD (dnth ds j) = true) (hop : op = 1 ∨ op = 19 ∨ op = 20 ∨ op = 3 ∨ op = 4 ∨ op = 5 ∨ op = 6) (hall : ds.all (onlyF 2 3) = true) (tk ti : Int) (ts : ByteArray) (te : Int) (HS : ∀ W, Below w.heap.size w W → Calls Tryz.prog 23 #[.int .i64 op, .slice (some ⟨b, o, none⟩) ds.length cap] W fun e w' => e = .returned (.tuple #[.agg #[.int .i64 tk, .int .i64 ti, .string ts], .int .i64 te]) ∧ Below W.heap.size W w') :
    Calls Tryz.prog 8 #[.int .i64 op, .slice (some ⟨b, o, none⟩) ds.length cap] w fun e w' => e = .returned (.tuple #[.agg #[.int .i64 tk, .int .i64 ti, .string ts], .int .i64 te]) ∧ Below w.heap.size w w' := by
  have t0 : (manyF op == 0) = false := by rw [hm, beq_eq_false_iff_ne]; omega
  have t1 : ((ds.length : Int) != manyF op) = false := by rw [hm]; simp
  have Hc := Lib.hid hc
  have Hr := Lib.hid hr
  have HS := Lib.hid HS
  have HAl := Lib.hid hall
  have HO := Lib.hid (fun (W : World) (hW : Below w.heap.size w W) => refonly_any ds b o cap 2 3 W hn (by have := hW.size; omega) (hc.below hW hbk))
  have t15n : (op == 15) = false := by simp; omega
  have t2n : (op == 2) = false := by simp; omega
  have t13n : (op == 13) = false := by simp; omega
  have t14n : (op == 14) = false := by simp; omega
  have t18n : (op == 18) = false := by simp; omega
  have t7n : (op == 7) = false := by simp; omega
  have t8n : (op == 8) = false := by simp; omega
  have t9n : (op == 9) = false := by simp; omega
  have t10n : (op == 10) = false := by simp; omega
  have t11n : (op == 11) = false := by simp; omega
  have t12n : (op == 12) = false := by simp; omega
  clear hop hall

  clear hc hr hm
  generalize hl : ds.length = l at *
  have HL := Lib.hid hl
  clear hl
  go_enter Tryz.func8, Tryz.ntmps8
  go_wp2_with (go_at_call 18; refine (refmany_any _ _).mono ?_; rintro e w' ⟨rfl, rfl⟩)
  go_loopw [7, 21] (fun _ i wr => ∃ k : Nat, k ≤ l ∧ i = .int .i64 k ∧ Below (w.heap.size + 1) (w.alloc (.cells #[.int .i64 0, .int .i64 0, .string ⟨#[]⟩] 27)) wr) (fun _ i _ => l - (intOf i).toNat)
  case atStart => exact ⟨0, Nat.zero_le _, rfl, Below.refl _ _⟩
  case round =>
    obtain ⟨k, hk, rfl, hbl⟩ := hrel
    have hzw : w.heap.size < wr.heap.size := (box_new hbl).2.2.2
    have HB := Lib.hid (box_new hbl).2.2.1
    have Hcr := Lib.hid (round_ref Hc.out hbk hbl).1
    have Hb := Lib.hid hbl
    clear hbl
    by_cases hlt : k < l
    · have hzero : (0 : Int) ≤ k := by omega
      obtain ⟨hc0, hc1, hc2⟩ := Hcr.out k (by rw [HL.out]; exact hlt)
      have Hrk := Lib.hid (Hr.out k hlt)
      generalize dnth ds k = dd at *
      obtain ⟨dk, di, dst⟩ := dd
      dsimp only at hc0 hc1 hc2
      go_wp2_with fail
      refine (refright_any _ _ _ _).mono ?_
      rintro e w2 ⟨rfl, hb2⟩
      have HR := Lib.hid ((Hb.out.alloc (by omega) _).trans (hb2.mono (by simp; omega)))
      clear hb2
      rw [Hrk.out]
      go_wp2_with fail
      go_roundw
      case rel => exact ⟨k + 1, by omega, by go_num, HR.out⟩
      case measure => simp [intOf]; omega
    · obtain rfl : k = l := by omega
      clear Hc
      obtain ⟨⟨b1, b2, b3⟩, ⟨f1, f2, f3⟩, hB, hzw2⟩ := box_new Hb.out
      clear hB
      go_wp2_with fail
      refine (HO.out _ HB.out).mono ?_
      rintro e w5 ⟨rfl, hb⟩
      rw [HAl.out]
      replace HB := Lib.hid (HB.out.trans (hb.mono (by omega)))
      obtain ⟨b1, b2, b3, f1, f2, f3, hzw2⟩ := (Bx.mk b1 b2 b3 f1 f2 f3 hzw2).below hb
      clear hb
      go_wp2_with fail
      refine (HS.out _ HB.out).mono ?_
      rintro e w3 ⟨rfl, hb⟩
      have HW := Lib.hid (HB.out.trans (hb.mono (by omega)))
      obtain ⟨r0, r1, r2, h0', h1', h2', hl'⟩ := (Bx.mk b1 b2 b3 f1 f2 f3 hzw2).below hb
      clear hb
      go_wp2_with fail
      refine bodyPost_ret (v := .tuple #[.agg #[.int .i64 tk, .int .i64 ti, .string ts], .int .i64 te]) (by simp [results, Tryz.results8, go_sem, r0, r1, r2]) rfl ⟨rfl, ?_⟩
      exact ((HW.out.setCell (p := ⟨w.heap.size, 0, none⟩) (Nat.le_refl _) _).setCell (p := ⟨w.heap.size, 1, none⟩) (Nat.le_refl _) _).setCell (p := ⟨w.heap.size, 2, none⟩) (Nat.le_refl _) _

set_option maxHeartbeats 2000000 in
theorem refapply_type (op : Int) (ds : List Dt) (b o cap : Nat) (w : World) (hn : ds.length ≤ 1000) (hm : manyF op = ds.length) (h0 : 0 < ds.length) (hbk : b < w.heap.size) (hc : DCells w b o ds) (hr : ∀ j, j < ds.length → rightD (dnth ds j) = true) (hop : op = 1 ∨ op = 19 ∨ op = 20 ∨ op = 3 ∨ op = 4 ∨ op = 5 ∨ op = 6) (hall : ds.all (onlyF 2 3) = false)  :
    Calls Tryz.prog 8 #[.int .i64 op, .slice (some ⟨b, o, none⟩) ds.length cap] w fun e w' => e = .returned (.tuple #[Dt.zero.v, .int .i64 5]) ∧ Below w.heap.size w w' := by
  have t0 : (manyF op == 0) = false := by rw [hm, beq_eq_false_iff_ne]; omega
  have t1 : ((ds.length : Int) != manyF op) = false := by rw [hm]; simp
  have Hc := Lib.hid hc
  have Hr := Lib.hid hr
  have HAl := Lib.hid hall
  have HO := Lib.hid (fun (W : World) (hW : Below w.heap.size w W) => refonly_any ds b o cap 2 3 W hn (by have := hW.size; omega) (hc.below hW hbk))
  have t15n : (op == 15) = false := by simp; omega
  have t2n : (op == 2) = false := by simp; omega
  have t13n : (op == 13) = false := by simp; omega
  have t14n : (op == 14) = false := by simp; omega
  have t18n : (op == 18) = false := by simp; omega
  have t7n : (op == 7) = false := by simp; omega
  have t8n : (op == 8) = false := by simp; omega
  have t9n : (op == 9) = false := by simp; omega
  have t10n : (op == 10) = false := by simp; omega
  have t11n : (op == 11) = false := by simp; omega
  have t12n : (op == 12) = false := by simp; omega
  clear hop hall

  clear hc hr hm
  generalize hl : ds.length = l at *
  have HL := Lib.hid hl
  clear hl
  go_enter Tryz.func8, Tryz.ntmps8
  go_wp2_with (go_at_call 18; refine (refmany_any _ _).mono ?_; rintro e w' ⟨rfl, rfl⟩)
  go_loopw [7, 21] (fun _ i wr => ∃ k : Nat, k ≤ l ∧ i = .int .i64 k ∧ Below (w.heap.size + 1) (w.alloc (.cells #[.int .i64 0, .int .i64 0, .string ⟨#[]⟩] 27)) wr) (fun _ i _ => l - (intOf i).toNat)
  case atStart => exact ⟨0, Nat.zero_le _, rfl, Below.refl _ _⟩
  case round =>
    obtain ⟨k, hk, rfl, hbl⟩ := hrel
    have hzw : w.heap.size < wr.heap.size := (box_new hbl).2.2.2
    have HB := Lib.hid (box_new hbl).2.2.1
    have Hcr := Lib.hid (round_ref Hc.out hbk hbl).1
    have Hb := Lib.hid hbl
    clear hbl
    by_cases hlt : k < l
    · have hzero : (0 : Int) ≤ k := by omega
      obtain ⟨hc0, hc1, hc2⟩ := Hcr.out k (by rw [HL.out]; exact hlt)
      have Hrk := Lib.hid (Hr.out k hlt)
      generalize dnth ds k = dd at *
      obtain ⟨dk, di, dst⟩ := dd
      dsimp only at hc0 hc1 hc2
      go_wp2_with fail
      refine (refright_any _ _ _ _).mono ?_
      rintro e w2 ⟨rfl, hb2⟩
      have HR := Lib.hid ((Hb.out.alloc (by omega) _).trans (hb2.mono (by simp; omega)))
      clear hb2
      rw [Hrk.out]
      go_wp2_with fail
      go_roundw
      case rel => exact ⟨k + 1, by omega, by go_num, HR.out⟩
      case measure => simp [intOf]; omega
    · obtain rfl : k = l := by omega
      clear Hc
      obtain ⟨⟨b1, b2, b3⟩, ⟨f1, f2, f3⟩, hB, hzw2⟩ := box_new Hb.out
      clear hB
      go_wp2_with fail
      refine (HO.out _ HB.out).mono ?_
      rintro e w3 ⟨rfl, hb⟩
      rw [HAl.out]
      have HW := Lib.hid (HB.out.trans (hb.mono (by omega)))
      obtain ⟨r0, r1, r2, h0', h1', h2', hl'⟩ := (Bx.mk b1 b2 b3 f1 f2 f3 hzw2).below hb
      clear hb
      go_wp2_with fail
      refine bodyPost_ret (v := .tuple #[Dt.zero.v, .int .i64 5]) (by simp [results, Tryz.results8, go_sem, r0, r1, r2, Dt.zero]) rfl ⟨rfl, ?_⟩
      exact ((HW.out.setCell (p := ⟨w.heap.size, 0, none⟩) (Nat.le_refl _) _).setCell (p := ⟨w.heap.size, 1, none⟩) (Nat.le_refl _) _).setCell (p := ⟨w.heap.size, 2, none⟩) (Nat.le_refl _) _

set_option maxHeartbeats 2000000 in
theorem refapply_null (op : Int) (ds : List Dt) (b o cap : Nat) (w : World) (hn : ds.length ≤ 1000) (hm : manyF op = ds.length) (h0 : 0 < ds.length) (hbk : b < w.heap.size) (hc : DCells w b o ds) (hr : ∀ j, j < ds.length → rightD (dnth ds j) = true) (ak ai : Int) (sa : ByteArray) (hd : dnth ds 0 = ⟨ak, ai, sa⟩) (hop : op = 15)  :
    Calls Tryz.prog 8 #[.int .i64 op, .slice (some ⟨b, o, none⟩) ds.length cap] w fun e w' => e = .returned (.tuple #[(truthD (ak == 0)).v, .int .i64 0]) ∧ Below w.heap.size w w' := by
  have t0 : (manyF op == 0) = false := by rw [hm, beq_eq_false_iff_ne]; omega
  have t1 : ((ds.length : Int) != manyF op) = false := by rw [hm]; simp
  have Hc := Lib.hid hc
  have Hr := Lib.hid hr
  have HD := Lib.hid hd
  have t15 : (op == 15) = true := by simp; omega
  clear hd hop

  clear hc hr hm
  generalize hl : ds.length = l at *
  have HL := Lib.hid hl
  clear hl
  go_enter Tryz.func8, Tryz.ntmps8
  go_wp2_with (go_at_call 18; refine (refmany_any _ _).mono ?_; rintro e w' ⟨rfl, rfl⟩)
  go_loopw [7, 21] (fun _ i wr => ∃ k : Nat, k ≤ l ∧ i = .int .i64 k ∧ Below (w.heap.size + 1) (w.alloc (.cells #[.int .i64 0, .int .i64 0, .string ⟨#[]⟩] 27)) wr) (fun _ i _ => l - (intOf i).toNat)
  case atStart => exact ⟨0, Nat.zero_le _, rfl, Below.refl _ _⟩
  case round =>
    obtain ⟨k, hk, rfl, hbl⟩ := hrel
    have hzw : w.heap.size < wr.heap.size := (box_new hbl).2.2.2
    have HB := Lib.hid (box_new hbl).2.2.1
    have Hcr := Lib.hid (round_ref Hc.out hbk hbl).1
    have Hb := Lib.hid hbl
    clear hbl
    by_cases hlt : k < l
    · have hzero : (0 : Int) ≤ k := by omega
      obtain ⟨hc0, hc1, hc2⟩ := Hcr.out k (by rw [HL.out]; exact hlt)
      have Hrk := Lib.hid (Hr.out k hlt)
      generalize dnth ds k = dd at *
      obtain ⟨dk, di, dst⟩ := dd
      dsimp only at hc0 hc1 hc2
      go_wp2_with fail
      refine (refright_any _ _ _ _).mono ?_
      rintro e w2 ⟨rfl, hb2⟩
      have HR := Lib.hid ((Hb.out.alloc (by omega) _).trans (hb2.mono (by simp; omega)))
      clear hb2
      rw [Hrk.out]
      go_wp2_with fail
      go_roundw
      case rel => exact ⟨k + 1, by omega, by go_num, HR.out⟩
      case measure => simp [intOf]; omega
    · obtain rfl : k = l := by omega
      clear Hc
      obtain ⟨⟨b1, b2, b3⟩, ⟨f1, f2, f3⟩, hB, hzw2⟩ := box_new Hb.out
      clear hB
      have e0 := Hcr.out 0 (by rw [HL.out]; exact h0)
      rw [HD.out] at e0
      simp only [Nat.zero_mul, Nat.add_zero] at e0
      obtain ⟨e0, e1, e2⟩ := e0
      have h0i : (0 : Int) < (k : Int) := by omega
      go_wp2_with fail
      refine (bool_form _ _).mono ?_
      rintro e w3 ⟨ti, ht, rfl, hb⟩
      have HTI := Lib.hid ht
      have HW := Lib.hid (HB.out.trans (hb.mono (by omega)))
      obtain ⟨r0, r1, r2, h0', h1', h2', hl'⟩ := (Bx.mk b1 b2 b3 f1 f2 f3 hzw2).below hb
      clear hb ht
      go_wp2_with fail
      refine bodyPost_ret (v := .tuple #[.agg #[.int .i64 1, .int .i64 ti, .string ⟨#[]⟩], .int .i64 0]) (by simp [results, Tryz.results8, go_sem, r0, r1, r2]) rfl ⟨congrArg (fun d : Dt => Ending.returned (.tuple #[d.v, .int .i64 0])) HTI.out, ?_⟩
      exact ((HW.out.setCell (p := ⟨w.heap.size, 0, none⟩) (Nat.le_refl _) _).setCell (p := ⟨w.heap.size, 1, none⟩) (Nat.le_refl _) _).setCell (p := ⟨w.heap.size, 2, none⟩) (Nat.le_refl _) _

set_option maxHeartbeats 2000000 in
theorem refapply_len (op : Int) (ds : List Dt) (b o cap : Nat) (w : World) (hn : ds.length ≤ 1000) (hm : manyF op = ds.length) (h0 : 0 < ds.length) (hbk : b < w.heap.size) (hc : DCells w b o ds) (hr : ∀ j, j < ds.length → rightD (dnth ds j) = true) (ak ai : Int) (sa : ByteArray) (hd : dnth ds 0 = ⟨ak, ai, sa⟩) (hop : op = 18)  :
    Calls Tryz.prog 8 #[.int .i64 op, .slice (some ⟨b, o, none⟩) ds.length cap] w fun e w' => e = .returned (.tuple #[(lenR ⟨ak, ai, sa⟩).1.v, .int .i64 (lenR ⟨ak, ai, sa⟩).2]) ∧ Below w.heap.size w w' := by
  have t0 : (manyF op == 0) = false := by rw [hm, beq_eq_false_iff_ne]; omega
  have t1 : ((ds.length : Int) != manyF op) = false := by rw [hm]; simp
  have Hc := Lib.hid hc
  have Hr := Lib.hid hr
  have HD := Lib.hid hd
  have HS := Lib.hid (fun W => reflen_any ⟨ak, ai, sa⟩ W (by rw [← hd]; exact hr 0 h0))
  have t18 : (op == 18) = true := by simp; omega
  have t15n : (op == 15) = false := by simp; omega
  have t2n : (op == 2) = false := by simp; omega
  have t13n : (op == 13) = false := by simp; omega
  have t14n : (op == 14) = false := by simp; omega
  clear hd hop

  clear hc hr hm
  generalize hl : ds.length = l at *
  have HL := Lib.hid hl
  clear hl
  go_enter Tryz.func8, Tryz.ntmps8
  go_wp2_with (go_at_call 18; refine (refmany_any _ _).mono ?_; rintro e w' ⟨rfl, rfl⟩)
  go_loopw [7, 21] (fun _ i wr => ∃ k : Nat, k ≤ l ∧ i = .int .i64 k ∧ Below (w.heap.size + 1) (w.alloc (.cells #[.int .i64 0, .int .i64 0, .string ⟨#[]⟩] 27)) wr) (fun _ i _ => l - (intOf i).toNat)
  case atStart => exact ⟨0, Nat.zero_le _, rfl, Below.refl _ _⟩
  case round =>
    obtain ⟨k, hk, rfl, hbl⟩ := hrel
    have hzw : w.heap.size < wr.heap.size := (box_new hbl).2.2.2
    have HB := Lib.hid (box_new hbl).2.2.1
    have Hcr := Lib.hid (round_ref Hc.out hbk hbl).1
    have Hb := Lib.hid hbl
    clear hbl
    by_cases hlt : k < l
    · have hzero : (0 : Int) ≤ k := by omega
      obtain ⟨hc0, hc1, hc2⟩ := Hcr.out k (by rw [HL.out]; exact hlt)
      have Hrk := Lib.hid (Hr.out k hlt)
      generalize dnth ds k = dd at *
      obtain ⟨dk, di, dst⟩ := dd
      dsimp only at hc0 hc1 hc2
      go_wp2_with fail
      refine (refright_any _ _ _ _).mono ?_
      rintro e w2 ⟨rfl, hb2⟩
      have HR := Lib.hid ((Hb.out.alloc (by omega) _).trans (hb2.mono (by simp; omega)))
      clear hb2
      rw [Hrk.out]
      go_wp2_with fail
      go_roundw
      case rel => exact ⟨k + 1, by omega, by go_num, HR.out⟩
      case measure => simp [intOf]; omega
    · obtain rfl : k = l := by omega
      clear Hc
      obtain ⟨⟨b1, b2, b3⟩, ⟨f1, f2, f3⟩, hB, hzw2⟩ := box_new Hb.out
      clear hB
      have e0 := Hcr.out 0 (by rw [HL.out]; exact h0)
      rw [HD.out] at e0
      simp only [Nat.zero_mul, Nat.add_zero] at e0
      obtain ⟨e0, e1, e2⟩ := e0
      have h0i : (0 : Int) < (k : Int) := by omega
      obtain ⟨⟨⟨tk, ti, ts⟩, te⟩, hT⟩ : ∃ T, lenR ⟨ak, ai, sa⟩ = T := ⟨_, rfl⟩
      rw [hT] at HS
      have HT := Lib.hid hT
      clear hT
      go_wp2_with fail
      refine (HS.out _).mono ?_
      rintro e w3 ⟨rfl, hb⟩
      have HW := Lib.hid (HB.out.trans (hb.mono (by omega)))
      obtain ⟨r0, r1, r2, h0', h1', h2', hl'⟩ := (Bx.mk b1 b2 b3 f1 f2 f3 hzw2).below hb
      clear hb
      go_wp2_with fail
      refine bodyPost_ret (v := .tuple #[.agg #[.int .i64 tk, .int .i64 ti, .string ts], .int .i64 te]) (by simp [results, Tryz.results8, go_sem, r0, r1, r2]) rfl ⟨by rw [HT.out], ?_⟩
      exact ((HW.out.setCell (p := ⟨w.heap.size, 0, none⟩) (Nat.le_refl _) _).setCell (p := ⟨w.heap.size, 1, none⟩) (Nat.le_refl _) _).setCell (p := ⟨w.heap.size, 2, none⟩) (Nat.le_refl _) _
end Go.Proofs.YtokbdleokihdaaaGreatDoor
namespace Go.Proofs.YtokbdleokihdaaaGreatDoor
open Go.RowKit

theorem in64_room (z : Int) : room z = decide (In64 z) := by
  by_cases h : In64 z
  · rw [decide_eq_true h]
    unfold In64 at h
    unfold room
    rw [decide_eq_true h.1, decide_eq_true (by omega)]
    rfl
  · rw [decide_eq_false h]
    unfold In64 at h
    unfold room
    by_cases h1 : -9223372036854775808 ≤ z
    · rw [decide_eq_true h1, decide_eq_false (by omega)]; rfl
    · rw [decide_eq_false h1]; rfl
theorem wrap_in {z : Int} (h : In64 z) : wrap64 z = z := by
  unfold In64 at h
  unfold wrap64
  omega
/-- A number that may be. -/
theorem right_num {k i : Int} {s : ByteArray} (h : rightD ⟨k, i, s⟩ = true) (ho : isOf [2, 3] ⟨k, i, s⟩ = true) (hk : (k == 0) = false) : (k = 2 ∨ k = 3) ∧ s = ⟨#[]⟩ := by
  have hk2 : k = 2 ∨ k = 3 := by
    unfold isOf at ho
    rw [hk] at ho
    simpa using ho
  refine ⟨hk2, empty_of (s := s) ?_⟩
  rcases hk2 with rfl | rfl
  · simpa [rightD, rightN] using h
  · simpa [rightD, rightN] using h

theorem eq_neg {k i : Int} {s : ByteArray} (h : rightD ⟨k, i, s⟩ = true) (ho : isOf [2, 3] ⟨k, i, s⟩ = true) (hk : (k == 0) = false) (hi : In64 i) : okD k (-i) (decide (In64 (-i))) = numA [⟨k, i, s⟩] (negR ⟨k, i, s⟩) := by
  have ha : [(⟨k, i, s⟩ : Dt)].all (isOf [2, 3]) = true := by simp [ho]
  have hn : [(⟨k, i, s⟩ : Dt)].any (fun d => d.k == 0) = false := by simp [hk]
  unfold numA
  rw [if_pos ha, if_neg (by rw [hn]; decide)]
  unfold okD negR
  by_cases hm : i = -9223372036854775808
  · subst hm
    rfl
  · have h1 : In64 (-i) := by unfold In64 at *; omega
    have h2 : (i != -9223372036854775808) = true := by simpa using hm
    simp only [decide_eq_true h1, h2, if_true]
    rw [wrap_in h1]
theorem asDec_two (i : Int) (s : ByteArray) : asDecR ⟨2, i, s⟩ = (⟨3, (decI i).1, ⟨#[]⟩⟩, (decI i).2) := if_neg (by decide : ¬ (2 : Int) = 3)
theorem asDec_three (i : Int) (s : ByteArray) : asDecR ⟨3, i, s⟩ = (⟨3, i, s⟩, true) := if_pos rfl
theorem numZ_two (i : Int) : numZ 2 i = i * 10000 := if_pos rfl
theorem numZ_three (i : Int) : numZ 3 i = i := if_neg (by decide)
theorem eq_dec {k i : Int} {s : ByteArray} (h : rightD ⟨k, i, s⟩ = true) (ho : isOf [2, 3] ⟨k, i, s⟩ = true) (hk : (k == 0) = false) (hi : In64 i) : okD 3 (numZ k i) (decide (In64 (numZ k i))) = numA [⟨k, i, s⟩] (asDecR ⟨k, i, s⟩) := by
  have ha : [(⟨k, i, s⟩ : Dt)].all (isOf [2, 3]) = true := by simp [ho]
  have hn : [(⟨k, i, s⟩ : Dt)].any (fun d => d.k == 0) = false := by simp [hk]
  obtain ⟨hk2, rfl⟩ := right_num h ho hk
  unfold numA
  rw [if_pos ha, if_neg (by rw [hn]; decide)]
  rcases hk2 with rfl | rfl
  · rw [asDec_two, numZ_two]
    unfold decI okD
    rw [in64_room]
    by_cases hz : In64 (i * 10000)
    · rw [decide_eq_true hz]; rfl
    · rw [decide_eq_false hz]; rfl
  · rw [asDec_three, numZ_three]
    unfold okD
    rw [decide_eq_true hi]
theorem abs_pos {k i : Int} {s : ByteArray} (hi : ¬ i < 0) : absR ⟨k, i, s⟩ = (⟨k, i, s⟩, true) := if_pos (by show 0 ≤ i; omega)
theorem eq_abs {k i : Int} {s : ByteArray} (ho : isOf [2, 3] ⟨k, i, s⟩ = true) (hk : (k == 0) = false) (hi : ¬ i < 0) : ((⟨k, i, s⟩ : Dt), (0 : Int)) = numA [⟨k, i, s⟩] (absR ⟨k, i, s⟩) := by
  have ha : [(⟨k, i, s⟩ : Dt)].all (isOf [2, 3]) = true := by simp [ho]
  have hn : [(⟨k, i, s⟩ : Dt)].any (fun d => d.k == 0) = false := by simp [hk]
  unfold numA
  rw [if_pos ha, if_neg (by rw [hn]; decide), abs_pos hi]
  rfl
theorem eq_absneg {k i : Int} {s : ByteArray} (hi : i < 0) : numA [⟨k, i, s⟩] (absR ⟨k, i, s⟩) = numA [⟨k, i, s⟩] (negR ⟨k, i, s⟩) := by
  unfold absR
  rw [if_neg (by show ¬ 0 ≤ i; omega)]
theorem num_type (ds : List Dt) (r : Dt × Bool) (h : ds.all (isOf [2, 3]) = false) : numA ds r = (Dt.zero, 5) := by
  unfold numA
  rw [if_neg (by rw [h]; decide)]
theorem num_null (ds : List Dt) (r : Dt × Bool) (h : ds.all (isOf [2, 3]) = true) (hn : ds.any (fun d => d.k == 0) = true) : numA ds r = (Dt.zero, 0) := by
  unfold numA
  rw [if_pos h, if_pos hn]
theorem eq_arith (kind op a b one : Int) (hop : op = 3 ∨ op = 4 ∨ op = 5 ∨ op = 6) (h1 : one ≠ 0) : twoD kind op a b one = (if (arith kind op a b one).2 then ((arith kind op a b one).1, 0) else (Dt.zero, 4)) := by
  unfold twoD twoOk twoZ arith arI quo
  rcases hop with rfl | rfl | rfl | rfl
  · simp only [in64_room]
    by_cases hz : In64 (a + b)
    · simp [hz, wrap_in hz]
    · simp [hz]
  · simp only [in64_room]
    by_cases hz : In64 (a - b)
    · simp [hz, wrap_in hz]
    · simp [hz]
  · simp only [in64_room]
    by_cases hz : In64 ((a * b).tdiv one)
    · simp [hz, h1]
    · simp [hz]
  · simp only [in64_room]
    by_cases hb : b = 0
    · subst hb
      simp
    · by_cases hz : In64 ((a * one).tdiv b)
      · simp [hz, hb]
      · simp [hz]
theorem num_some (ds : List Dt) (r : Dt × Bool) (h : ds.all (isOf [2, 3]) = true) (hn : ds.any (fun d => d.k == 0) = false) : numA ds r = if r.2 then (r.1, 0) else (Dt.zero, 4) := by
  unfold numA
  rw [if_pos h, if_neg (by rw [hn]; decide)]
theorem asDec_ok {k i : Int} {s : ByteArray} (hk : k = 2 ∨ k = 3) (hi : In64 i) : (asDecR ⟨k, i, s⟩).2 = decide (In64 (numZ k i)) ∧ (In64 (numZ k i) → (asDecR ⟨k, i, s⟩).1.i = numZ k i) := by
  rcases hk with rfl | rfl
  · rw [asDec_two, numZ_two]
    unfold decI
    rw [in64_room]
    by_cases hz : In64 (i * 10000)
    · rw [decide_eq_true hz]; exact ⟨rfl, fun _ => rfl⟩
    · rw [decide_eq_false hz]; exact ⟨rfl, fun h => absurd h hz⟩
  · rw [asDec_three, numZ_three, decide_eq_true hi]
    exact ⟨rfl, fun _ => rfl⟩

theorem both_all {d d' : Dt} (h : [d, d'].all (isOf [2, 3]) = true) : isOf [2, 3] d = true ∧ isOf [2, 3] d' = true := by simpa using h
theorem both_any {d d' : Dt} (h : [d, d'].any (fun d => d.k == 0) = false) : (d.k == 0) = false ∧ (d'.k == 0) = false := by
  simp only [List.any_cons, List.any_nil, Bool.or_false, Bool.or_eq_false_iff] at h
  exact h
theorem cmp_int_cmpZ (a b : Int) : cmpI a b = cmpZ a b := rfl
theorem bl_refl : ∀ l : List UInt8, Op.bytesLess l l = false
  | [] => by simp [Op.bytesLess]
  | a :: l => by simp [Op.bytesLess, bl_refl l]
theorem less_refl (s : ByteArray) : Op.bytesLess s.toList s.toList = false := bl_refl _
theorem ord_num {ak ai bk bi : Int} (ha : ak = 2 ∨ ak = 3) (hb : bk = 2 ∨ bk = 3) : ordN ak ai ⟨#[]⟩ bk bi ⟨#[]⟩ = cmpZ (numZ ak ai) (numZ bk bi) := by
  have hu : ∀ k i : Int, (k = 2 ∨ k = 3) → i * unitOf k = numZ k i := fun k i h => by
    unfold unitOf numZ
    split
    · rfl
    · omega
  unfold ordN
  rw [hu ak ai ha, hu bk bi hb]
  by_cases he : ak = bk
  · rw [if_pos he]
    subst he
    rw [dco_val, less_refl]
    rw [if_neg (by omega), if_neg (by omega)]
    have hz : (numZ ak ai < numZ ak bi ↔ ai < bi) ∧ (numZ ak bi < numZ ak ai ↔ bi < ai) := by
      rcases ha with rfl | rfl
      · rw [numZ_two, numZ_two]; omega
      · rw [numZ_three, numZ_three]; omega
    unfold cmpZ
    by_cases hx : ai < bi
    · rw [if_pos hx, if_pos (hz.1.2 hx)]
    · rw [if_neg hx, if_neg (fun h => hx (hz.1.1 h))]
      by_cases hy : bi < ai
      · rw [if_pos hy, if_pos (hz.2.2 hy)]
      · rw [if_neg hy, if_neg (fun h => hy (hz.2.1 h))]
        rfl
  · rw [if_neg he]
    rfl
end Go.Proofs.YtokbdleokihdaaaGreatDoor

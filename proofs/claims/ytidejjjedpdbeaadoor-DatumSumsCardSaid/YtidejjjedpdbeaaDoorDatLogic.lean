/- Contract of datum.logic: what NOT, AND, OR of values is. -/
import Derived.Test.YtidejjjedpdbeaaDoorDatSmall
namespace Go.Proofs.YtidejjjedpdbeaaDoor
open Go.RowKit

/-- What decides: of OR the true, of AND the false. -/
def isSt (st : Int) (d : Dt) : Bool := d.k == 1 && d.i == st
/-- What AND (st = 0) and OR (st = 1) answer. -/
def andor (st : Int) (ds : List Dt) : Dt :=
  if ds.any (isSt st) then ⟨1, st, ⟨#[]⟩⟩ else if ds.any (fun d => d.k == 0) then Dt.zero else truthD (st == 0)
def notF (d : Dt) : Dt := if d.k = 0 then Dt.zero else truthD (d.i == 0)

set_option maxHeartbeats 400000 in
theorem logic_not (d : Dt) (b o cap : Nat) (w : World) (hbk : b < w.heap.size) (hc : DCells w b o [d]) :
    Calls Tryd.prog 25 #[.int .i64 2, .slice (some ⟨b, o, none⟩) 1 cap] w fun e w' => e = .returned (notF d).v ∧ Below w.heap.size w w' := by
  obtain ⟨h0, h1, h2⟩ := hc 0 (by simp)
  have e : dnth [d] 0 = d := rfl
  rw [e] at h0 h1 h2
  clear e hc
  simp only [Nat.zero_mul, Nat.add_zero] at h0 h1 h2
  have HN := Lib.hid (show notF d = if d.k = 0 then Dt.zero else truthD (d.i == 0) from rfl)
  by_cases hk : d.k = 0
  · have HE : Hid (notF d = Dt.zero) := by rw [HN.out, if_pos hk]; rfl
    rw [hk] at h0
    rw [HE.out]
    clear HN HE hk
    go_enter Tryd.func25, Tryd.ntmps25
    go_wp2
    refine bodyPost_ret (v := Dt.zero.v) (by simp [results, Tryd.results25, go_sem, Dt.zero, Dt.v]) rfl ⟨rfl, ?_⟩
    exact (Below.refl _ _).alloc (Nat.le_refl _) _
  · have HE : Hid (notF d = truthD (d.i == 0)) := by rw [HN.out, if_neg hk]; rfl
    rw [HE.out]
    have hk2 : (d.k == 0) = false := by simpa using hk
    clear HN HE hk
    generalize d.k = dk at *
    generalize d.i = di at *
    go_enter Tryd.func25, Tryd.ntmps25
    go_wp2_with fail
    refine (truth_any _ _).mono ?_
    rintro e w1 ⟨rfl, hb⟩
    rw [World.size_alloc] at hb
    obtain ⟨⟨b1, b2, b3⟩, ⟨f1, f2, f3⟩, hB, hz⟩ := box_new hb
    have HB := Lib.hid hB
    clear hb hB
    generalize hfin : truthD (di == 0) = tv
    have HF := Lib.hid hfin
    clear hfin
    obtain ⟨tk, ti, ts⟩ := tv
    go_wp2_with fail
    refine bodyPost_ret (v := .agg #[.int .i64 tk, .int .i64 ti, .string ts]) (by simp [results, Tryd.results25, go_sem, b1, b2, b3]) rfl ⟨by rw [HF.out], ?_⟩
    exact ((HB.out.setCell (Nat.le_refl _) _).setCell (Nat.le_refl _) _).setCell (Nat.le_refl _) _

set_option maxHeartbeats 1000000 in
theorem logic_and (ds : List Dt) (b o cap : Nat) (w : World) (hn : ds.length ≤ 1000) (hbk : b < w.heap.size) (hr : ∀ j, j < ds.length → (dnth ds j).k = 1 → (dnth ds j).s = ⟨#[]⟩) (hc : DCells w b o ds) :
    Calls Tryd.prog 25 #[.int .i64 13, .slice (some ⟨b, o, none⟩) ds.length cap] w fun e w' => e = .returned (andor 0 ds).v ∧ Below w.heap.size w w' := by
  have Hc := Lib.hid hc
  have Hr := Lib.hid hr
  clear hc hr
  have HA := Lib.hid (show andor 0 ds = if ds.any (isSt 0) then ⟨1, 0, ⟨#[]⟩⟩ else if ds.any (fun d => d.k == 0) then Dt.zero else truthD (0 == 0) from rfl)
  have HS := Lib.hid (fun d => show isSt 0 d = (d.k == 1 && d.i == 0) from rfl)
  go_enter Tryd.func25, Tryd.ntmps25
  go_wp2_with fail
  go_loopw [7, 26] (fun _ i wr => ∃ k : Nat, k ≤ ds.length ∧ i = .int .i64 k ∧ Below (w.heap.size + 1) (w.alloc (.cells #[.int .i64 0, .int .i64 0, .string ⟨#[]⟩] 24)) wr ∧ (∀ j, j < k → isSt 0 (dnth ds j) = false)) (fun _ i _ => ds.length - (intOf i).toNat)
  case atStart => exact ⟨0, Nat.zero_le _, rfl, Below.refl _ _, fun j hj => by omega⟩
  case round =>
    obtain ⟨k, hk, rfl, hb, hz⟩ := hrel
    have Hz := Lib.hid hz
    obtain ⟨⟨b1, b2, b3⟩, ⟨f1, f2, f3⟩, hB, hzw⟩ := box_new hb
    have HB := Lib.hid hB
    have Hb := Lib.hid hb
    clear hz hb hB
    by_cases hlt : k < ds.length
    · have hzero : (0 : Int) ≤ k := by omega
      obtain ⟨hc0, hc1, hc2⟩ := Hc.out.at HB.out hbk k hlt
      have Hrk := Lib.hid (Hr.out k hlt)
      have HSk := Lib.hid (HS.out (dnth ds k))
      generalize hdd : dnth ds k = dd at *
      have HD := Lib.hid hdd
      clear hdd
      obtain ⟨dk, di, dst⟩ := dd
      dsimp only at hc0 hc1 hc2
      by_cases hk1 : dk = 1
      · subst hk1
        by_cases hd1 : di = 0
        · subst hd1
          have hs1 : dst = ⟨#[]⟩ := Hrk.out rfl
          subst hs1
          have HE : Hid (andor 0 ds = ⟨1, 0, ⟨#[]⟩⟩) := by
            have h1 : ds.any (isSt 0) = true := any_true hlt (by rw [HD.out, HSk.out]; rfl)
            show andor 0 ds = _
            rw [HA.out, if_pos h1]
          go_wp2_with fail
          refine bodyPost_ret (v := .agg #[.int .i64 1, .int .i64 0, .string ⟨#[]⟩]) (by simp [results, Tryd.results25, go_sem, b1, b2, b3, World.cell?_alloc_past, hzw]) rfl ⟨by rw [HE.out], ?_⟩
          exact (((HB.out.setCell (Nat.le_refl _) _).setCell (Nat.le_refl _) _).setCell (Nat.le_refl _) _).alloc (by simp; omega) _
        · have hd2 : (di == 0) = false := by simpa using hd1
          clear hd1
          go_wp2_with fail
          go_roundw
          case rel => exact ⟨k + 1, by omega, by go_num, Hb.out.alloc (by omega) _, fun j hj => by
            rcases Nat.lt_succ_iff_lt_or_eq.1 hj with h | h
            · exact Hz.out j h
            · rw [h, HD.out, HSk.out]; simp [hd2]⟩
          case measure => simp [intOf]; omega
      · have hk2 : (dk == 1) = false := by simpa using hk1
        clear hk1
        go_wp2_with fail
        go_roundw
        case rel => exact ⟨k + 1, by omega, by go_num, Hb.out.alloc (by omega) _, fun j hj => by
          rcases Nat.lt_succ_iff_lt_or_eq.1 hj with h | h
          · exact Hz.out j h
          · rw [h, HD.out, HSk.out]; simp [hk2]⟩
        case measure => simp [intOf]; omega
    · have H1 : Hid (ds.any (isSt 0) = false) := any_false (p := isSt 0) (fun j hj => Hz.out j (by omega))
      have Hc2 : Hid (DCells wr b o ds) := Hc.out.below HB.out hbk
      go_wp2_with fail
      refine (anyNull_any ds b o cap _ hn (by omega) Hc2.out).mono ?_
      rintro e w2 ⟨rfl, hb2⟩
      obtain ⟨⟨c1, c2, c3⟩, ⟨g1, g2, g3⟩⟩ := box_kept hb2 (n := w.heap.size) (by omega) b1 b2 b3 (fun i => by rw [Hb.out.frozen (p := ⟨w.heap.size, i, none⟩) (by simp)]; exact World.frozen?_alloc_new ..)
      have HB2 := Lib.hid (HB.out.trans (hb2.mono (by omega)))
      have hz2 := hb2.size
      generalize hnul : (ds.any fun d => d.k == 0) = nul
      have HN := Lib.hid hnul
      clear hnul b1 b2 b3 f1 f2 f3
      cases nul
      · go_wp2_with fail
        refine (truth_any _ _).mono ?_
        rintro e w3 ⟨rfl, hb3⟩
        obtain ⟨⟨d1, d2, d3⟩, ⟨e1, e2, e3⟩⟩ := box_kept hb3 (n := w.heap.size) (by omega) c1 c2 c3 (fun i => by rw [hb2.frozen (p := ⟨w.heap.size, i, none⟩) (by show w.heap.size < _; omega), Hb.out.frozen (p := ⟨w.heap.size, i, none⟩) (by simp)]; exact World.frozen?_alloc_new ..)
        have HB3 := Lib.hid (HB2.out.trans (hb3.mono (by omega)))
        have HE : Hid (andor 0 ds = truthD true) := by
          show andor 0 ds = _
          rw [HA.out, if_neg (by rw [H1.out]; simp), if_neg (by rw [HN.out]; simp)]
          rfl
        clear hb2 hb3
        generalize hfin : truthD _ = tv
        have HF := Lib.hid hfin
        clear hfin
        obtain ⟨tk, ti, ts⟩ := tv
        go_wp2_with fail
        refine bodyPost_ret (v := .agg #[.int .i64 tk, .int .i64 ti, .string ts]) (by simp [results, Tryd.results25, go_sem, d1, d2, d3]) rfl ⟨by rw [HE.out, HF.out], ?_⟩
        exact ((HB3.out.setCell (Nat.le_refl _) _).setCell (Nat.le_refl _) _).setCell (Nat.le_refl _) _
      · have HE : Hid (andor 0 ds = Dt.zero) := by
          show andor 0 ds = _
          rw [HA.out, if_neg (by rw [H1.out]; simp), if_pos HN.out]
        clear hb2
        go_wp2_with fail
        refine bodyPost_ret (v := Dt.zero.v) (by simp [results, Tryd.results25, go_sem, c1, c2, c3, Dt.zero]) rfl ⟨by rw [HE.out], ?_⟩
        exact ((HB2.out.setCell (Nat.le_refl _) _).setCell (Nat.le_refl _) _).setCell (Nat.le_refl _) _
set_option maxHeartbeats 1000000 in
theorem logic_or (ds : List Dt) (b o cap : Nat) (w : World) (hn : ds.length ≤ 1000) (hbk : b < w.heap.size) (hr : ∀ j, j < ds.length → (dnth ds j).k = 1 → (dnth ds j).s = ⟨#[]⟩) (hc : DCells w b o ds) :
    Calls Tryd.prog 25 #[.int .i64 14, .slice (some ⟨b, o, none⟩) ds.length cap] w fun e w' => e = .returned (andor 1 ds).v ∧ Below w.heap.size w w' := by
  have Hc := Lib.hid hc
  have Hr := Lib.hid hr
  clear hc hr
  have HA := Lib.hid (show andor 1 ds = if ds.any (isSt 1) then ⟨1, 1, ⟨#[]⟩⟩ else if ds.any (fun d => d.k == 0) then Dt.zero else truthD (1 == 0) from rfl)
  have HS := Lib.hid (fun d => show isSt 1 d = (d.k == 1 && d.i == 1) from rfl)
  go_enter Tryd.func25, Tryd.ntmps25
  go_wp2_with fail
  go_loopw [7, 26] (fun _ i wr => ∃ k : Nat, k ≤ ds.length ∧ i = .int .i64 k ∧ Below (w.heap.size + 1) (w.alloc (.cells #[.int .i64 0, .int .i64 0, .string ⟨#[]⟩] 24)) wr ∧ (∀ j, j < k → isSt 1 (dnth ds j) = false)) (fun _ i _ => ds.length - (intOf i).toNat)
  case atStart => exact ⟨0, Nat.zero_le _, rfl, Below.refl _ _, fun j hj => by omega⟩
  case round =>
    obtain ⟨k, hk, rfl, hb, hz⟩ := hrel
    have Hz := Lib.hid hz
    obtain ⟨⟨b1, b2, b3⟩, ⟨f1, f2, f3⟩, hB, hzw⟩ := box_new hb
    have HB := Lib.hid hB
    have Hb := Lib.hid hb
    clear hz hb hB
    by_cases hlt : k < ds.length
    · have hzero : (0 : Int) ≤ k := by omega
      obtain ⟨hc0, hc1, hc2⟩ := Hc.out.at HB.out hbk k hlt
      have Hrk := Lib.hid (Hr.out k hlt)
      have HSk := Lib.hid (HS.out (dnth ds k))
      generalize hdd : dnth ds k = dd at *
      have HD := Lib.hid hdd
      clear hdd
      obtain ⟨dk, di, dst⟩ := dd
      dsimp only at hc0 hc1 hc2
      by_cases hk1 : dk = 1
      · subst hk1
        by_cases hd1 : di = 1
        · subst hd1
          have hs1 : dst = ⟨#[]⟩ := Hrk.out rfl
          subst hs1
          have HE : Hid (andor 1 ds = ⟨1, 1, ⟨#[]⟩⟩) := by
            have h1 : ds.any (isSt 1) = true := any_true hlt (by rw [HD.out, HSk.out]; rfl)
            show andor 1 ds = _
            rw [HA.out, if_pos h1]
          go_wp2_with fail
          refine bodyPost_ret (v := .agg #[.int .i64 1, .int .i64 1, .string ⟨#[]⟩]) (by simp [results, Tryd.results25, go_sem, b1, b2, b3, World.cell?_alloc_past, hzw]) rfl ⟨by rw [HE.out], ?_⟩
          exact (((HB.out.setCell (Nat.le_refl _) _).setCell (Nat.le_refl _) _).setCell (Nat.le_refl _) _).alloc (by simp; omega) _
        · have hd2 : (di == 1) = false := by simpa using hd1
          clear hd1
          go_wp2_with fail
          go_roundw
          case rel => exact ⟨k + 1, by omega, by go_num, Hb.out.alloc (by omega) _, fun j hj => by
            rcases Nat.lt_succ_iff_lt_or_eq.1 hj with h | h
            · exact Hz.out j h
            · rw [h, HD.out, HSk.out]; simp [hd2]⟩
          case measure => simp [intOf]; omega
      · have hk2 : (dk == 1) = false := by simpa using hk1
        clear hk1
        go_wp2_with fail
        go_roundw
        case rel => exact ⟨k + 1, by omega, by go_num, Hb.out.alloc (by omega) _, fun j hj => by
          rcases Nat.lt_succ_iff_lt_or_eq.1 hj with h | h
          · exact Hz.out j h
          · rw [h, HD.out, HSk.out]; simp [hk2]⟩
        case measure => simp [intOf]; omega
    · have H1 : Hid (ds.any (isSt 1) = false) := any_false (p := isSt 1) (fun j hj => Hz.out j (by omega))
      have Hc2 : Hid (DCells wr b o ds) := Hc.out.below HB.out hbk
      go_wp2_with fail
      refine (anyNull_any ds b o cap _ hn (by omega) Hc2.out).mono ?_
      rintro e w2 ⟨rfl, hb2⟩
      obtain ⟨⟨c1, c2, c3⟩, ⟨g1, g2, g3⟩⟩ := box_kept hb2 (n := w.heap.size) (by omega) b1 b2 b3 (fun i => by rw [Hb.out.frozen (p := ⟨w.heap.size, i, none⟩) (by simp)]; exact World.frozen?_alloc_new ..)
      have HB2 := Lib.hid (HB.out.trans (hb2.mono (by omega)))
      have hz2 := hb2.size
      generalize hnul : (ds.any fun d => d.k == 0) = nul
      have HN := Lib.hid hnul
      clear hnul b1 b2 b3 f1 f2 f3
      cases nul
      · go_wp2_with fail
        refine (truth_any _ _).mono ?_
        rintro e w3 ⟨rfl, hb3⟩
        obtain ⟨⟨d1, d2, d3⟩, ⟨e1, e2, e3⟩⟩ := box_kept hb3 (n := w.heap.size) (by omega) c1 c2 c3 (fun i => by rw [hb2.frozen (p := ⟨w.heap.size, i, none⟩) (by show w.heap.size < _; omega), Hb.out.frozen (p := ⟨w.heap.size, i, none⟩) (by simp)]; exact World.frozen?_alloc_new ..)
        have HB3 := Lib.hid (HB2.out.trans (hb3.mono (by omega)))
        have HE : Hid (andor 1 ds = truthD false) := by
          show andor 1 ds = _
          rw [HA.out, if_neg (by rw [H1.out]; simp), if_neg (by rw [HN.out]; simp)]
          rfl
        clear hb2 hb3
        generalize hfin : truthD _ = tv
        have HF := Lib.hid hfin
        clear hfin
        obtain ⟨tk, ti, ts⟩ := tv
        go_wp2_with fail
        refine bodyPost_ret (v := .agg #[.int .i64 tk, .int .i64 ti, .string ts]) (by simp [results, Tryd.results25, go_sem, d1, d2, d3]) rfl ⟨by rw [HE.out, HF.out], ?_⟩
        exact ((HB3.out.setCell (Nat.le_refl _) _).setCell (Nat.le_refl _) _).setCell (Nat.le_refl _) _
      · have HE : Hid (andor 1 ds = Dt.zero) := by
          show andor 1 ds = _
          rw [HA.out, if_neg (by rw [H1.out]; simp), if_pos HN.out]
        clear hb2
        go_wp2_with fail
        refine bodyPost_ret (v := Dt.zero.v) (by simp [results, Tryd.results25, go_sem, c1, c2, c3, Dt.zero]) rfl ⟨by rw [HE.out], ?_⟩
        exact ((HB2.out.setCell (Nat.le_refl _) _).setCell (Nat.le_refl _) _).setCell (Nat.le_refl _) _
end Go.Proofs.YtidejjjedpdbeaaDoor

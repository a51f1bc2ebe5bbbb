/- Contract of datum.Right for all kinds but TEXT: whether a value may be. Contract of datum.Apply, operator by operator. Contract of datum.Apply at arithmetic. -/
import Derived.Test.YtokbdleokihdaaaGreatDoorG02
import Derived.Test.YtokbdleokihdaaaGreatDoorShelf
import Derived.Test.YtokbdleokihdaaaGreatDoorRightL
import Derived.Shelf.Unicode.DecodeSlow
import Derived.Lib.ValidU
namespace Go.Proofs.YtokbdleokihdaaaGreatDoor
open Go.RowKit

/-- The tables of unicode/utf8 are as they are laid. -/
def Tabs (w : World) : Prop := Lib.Utf8Tabs 0 1 w
theorem Tabs.below {w w' : World} (h : Tabs w) (hb : Below w.heap.size w w') : Tabs w' := Utf8Tabs_below h hb

set_option maxHeartbeats 1000000 in
theorem right_not (k i : Int) (s : ByteArray) (w : World) (h4 : k ≠ 4) :
    Calls Tryz.prog 16 #[.agg #[.int .i64 k, .int .i64 i, .string s]] w fun e w' => e = .returned (.bool (rightN k i s)) ∧ Below w.heap.size w w' := by
  have hk : k = 0 ∨ k = 1 ∨ k = 2 ∨ k = 3 ∨ k = 5 ∨ (¬ k = 0 ∧ ¬ k = 1 ∧ ¬ k = 2 ∧ ¬ k = 3 ∧ ¬ k = 5) := by omega
  rcases hk with rfl | rfl | rfl | rfl | rfl | ⟨n0, n1, n2, n3, n5⟩
  iterate 5
    · clear h4
      go_enter Tryz.func16, Tryz.ntmps16
      go_wp2_with fail
      all_goals
        go_ret
        exact ⟨ret_bool (by simp [rightN, *] <;> omega), (Below.refl _ _).alloc (Nat.le_refl _) _⟩
  · have b0 : (k == 0) = false := by simpa using n0
    have b1 : (k == 1) = false := by simpa using n1
    have b2 : (k == 2) = false := by simpa using n2
    have b3 : (k == 3) = false := by simpa using n3
    have b4 : (k == 4) = false := by simpa using h4
    have b5 : (k == 5) = false := by simpa using n5
    have HE : Hid (rightN k i s = false) := by show rightN k i s = false; simp [rightN, n0, n1, n2, n3, n5]
    clear n0 n1 n2 n3 h4 n5
    go_enter Tryz.func16, Tryz.ntmps16
    go_wp2_with fail
    go_ret
    exact ⟨ret_bool (by rw [HE.out]), (Below.refl _ _).alloc (Nat.le_refl _) _⟩

set_option maxHeartbeats 1000000 in
theorem right_any (k i : Int) (s : ByteArray) (w : World) (hT : Tabs w) :
    Calls Tryz.prog 16 #[.agg #[.int .i64 k, .int .i64 i, .string s]] w fun e w' => e = .returned (.bool (rightD ⟨k, i, s⟩)) ∧ Below w.heap.size w w' := by
  by_cases h4 : k = 4
  · subst h4
    have HE : rightD ⟨4, i, s⟩ = (i == 0 && (decide (s.size ≤ 1000) && Lib.validD s.data.toList)) := by simp [rightD]
    rw [HE]
    clear HE
    by_cases h0 : i = 0
    · subst h0
      by_cases hs : s.size ≤ 1000
      · have hT1 := Lib.hid (hT.below ((Below.refl w.heap.size w).alloc (Nat.le_refl _) (.cells #[.int .i64 4, .int .i64 0, .string s] 27)))
        have hsz : (s.size : Int) ≤ 1000 := by omega
        have hd : decide (s.size ≤ 1000) = true := by simpa using hs
        rw [hd]
        clear hd hT
        go_enter Tryz.func16, Tryz.ntmps16
        go_wp2_with fail
        refine (Tryz.utf8_ValidString s _ (by omega) hT1.out).mono ?_
        rintro e w1 ⟨rfl, hb⟩
        have HB := Lib.hid (((Below.refl w.heap.size w).alloc (Nat.le_refl _) (.cells #[.int .i64 4, .int .i64 0, .string s] 27)).trans (hb.mono (by simp)))
        clear hb
        go_wp2_with fail
        go_ret
        exact ⟨by simp, HB.out⟩
      · have hsz : ¬ (s.size : Int) ≤ 1000 := by omega
        have hd : decide (s.size ≤ 1000) = false := by simpa using hs
        rw [hd]
        clear hd hT
        go_enter Tryz.func16, Tryz.ntmps16
        go_wp2_with fail
        go_ret
        exact ⟨by simp, (Below.refl _ _).alloc (Nat.le_refl _) _⟩
    · have h0' : (i == 0) = false := by simpa using h0
      rw [h0']
      clear h0 hT
      go_enter Tryz.func16, Tryz.ntmps16
      go_wp2_with fail
      go_ret
      exact ⟨by simp, (Below.refl _ _).alloc (Nat.le_refl _) _⟩
  · have : rightD ⟨k, i, s⟩ = rightN k i s := by simp [rightD, h4]
    rw [this]
    exact right_not k i s w h4
end Go.Proofs.YtokbdleokihdaaaGreatDoor
namespace Go.Proofs.YtokbdleokihdaaaGreatDoor
open Go.RowKit

theorem round_hyp {w wr : World} {b o : Nat} {ds : List Dt} {x : Obj} (hT : Tabs w) (hc : DCells w b o ds) (hbk : b < w.heap.size) (hb : Below (w.heap.size + 1) (w.alloc x) wr) : Tabs wr ∧ DCells wr b o ds ∧ w.heap.size < wr.heap.size := by
  have h1 : Below w.heap.size w wr := ((Below.refl w.heap.size w).alloc (Nat.le_refl _) x).trans (hb.mono (by omega))
  have := hb.size
  rw [World.size_alloc] at this
  exact ⟨hT.below h1, hc.below h1 hbk, by omega⟩
/-- What the operators of truth answer. -/
def notR (d : Dt) : Dt × Int := if [d].all (isOf [1]) then (notF d, 0) else (Dt.zero, 5)
def andorR (st : Int) (d d' : Dt) : Dt × Int := if [d, d'].all (isOf [1]) then (andor st [d, d'], 0) else (Dt.zero, 5)
theorem right_bool {d : Dt} (h : rightD d = true) (hk : d.k = 1) : d.s = ⟨#[]⟩ := by
  simp [rightD, rightN, hk] at h
  have h2 := h.2
  rw [ByteArray.toList_eq] at h2
  obtain ⟨k, i, ⟨s⟩⟩ := d
  simp at h2 ⊢
  exact h2

set_option maxHeartbeats 1000000 in
theorem apply_not (d : Dt) (b o cap : Nat) (w : World) (hbk : b < w.heap.size) (hc : DCells w b o [d]) (hT : Tabs w) (hr : rightD d = true)  :
    Calls Tryz.prog 64 #[.int .i64 2, .slice (some ⟨b, o, none⟩) 1 cap] w fun e w' => e = .returned (.tuple #[(notR d).1.v, .int .i64 (notR d).2]) ∧ Below w.heap.size w w' := by
  have hm : manyF 2 = 1 := by decide
  have Hc := Lib.hid hc
  have HT := Lib.hid hT
  have Hr := Lib.hid hr
  clear hc hT hr
  go_enter Tryz.func64, Tryz.ntmps64
  go_wp2_with (go_at_call 79; refine (many_any _ _).mono ?_; rintro e w' ⟨rfl, rfl⟩)
  go_loopw [7, 23] (fun _ i wr => ∃ k : Nat, k ≤ 1 ∧ i = .int .i64 k ∧ Below (w.heap.size + 1) (w.alloc (.cells #[.int .i64 0, .int .i64 0, .string ⟨#[]⟩] 27)) wr) (fun _ i _ => 1 - (intOf i).toNat)
  case atStart => exact ⟨0, Nat.zero_le _, rfl, Below.refl _ _⟩
  case round =>
    obtain ⟨k, hk, rfl, hbl⟩ := hrel
    have hzw : w.heap.size < wr.heap.size := (box_new hbl).2.2.2
    have HB := Lib.hid (box_new hbl).2.2.1
    have HTr := Lib.hid (round_hyp HT.out Hc.out hbk hbl).1
    have Hcr := Lib.hid (round_hyp HT.out Hc.out hbk hbl).2.1
    have Hb := Lib.hid hbl
    clear hbl
    by_cases hlt : k < 1
    · have hzero : (0 : Int) ≤ k := by omega
      obtain ⟨hc0, hc1, hc2⟩ := Hcr.out k hlt
      have Hrk : Hid (rightD (dnth [d] k) = true) := by
        obtain rfl : k = 0 := by omega
        exact Hr.out
      generalize dnth [d] k = dd at *
      obtain ⟨dk, di, dst⟩ := dd
      dsimp only at hc0 hc1 hc2
      go_wp2_with fail
      refine (right_any _ _ _ _ (HTr.out.below ((Below.refl _ _).alloc (Nat.le_refl _) _))).mono ?_
      rintro e w2 ⟨rfl, hb2⟩
      have HR := Lib.hid ((Hb.out.alloc (by omega) _).trans (hb2.mono (by simp; omega)))
      clear hb2
      rw [Hrk.out]
      go_wp2_with fail
      go_roundw
      case rel => exact ⟨k + 1, by omega, by go_num, HR.out⟩
      case measure => simp [intOf]; omega
    · clear Hc HT
      go_wp2_with fail
      refine (of_any [d] b o cap [1] _ _ _ (by simp) (by simp; omega) (Hcr.out.below ((Below.refl _ _).alloc (Nat.le_refl _) _) (by omega)) (by simp) (by simp) (kinds_new _ _ _ rfl)).mono ?_
      rintro e w2 ⟨rfl, hb2⟩
      have HR := Lib.hid ((Hb.out.alloc (by omega) _).trans (hb2.mono (by simp; omega)))
      have HT2 := Lib.hid ((HTr.out.below ((Below.refl _ _).alloc (Nat.le_refl _) _)).below hb2)
      have Hc2 := Lib.hid ((Hcr.out.below ((Below.refl _ _).alloc (Nat.le_refl _) _) (by omega)).below hb2 (by simp; omega))
      clear hb2 Hb HTr Hcr HB
      obtain ⟨⟨b1, b2, b3⟩, ⟨f1, f2, f3⟩, hB, hzw2⟩ := box_new HR.out
      have HB := Lib.hid hB
      clear hB hzw
      generalize hall : [d].all (isOf [1]) = al
      have Hall := Lib.hid hall
      clear hall
      cases al
      · -- some value is of another kind
        have HE : Hid (notR d = (Dt.zero, 5)) := by show notR d = _; rw [notR, if_neg (by rw [Hall.out]; simp)]
        go_wp2_with fail
        refine bodyPost_ret (v := .tuple #[Dt.zero.v, .int .i64 5]) (by simp [results, Tryz.results64, go_sem, b1, b2, b3, Dt.zero]) rfl ⟨by rw [HE.out], ?_⟩
        exact ((HB.out.setCell (Nat.le_refl _) _).setCell (Nat.le_refl _) _).setCell (Nat.le_refl _) _
      · -- all are NULL or of these kinds
        clear b1 b2 b3 f1 f2 f3
        have HE : Hid (notR d = (notF d, 0)) := by show notR d = _; rw [notR, if_pos Hall.out]
        go_wp2_with fail
        refine (logic_not d b o cap _ (by omega) Hc2.out).mono ?_
        rintro e w3 ⟨rfl, hb3⟩
        have HR3 := Lib.hid (HR.out.trans (hb3.mono (by omega)))
        clear hb3 HR HB
        obtain ⟨⟨b1, b2, b3⟩, ⟨f1, f2, f3⟩, hB, hzw3⟩ := box_new HR3.out
        have HB := Lib.hid hB
        clear hB
        generalize hfin : notF d = tv
        have HF := Lib.hid hfin
        clear hfin
        obtain ⟨tk, ti, ts⟩ := tv
        go_wp2_with fail
        refine bodyPost_ret (v := .tuple #[.agg #[.int .i64 tk, .int .i64 ti, .string ts], .int .i64 0]) (by simp [results, Tryz.results64, go_sem, b1, b2, b3]) rfl ⟨by rw [HE.out, HF.out], ?_⟩
        exact ((HB.out.setCell (Nat.le_refl _) _).setCell (Nat.le_refl _) _).setCell (Nat.le_refl _) _

set_option maxHeartbeats 1000000 in
theorem apply_and (d d' : Dt) (b o cap : Nat) (w : World) (hbk : b < w.heap.size) (hc : DCells w b o [d, d']) (hT : Tabs w) (hr : rightD d = true) (hr' : rightD d' = true)  :
    Calls Tryz.prog 64 #[.int .i64 13, .slice (some ⟨b, o, none⟩) 2 cap] w fun e w' => e = .returned (.tuple #[(andorR 0 d d').1.v, .int .i64 (andorR 0 d d').2]) ∧ Below w.heap.size w w' := by
  have hm : manyF 13 = 2 := by decide
  have Hbool : Hid (∀ j, j < [d, d'].length → (dnth [d, d'] j).k = 1 → (dnth [d, d'] j).s = ⟨#[]⟩) := by
    intro j hj hk
    rcases (by simp at hj; omega : j = 0 ∨ j = 1) with rfl | rfl
    · exact right_bool hr hk
    · exact right_bool hr' hk
  have Hc := Lib.hid hc
  have HT := Lib.hid hT
  have Hr := Lib.hid hr
  have Hr' := Lib.hid hr'
  clear hc hT hr hr'
  go_enter Tryz.func64, Tryz.ntmps64
  go_wp2_with (go_at_call 79; refine (many_any _ _).mono ?_; rintro e w' ⟨rfl, rfl⟩)
  go_loopw [7, 23] (fun _ i wr => ∃ k : Nat, k ≤ 2 ∧ i = .int .i64 k ∧ Below (w.heap.size + 1) (w.alloc (.cells #[.int .i64 0, .int .i64 0, .string ⟨#[]⟩] 27)) wr) (fun _ i _ => 2 - (intOf i).toNat)
  case atStart => exact ⟨0, Nat.zero_le _, rfl, Below.refl _ _⟩
  case round =>
    obtain ⟨k, hk, rfl, hbl⟩ := hrel
    have hzw : w.heap.size < wr.heap.size := (box_new hbl).2.2.2
    have HB := Lib.hid (box_new hbl).2.2.1
    have HTr := Lib.hid (round_hyp HT.out Hc.out hbk hbl).1
    have Hcr := Lib.hid (round_hyp HT.out Hc.out hbk hbl).2.1
    have Hb := Lib.hid hbl
    clear hbl
    by_cases hlt : k < 2
    · have hzero : (0 : Int) ≤ k := by omega
      obtain ⟨hc0, hc1, hc2⟩ := Hcr.out k hlt
      have Hrk : Hid (rightD (dnth [d, d'] k) = true) := by
        rcases (by omega : k = 0 ∨ k = 1) with rfl | rfl
        · exact Hr.out
        · exact Hr'.out
      generalize dnth [d, d'] k = dd at *
      obtain ⟨dk, di, dst⟩ := dd
      dsimp only at hc0 hc1 hc2
      go_wp2_with fail
      refine (right_any _ _ _ _ (HTr.out.below ((Below.refl _ _).alloc (Nat.le_refl _) _))).mono ?_
      rintro e w2 ⟨rfl, hb2⟩
      have HR := Lib.hid ((Hb.out.alloc (by omega) _).trans (hb2.mono (by simp; omega)))
      clear hb2
      rw [Hrk.out]
      go_wp2_with fail
      go_roundw
      case rel => exact ⟨k + 1, by omega, by go_num, HR.out⟩
      case measure => simp [intOf]; omega
    · clear Hc HT
      go_wp2_with fail
      refine (of_any [d, d'] b o cap [1] _ _ _ (by simp) (by simp; omega) (Hcr.out.below ((Below.refl _ _).alloc (Nat.le_refl _) _) (by omega)) (by simp) (by simp) (kinds_new _ _ _ rfl)).mono ?_
      rintro e w2 ⟨rfl, hb2⟩
      have HR := Lib.hid ((Hb.out.alloc (by omega) _).trans (hb2.mono (by simp; omega)))
      have HT2 := Lib.hid ((HTr.out.below ((Below.refl _ _).alloc (Nat.le_refl _) _)).below hb2)
      have Hc2 := Lib.hid ((Hcr.out.below ((Below.refl _ _).alloc (Nat.le_refl _) _) (by omega)).below hb2 (by simp; omega))
      clear hb2 Hb HTr Hcr HB
      obtain ⟨⟨b1, b2, b3⟩, ⟨f1, f2, f3⟩, hB, hzw2⟩ := box_new HR.out
      have HB := Lib.hid hB
      clear hB hzw
      generalize hall : [d, d'].all (isOf [1]) = al
      have Hall := Lib.hid hall
      clear hall
      cases al
      · -- some value is of another kind
        have HE : Hid (andorR 0 d d' = (Dt.zero, 5)) := by show andorR 0 d d' = _; rw [andorR, if_neg (by rw [Hall.out]; simp)]
        go_wp2_with fail
        refine bodyPost_ret (v := .tuple #[Dt.zero.v, .int .i64 5]) (by simp [results, Tryz.results64, go_sem, b1, b2, b3, Dt.zero]) rfl ⟨by rw [HE.out], ?_⟩
        exact ((HB.out.setCell (Nat.le_refl _) _).setCell (Nat.le_refl _) _).setCell (Nat.le_refl _) _
      · -- all are NULL or of these kinds
        clear b1 b2 b3 f1 f2 f3
        have HE : Hid (andorR 0 d d' = (andor 0 [d, d'], 0)) := by show andorR 0 d d' = _; rw [andorR, if_pos Hall.out]
        go_wp2_with fail
        refine (logic_and [d, d'] b o cap _ (by simp) (by omega) (fun j hj hk => Hbool.out j hj hk) Hc2.out).mono ?_
        rintro e w3 ⟨rfl, hb3⟩
        have HR3 := Lib.hid (HR.out.trans (hb3.mono (by omega)))
        clear hb3 HR HB
        obtain ⟨⟨b1, b2, b3⟩, ⟨f1, f2, f3⟩, hB, hzw3⟩ := box_new HR3.out
        have HB := Lib.hid hB
        clear hB
        generalize hfin : andor 0 [d, d'] = tv
        have HF := Lib.hid hfin
        clear hfin
        obtain ⟨tk, ti, ts⟩ := tv
        go_wp2_with fail
        refine bodyPost_ret (v := .tuple #[.agg #[.int .i64 tk, .int .i64 ti, .string ts], .int .i64 0]) (by simp [results, Tryz.results64, go_sem, b1, b2, b3]) rfl ⟨by rw [HE.out, HF.out], ?_⟩
        exact ((HB.out.setCell (Nat.le_refl _) _).setCell (Nat.le_refl _) _).setCell (Nat.le_refl _) _

set_option maxHeartbeats 1000000 in
theorem apply_or (d d' : Dt) (b o cap : Nat) (w : World) (hbk : b < w.heap.size) (hc : DCells w b o [d, d']) (hT : Tabs w) (hr : rightD d = true) (hr' : rightD d' = true)  :
    Calls Tryz.prog 64 #[.int .i64 14, .slice (some ⟨b, o, none⟩) 2 cap] w fun e w' => e = .returned (.tuple #[(andorR 1 d d').1.v, .int .i64 (andorR 1 d d').2]) ∧ Below w.heap.size w w' := by
  have hm : manyF 14 = 2 := by decide
  have Hbool : Hid (∀ j, j < [d, d'].length → (dnth [d, d'] j).k = 1 → (dnth [d, d'] j).s = ⟨#[]⟩) := by
    intro j hj hk
    rcases (by simp at hj; omega : j = 0 ∨ j = 1) with rfl | rfl
    · exact right_bool hr hk
    · exact right_bool hr' hk
  have Hc := Lib.hid hc
  have HT := Lib.hid hT
  have Hr := Lib.hid hr
  have Hr' := Lib.hid hr'
  clear hc hT hr hr'
  go_enter Tryz.func64, Tryz.ntmps64
  go_wp2_with (go_at_call 79; refine (many_any _ _).mono ?_; rintro e w' ⟨rfl, rfl⟩)
  go_loopw [7, 23] (fun _ i wr => ∃ k : Nat, k ≤ 2 ∧ i = .int .i64 k ∧ Below (w.heap.size + 1) (w.alloc (.cells #[.int .i64 0, .int .i64 0, .string ⟨#[]⟩] 27)) wr) (fun _ i _ => 2 - (intOf i).toNat)
  case atStart => exact ⟨0, Nat.zero_le _, rfl, Below.refl _ _⟩
  case round =>
    obtain ⟨k, hk, rfl, hbl⟩ := hrel
    have hzw : w.heap.size < wr.heap.size := (box_new hbl).2.2.2
    have HB := Lib.hid (box_new hbl).2.2.1
    have HTr := Lib.hid (round_hyp HT.out Hc.out hbk hbl).1
    have Hcr := Lib.hid (round_hyp HT.out Hc.out hbk hbl).2.1
    have Hb := Lib.hid hbl
    clear hbl
    by_cases hlt : k < 2
    · have hzero : (0 : Int) ≤ k := by omega
      obtain ⟨hc0, hc1, hc2⟩ := Hcr.out k hlt
      have Hrk : Hid (rightD (dnth [d, d'] k) = true) := by
        rcases (by omega : k = 0 ∨ k = 1) with rfl | rfl
        · exact Hr.out
        · exact Hr'.out
      generalize dnth [d, d'] k = dd at *
      obtain ⟨dk, di, dst⟩ := dd
      dsimp only at hc0 hc1 hc2
      go_wp2_with fail
      refine (right_any _ _ _ _ (HTr.out.below ((Below.refl _ _).alloc (Nat.le_refl _) _))).mono ?_
      rintro e w2 ⟨rfl, hb2⟩
      have HR := Lib.hid ((Hb.out.alloc (by omega) _).trans (hb2.mono (by simp; omega)))
      clear hb2
      rw [Hrk.out]
      go_wp2_with fail
      go_roundw
      case rel => exact ⟨k + 1, by omega, by go_num, HR.out⟩
      case measure => simp [intOf]; omega
    · clear Hc HT
      go_wp2_with fail
      refine (of_any [d, d'] b o cap [1] _ _ _ (by simp) (by simp; omega) (Hcr.out.below ((Below.refl _ _).alloc (Nat.le_refl _) _) (by omega)) (by simp) (by simp) (kinds_new _ _ _ rfl)).mono ?_
      rintro e w2 ⟨rfl, hb2⟩
      have HR := Lib.hid ((Hb.out.alloc (by omega) _).trans (hb2.mono (by simp; omega)))
      have HT2 := Lib.hid ((HTr.out.below ((Below.refl _ _).alloc (Nat.le_refl _) _)).below hb2)
      have Hc2 := Lib.hid ((Hcr.out.below ((Below.refl _ _).alloc (Nat.le_refl _) _) (by omega)).below hb2 (by simp; omega))
      clear hb2 Hb HTr Hcr HB
      obtain ⟨⟨b1, b2, b3⟩, ⟨f1, f2, f3⟩, hB, hzw2⟩ := box_new HR.out
      have HB := Lib.hid hB
      clear hB hzw
      generalize hall : [d, d'].all (isOf [1]) = al
      have Hall := Lib.hid hall
      clear hall
      cases al
      · -- some value is of another kind
        have HE : Hid (andorR 1 d d' = (Dt.zero, 5)) := by show andorR 1 d d' = _; rw [andorR, if_neg (by rw [Hall.out]; simp)]
        go_wp2_with fail
        refine bodyPost_ret (v := .tuple #[Dt.zero.v, .int .i64 5]) (by simp [results, Tryz.results64, go_sem, b1, b2, b3, Dt.zero]) rfl ⟨by rw [HE.out], ?_⟩
        exact ((HB.out.setCell (Nat.le_refl _) _).setCell (Nat.le_refl _) _).setCell (Nat.le_refl _) _
      · -- all are NULL or of these kinds
        clear b1 b2 b3 f1 f2 f3
        have HE : Hid (andorR 1 d d' = (andor 1 [d, d'], 0)) := by show andorR 1 d d' = _; rw [andorR, if_pos Hall.out]
        go_wp2_with fail
        refine (logic_or [d, d'] b o cap _ (by simp) (by omega) (fun j hj hk => Hbool.out j hj hk) Hc2.out).mono ?_
        rintro e w3 ⟨rfl, hb3⟩
        have HR3 := Lib.hid (HR.out.trans (hb3.mono (by omega)))
        clear hb3 HR HB
        obtain ⟨⟨b1, b2, b3⟩, ⟨f1, f2, f3⟩, hB, hzw3⟩ := box_new HR3.out
        have HB := Lib.hid hB
        clear hB
        generalize hfin : andor 1 [d, d'] = tv
        have HF := Lib.hid hfin
        clear hfin
        obtain ⟨tk, ti, ts⟩ := tv
        go_wp2_with fail
        refine bodyPost_ret (v := .tuple #[.agg #[.int .i64 tk, .int .i64 ti, .string ts], .int .i64 0]) (by simp [results, Tryz.results64, go_sem, b1, b2, b3]) rfl ⟨by rw [HE.out, HF.out], ?_⟩
        exact ((HB.out.setCell (Nat.le_refl _) _).setCell (Nat.le_refl _) _).setCell (Nat.le_refl _) _
end Go.Proofs.YtokbdleokihdaaaGreatDoor
namespace Go.Proofs.YtokbdleokihdaaaGreatDoor
open Go.RowKit

/-- What IS NULL answers. -/
def nullR (d : Dt) : Dt × Int := (truthD (d.k == 0), 0)

set_option maxHeartbeats 1000000 in
theorem apply_isnull (d : Dt) (b o cap : Nat) (w : World) (hbk : b < w.heap.size) (hc : DCells w b o [d]) (hT : Tabs w) (hr : rightD d = true)  :
    Calls Tryz.prog 64 #[.int .i64 15, .slice (some ⟨b, o, none⟩) 1 cap] w fun e w' => e = .returned (.tuple #[(nullR d).1.v, .int .i64 (nullR d).2]) ∧ Below w.heap.size w w' := by
  have hm : manyF 15 = 1 := by decide
  have Hc := Lib.hid hc
  have HT := Lib.hid hT
  have Hr := Lib.hid hr
  clear hc hT hr
  go_enter Tryz.func64, Tryz.ntmps64
  go_wp2_with (go_at_call 79; refine (many_any _ _).mono ?_; rintro e w' ⟨rfl, rfl⟩)
  go_loopw [7, 23] (fun _ i wr => ∃ k : Nat, k ≤ 1 ∧ i = .int .i64 k ∧ Below (w.heap.size + 1) (w.alloc (.cells #[.int .i64 0, .int .i64 0, .string ⟨#[]⟩] 27)) wr) (fun _ i _ => 1 - (intOf i).toNat)
  case atStart => exact ⟨0, Nat.zero_le _, rfl, Below.refl _ _⟩
  case round =>
    obtain ⟨k, hk, rfl, hbl⟩ := hrel
    have hzw : w.heap.size < wr.heap.size := (box_new hbl).2.2.2
    have HB := Lib.hid (box_new hbl).2.2.1
    have HTr := Lib.hid (round_hyp HT.out Hc.out hbk hbl).1
    have Hcr := Lib.hid (round_hyp HT.out Hc.out hbk hbl).2.1
    have Hb := Lib.hid hbl
    clear hbl
    by_cases hlt : k < 1
    · have hzero : (0 : Int) ≤ k := by omega
      obtain ⟨hc0, hc1, hc2⟩ := Hcr.out k hlt
      have Hrk : Hid (rightD (dnth [d] k) = true) := by
        obtain rfl : k = 0 := by omega
        exact Hr.out
      generalize dnth [d] k = dd at *
      obtain ⟨dk, di, dst⟩ := dd
      dsimp only at hc0 hc1 hc2
      go_wp2_with fail
      refine (right_any _ _ _ _ (HTr.out.below ((Below.refl _ _).alloc (Nat.le_refl _) _))).mono ?_
      rintro e w2 ⟨rfl, hb2⟩
      have HR := Lib.hid ((Hb.out.alloc (by omega) _).trans (hb2.mono (by simp; omega)))
      clear hb2
      rw [Hrk.out]
      go_wp2_with fail
      go_roundw
      case rel => exact ⟨k + 1, by omega, by go_num, HR.out⟩
      case measure => simp [intOf]; omega
    · clear Hc HT
      have e0 := Hcr.out 0 (by simp)
      have d0 : dnth [d] 0 = d := rfl
      rw [d0] at e0
      simp only [Nat.zero_mul, Nat.add_zero] at e0
      obtain ⟨e0, -, -⟩ := e0
      clear d0
      go_wp2_with fail
      refine (truth_any _ _).mono ?_
      rintro e w3 ⟨rfl, hb3⟩
      have HR3 := Lib.hid (Hb.out.trans (hb3.mono (by omega)))
      clear hb3 Hb HTr Hcr HB e0
      obtain ⟨⟨b1, b2, b3⟩, ⟨f1, f2, f3⟩, hB, hzw3⟩ := box_new HR3.out
      have HB := Lib.hid hB
      clear hB
      have HE : Hid (nullR d = (truthD (d.k == 0), 0)) := rfl
      generalize hfin : truthD (d.k == 0) = tv at HE
      have HF := Lib.hid hfin
      clear hfin
      obtain ⟨tk, ti, ts⟩ := tv
      go_wp2_with fail
      refine bodyPost_ret (v := .tuple #[.agg #[.int .i64 tk, .int .i64 ti, .string ts], .int .i64 0]) (by simp [results, Tryz.results64, go_sem, b1, b2, b3]) rfl ⟨by rw [HE.out], ?_⟩
      exact ((HB.out.setCell (Nat.le_refl _) _).setCell (Nat.le_refl _) _).setCell (Nat.le_refl _) _
end Go.Proofs.YtokbdleokihdaaaGreatDoor

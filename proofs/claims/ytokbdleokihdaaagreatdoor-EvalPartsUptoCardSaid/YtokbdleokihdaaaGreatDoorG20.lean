/- Small facts for the laws' walks: arguments' slices, boxes, struct comparisons. Contract of datum.length. Contract of datum.Apply at arithmetic. Contract of the document's length. -/
import Derived.Test.YtokbdleokihdaaaGreatDoorG10
import Derived.Test.YtokbdleokihdaaaGreatDoorDatApplyC
import Derived.Test.YtokbdleokihdaaaGreatDoorG02
import Derived.Test.YtokbdleokihdaaaGreatDoorG05
import Derived.Test.YtokbdleokihdaaaGreatDoorG03
import Derived.Test.YtokbdleokihdaaaGreatDoorG08
namespace Go.Proofs.YtokbdleokihdaaaGreatDoor
open Go.RowKit

theorem Bx.at (W : World) (n : Nat) (hn : n = W.heap.size) (x y z : Value) (t : TypeId) : Bx (W.alloc (.cells #[x, y, z] t)) n x y z := by subst hn; exact Bx.new W x y z t
theorem args1 (W : World) (n : Nat) (hn : n = W.heap.size) (k i : Int) (s : ByteArray) (t : TypeId) : DCells (W.alloc (.cells #[.int .i64 k, .int .i64 i, .string s] t)) n 0 [⟨k, i, s⟩] := by subst hn; exact dcells_new1 W k i s t
theorem args2 (W : World) (n : Nat) (hn : n = W.heap.size) (k i : Int) (s : ByteArray) (k' i' : Int) (s' : ByteArray) (t : TypeId) : DCells (W.alloc (.cells #[.int .i64 k, .int .i64 i, .string s, .int .i64 k', .int .i64 i', .string s'] t)) n 0 [⟨k, i, s⟩, ⟨k', i', s'⟩] := by subst hn; exact dcells_new2 W k i s k' i' s' t
/-- What a law's walk keeps of the world: the tables, and all that was there. -/
structure Gd (w W : World) : Prop where
  t : Tabs W
  b : Below w.heap.size w W
theorem Gd.alloc {w W : World} (h : Gd w W) (o : Obj) : Gd w (W.alloc o) := ⟨h.t.below ((Below.refl _ _).alloc (Nat.le_refl _) o), h.b.alloc h.b.size o⟩
theorem Gd.drew {w W : World} (h : Gd w W) : Gd w W.drew := ⟨h.t.below (Below.refl _ _).drew, h.b.drew⟩
theorem Gd.step {w W W' : World} (h : Gd w W) (hb : Below W.heap.size W W') : Gd w W' := ⟨h.t.below hb, h.b.trans (hb.mono h.b.size)⟩
theorem Gd.refl {w : World} (h : Tabs w) : Gd w w := ⟨h, Below.refl _ _⟩
theorem eqD_same (k i : Int) (s : ByteArray) : eqD k i s k i s = true := eqD_iff.2 ⟨rfl, rfl, rfl⟩
attribute [go_sem] eqD_same
end Go.Proofs.YtokbdleokihdaaaGreatDoor
namespace Go.Proofs.YtokbdleokihdaaaGreatDoor
open Go.RowKit

/-- How long a value is. -/
def lengthF (d : Dt) : Dt := if d.k = 0 then d else if d.k = 4 then ⟨2, (rcnt d.s d.s.size 0 : Nat), ⟨#[]⟩⟩ else ⟨2, (d.s.size : Nat), ⟨#[]⟩⟩

set_option maxHeartbeats 1000000 in
theorem length_any (k i : Int) (s : ByteArray) (w : World) (hs : s.size ≤ 1000) :
    Calls Tryz.prog 83 #[.agg #[.int .i64 k, .int .i64 i, .string s]] w fun e w' => e = .returned (lengthF ⟨k, i, s⟩).v ∧ Below w.heap.size w w' := by
  by_cases h0 : k = 0
  · have HE := Lib.hid (show lengthF ⟨k, i, s⟩ = ⟨k, i, s⟩ from if_pos h0)
    have hk : (k == 0) = true := by simpa using h0
    rw [HE.out]
    clear HE h0
    go_enter Tryz.func83, Tryz.ntmps83
    go_wp2_with fail
    refine bodyPost_ret (v := .agg #[.int .i64 k, .int .i64 i, .string s]) (by simp [results, Tryz.results83, go_sem]) rfl ⟨rfl, (boxes2 w _ _ _ _).1⟩
  · by_cases h4 : k = 4
    · have HE := Lib.hid (show lengthF ⟨k, i, s⟩ = ⟨2, (rcnt s s.size 0 : Nat), ⟨#[]⟩⟩ from (if_neg h0).trans (if_pos h4))
      have hk : (k == 0) = false := by simpa using h0
      have hk4 : (k == 4) = true := by simpa using h4
      rw [HE.out]
      clear HE h0 h4
      go_enter Tryz.func83, Tryz.ntmps83
      go_wp2_with fail
      obtain ⟨-, K2⟩ := (show True ∧ Bx ((w.alloc (.cells #[.int .i64 k, .int .i64 i, .string s] 27)).alloc (.cells #[.int .i64 0, .int .i64 0, .string ⟨#[]⟩] 27)) (w.heap.size + 1) (.int .i64 0) (.int .i64 0) (.string ⟨#[]⟩) from ⟨trivial, Bx.at _ _ (by simp) _ _ _ _⟩)
      have hB := (boxes2 w #[.int .i64 k, .int .i64 i, .string s] #[.int .i64 0, .int .i64 0, .string ⟨#[]⟩] 27 27).1
      have hz : w.heap.size + 1 + 1 = ((w.alloc (.cells #[.int .i64 k, .int .i64 i, .string s] 27)).alloc (.cells #[.int .i64 0, .int .i64 0, .string ⟨#[]⟩] 27)).heap.size := by simp
      rw [hz]
      generalize ((w.alloc (.cells #[.int .i64 k, .int .i64 i, .string s] 27)).alloc (.cells #[.int .i64 0, .int .i64 0, .string ⟨#[]⟩] 27)) = W0 at *
      have HB := Lib.hid hB
      have HK := Lib.hid K2
      have hlt : w.heap.size + 1 < W0.heap.size := K2.lt
      have HZ := Lib.hid hz
      clear hB K2 hz
      go_loopw [3] (fun n wr => ∃ (pos f m : Nat), wr = W0.iter s pos ∧ n = .int .i64 m ∧ rcnt s s.size 0 = rcnt s f pos + m ∧ s.size ≤ pos + f ∧ m ≤ pos) (fun _ wr => s.size - wr.iterPos W0.heap.size)
      case atStart => exact ⟨0, s.size, 0, rfl, rfl, rfl, by omega, by omega⟩
      case round =>
        obtain ⟨pos, f, m, rfl, rfl, hc, hf, hm⟩ := hrel
        have HC := Lib.hid hc
        clear hc
        by_cases hp : pos < s.size
        · have hnx : ∀ ty, (Instr.next (.pointer (some ⟨W0.heap.size, 0, none⟩)) true ty).run Tryz.prog (W0.iter s pos) = _ := fun ty => run_next_any W0 s pos ty hp
          obtain ⟨f, rfl⟩ : ∃ g, f = g + 1 := ⟨f - 1, by omega⟩
          have hwd := step_pos s pos
          have HG := Lib.hid (show rcnt s (f + 1) pos = rcnt s f (pos + (Utf8.decode s pos).2) + 1 by rw [rcnt, if_pos hp])
          have hrn := decode_le s pos
          generalize (Utf8.decode s pos).1 = rn at *
          generalize (Utf8.decode s pos).2 = rw' at *
          go_wp2_with fail
          go_roundw
          case rel => exact ⟨pos + rw', f, m + 1, rfl, by go_num, by rw [HC.out, HG.out]; omega, by omega, by omega⟩
          case measure => simp; omega
        · have hnx : ∀ ty, (Instr.next (.pointer (some ⟨W0.heap.size, 0, none⟩)) true ty).run Tryz.prog (W0.iter s pos) = _ := fun ty => run_next_end W0 s pos ty hp
          have HM : Hid (rcnt s s.size 0 = m) := by
            show _ = _
            rw [HC.out, rcnt_end hp]; omega
          have K : Bx (W0.iter s pos) (w.heap.size + 1) (.int .i64 0) (.int .i64 0) (.string ⟨#[]⟩) := HK.out.alloc _
          have HB2 : Hid (Below w.heap.size w (W0.iter s pos)) := HB.out.alloc (by omega) _
          have HKK := Lib.hid K
          obtain ⟨b1, b2, b3, f1, f2, f3, -⟩ := K
          go_wp2_with fail
          refine bodyPost_ret (v := .agg #[.int .i64 2, .int .i64 (m : Nat), .string ⟨#[]⟩]) (by simp [results, Tryz.results83, go_sem, b1, b2, b3]) rfl ⟨by rw [HM.out], ?_⟩
          exact ((HB2.out.setCell (p := ⟨w.heap.size + 1, 0, none⟩) (Nat.le_succ _) _).setCell (p := ⟨w.heap.size + 1, 1, none⟩) (Nat.le_succ _) _).setCell (p := ⟨w.heap.size + 1, 2, none⟩) (Nat.le_succ _) _
    · have HE := Lib.hid (show lengthF ⟨k, i, s⟩ = ⟨2, (s.size : Nat), ⟨#[]⟩⟩ from (if_neg h0).trans (if_neg h4))
      have hk : (k == 0) = false := by simpa using h0
      have hk4 : (k == 4) = false := by simpa using h4
      rw [HE.out]
      clear HE h0 h4
      go_enter Tryz.func83, Tryz.ntmps83
      go_wp2_with fail
      refine bodyPost_ret (v := .agg #[.int .i64 2, .int .i64 (s.size : Nat), .string ⟨#[]⟩]) (by simp [results, Tryz.results83, go_sem]) rfl ⟨rfl, (boxes2 w _ _ _ _).1⟩
end Go.Proofs.YtokbdleokihdaaaGreatDoor
namespace Go.Proofs.YtokbdleokihdaaaGreatDoor
open Go.RowKit

/-- What LENGTH answers. -/
def lenR (d : Dt) : Dt × Int := if [d].all (isOf [4, 5]) then (lengthF d, 0) else (Dt.zero, 5)
theorem right_size {d : Dt} (h : rightD d = true) (ha : [d].all (isOf [4, 5]) = true) : d.s.size ≤ 1000 := by
  simp [isOf] at ha
  unfold rightD rightN at h
  rcases ha with h0 | h0 | h0
  · rw [h0] at h
    simp at h
    have := size_empty (s := d.s) (by simpa using h.2)
    omega
  · rw [h0] at h
    simp at h
    exact h.2.1
  · rw [h0] at h
    simp at h
    exact h.2

set_option maxHeartbeats 1000000 in
theorem apply_len (d : Dt) (b o cap : Nat) (w : World) (hbk : b < w.heap.size) (hc : DCells w b o [d]) (hT : Tabs w) (hr : rightD d = true)  :
    Calls Tryz.prog 64 #[.int .i64 18, .slice (some ⟨b, o, none⟩) 1 cap] w fun e w' => e = .returned (.tuple #[(lenR d).1.v, .int .i64 (lenR d).2]) ∧ Below w.heap.size w w' := by
  have hm : manyF 18 = 1 := by decide
  have Hc := Lib.hid hc
  have HT := Lib.hid hT
  have Hr := Lib.hid hr
  clear hc hT hr
  go_enter Tryz.func64, Tryz.ntmps64
  go_wp2_with (go_at_call 79; refine (many_any _ _).mono ?_; rintro e w' ⟨rfl, rfl⟩)
  go_loopw [7, 23] (fun _ i wr => ∃ k : Nat, k ≤ 1 ∧ i = .int .i64 k ∧ Below (w.heap.size + 1) (w.alloc (.cells #[.int .i64 0, .int .i64 0, .string ⟨#[]⟩] 27)) wr) (fun _ i _ => 1 - (intOf i).toNat)
  case atStart => exact ⟨0, Nat.zero_le _, rfl, Below.refl _ _⟩
  case round =>
    obtain ⟨k, hk, rfl, hbl⟩ := hrel
    have hzw : w.heap.size < wr.heap.size := (box_new hbl).2.2.2
    have HB := Lib.hid (box_new hbl).2.2.1
    have HTr := Lib.hid (round_hyp HT.out Hc.out hbk hbl).1
    have Hcr := Lib.hid (round_hyp HT.out Hc.out hbk hbl).2.1
    have Hb := Lib.hid hbl
    clear hbl
    by_cases hlt : k < 1
    · have hzero : (0 : Int) ≤ k := by omega
      obtain ⟨hc0, hc1, hc2⟩ := Hcr.out k hlt
      have Hrk : Hid (rightD (dnth [d] k) = true) := by
        obtain rfl : k = 0 := by omega
        exact Hr.out
      generalize dnth [d] k = dd at *
      obtain ⟨dk, di, dst⟩ := dd
      dsimp only at hc0 hc1 hc2
      go_wp2_with fail
      refine (right_any _ _ _ _ (HTr.out.below ((Below.refl _ _).alloc (Nat.le_refl _) _))).mono ?_
      rintro e w2 ⟨rfl, hb2⟩
      have HR := Lib.hid ((Hb.out.alloc (by omega) _).trans (hb2.mono (by simp; omega)))
      clear hb2
      rw [Hrk.out]
      go_wp2_with fail
      go_roundw
      case rel => exact ⟨k + 1, by omega, by go_num, HR.out⟩
      case measure => simp [intOf]; omega
    · clear Hc HT
      have HR0 := Lib.hid Hr.out
      go_wp2_with fail
      refine (of_any [d] b o cap [4, 5] _ _ _ (by simp) (by simp; omega) (Hcr.out.below ((Below.refl _ _).alloc (Nat.le_refl _) _) (by omega)) (by simp) (by simp) (kinds_new _ _ _ rfl)).mono ?_
      rintro e w2 ⟨rfl, hb2⟩
      have HR := Lib.hid ((Hb.out.alloc (by omega) _).trans (hb2.mono (by simp; omega)))
      have HT2 := Lib.hid ((HTr.out.below ((Below.refl _ _).alloc (Nat.le_refl _) _)).below hb2)
      have Hc2 := Lib.hid ((Hcr.out.below ((Below.refl _ _).alloc (Nat.le_refl _) _) (by omega)).below hb2 (by simp; omega))
      clear hb2 Hb HTr Hcr HB
      obtain ⟨⟨b1, b2, b3⟩, ⟨f1, f2, f3⟩, hB, hzw2⟩ := box_new HR.out
      have HB := Lib.hid hB
      clear hB hzw
      generalize hall : [d].all (isOf [4, 5]) = al
      have Hall := Lib.hid hall
      clear hall
      cases al
      · -- some value is of another kind
        have HE : Hid (lenR d = (Dt.zero, 5)) := by show lenR d = _; rw [lenR, if_neg (by rw [Hall.out]; simp)]
        go_wp2_with fail
        refine bodyPost_ret (v := .tuple #[Dt.zero.v, .int .i64 5]) (by simp [results, Tryz.results64, go_sem, b1, b2, b3, Dt.zero]) rfl ⟨by rw [HE.out], ?_⟩
        exact ((HB.out.setCell (Nat.le_refl _) _).setCell (Nat.le_refl _) _).setCell (Nat.le_refl _) _
      · -- all are NULL or of these kinds
        clear b1 b2 b3 f1 f2 f3
        have HE : Hid (lenR d = (lengthF d, 0)) := by show lenR d = _; rw [lenR, if_pos Hall.out]
        have e0 := Hc2.out 0 (by simp)
        have d0 : dnth [d] 0 = d := rfl
        rw [d0] at e0
        simp only [Nat.zero_mul, Nat.add_zero] at e0
        obtain ⟨e0, e1, e2⟩ := e0
        clear d0
        go_wp2_with fail
        clear e0 e1 e2
        refine (length_any d.k d.i d.s _ (right_size HR0.out Hall.out)).mono ?_
        rintro e w3 ⟨rfl, hb3⟩
        have HR3 := Lib.hid (HR.out.trans (hb3.mono (by omega)))
        clear hb3 HR HB
        obtain ⟨⟨b1, b2, b3⟩, ⟨f1, f2, f3⟩, hB, hzw3⟩ := box_new HR3.out
        have HB := Lib.hid hB
        clear hB
        generalize hfin : lengthF d = tv
        have HF := Lib.hid hfin
        clear hfin
        obtain ⟨tk, ti, ts⟩ := tv
        go_wp2_with fail
        refine bodyPost_ret (v := .tuple #[.agg #[.int .i64 tk, .int .i64 ti, .string ts], .int .i64 0]) (by simp [results, Tryz.results64, go_sem, b1, b2, b3]) rfl ⟨by rw [HE.out, HF.out], ?_⟩
        exact ((HB.out.setCell (Nat.le_refl _) _).setCell (Nat.le_refl _) _).setCell (Nat.le_refl _) _
end Go.Proofs.YtokbdleokihdaaaGreatDoor
namespace Go.Proofs.YtokbdleokihdaaaGreatDoor
open Go.RowKit

theorem runes_right {d : Dt} (h : rightD d = true) (hk : d.k = 4) : (runesR d.s).1 = (rcnt d.s d.s.size 0 : Nat) := by
  have hv : (runesR d.s).2 = true := by
    rw [runes_valid]
    unfold rightD at h
    rw [if_pos hk] at h
    simp only [Bool.and_eq_true] at h
    exact h.2.2
  unfold runesR at hv ⊢
  cases hg : rgo d.s d.s.size 0 with
  | none => rw [hg] at hv; cases hv
  | some n => rw [rgo_cnt _ _ _ _ hg]

set_option maxHeartbeats 1000000 in
theorem reflen_any (d : Dt) (w : World) (hr : rightD d = true) :
    Calls Tryz.prog 20 #[d.v] w fun e w' => e = .returned (.tuple #[(lenR d).1.v, .int .i64 (lenR d).2]) ∧ Below w.heap.size w w' := by
  have hk05 : 0 ≤ d.k ∧ d.k ≤ 5 := by
    unfold rightD rightN at hr
    by_cases h4 : d.k = 4
    · omega
    · rw [if_neg h4] at hr
      by_cases h0 : d.k = 0
      · omega
      · rw [if_neg h0] at hr
        by_cases h1 : d.k = 1
        · omega
        · rw [if_neg h1] at hr
          by_cases h2 : d.k = 2 ∨ d.k = 3
          · omega
          · rw [if_neg h2] at hr
            by_cases h5 : d.k = 5
            · omega
            · rw [if_neg h5] at hr; cases hr
  have HS := Lib.hid (fun (ha : d.k = 4) => show d.s.size ≤ 1000 from right_size hr (by simp [isOf, ha]))
  have HRR := Lib.hid (fun hk => runes_right hr hk)
  have HL := Lib.hid (show lenR d = if [d].all (isOf [4, 5]) then (lengthF d, 0) else (Dt.zero, 5) from rfl)
  have HLF := Lib.hid (show lengthF d = if d.k = 0 then d else if d.k = 4 then ⟨2, (rcnt d.s d.s.size 0 : Nat), ⟨#[]⟩⟩ else ⟨2, (d.s.size : Nat), ⟨#[]⟩⟩ from rfl)
  clear hr
  obtain ⟨k, i, s⟩ := d
  dsimp only at hk05 HS HRR HLF
  by_cases h0 : k = 0
  · have HE : Hid (lenR ⟨k, i, s⟩ = (⟨k, i, s⟩, 0)) := by show _ = _; rw [HL.out, if_pos (by simp [isOf, h0]), HLF.out, if_pos h0]
    have t0 : (k == 0) = true := by simpa using h0
    rw [HE.out]
    clear HE HL HLF HS HRR hk05 h0
    go_enter Tryz.func20, Tryz.ntmps20
    go_wp2_with fail
    refine bodyPost_ret (v := .tuple #[.agg #[.int .i64 k, .int .i64 i, .string s], .int .i64 0]) (by simp [results, Tryz.results20, go_sem]) rfl ⟨rfl, ?_⟩
    exact (boxes2 w _ _ _ _).1
  · have t0 : (k == 0) = false := by simpa using h0
    by_cases h3 : k < 4
    · have HE : Hid (lenR ⟨k, i, s⟩ = (Dt.zero, 5)) := by show _ = _; rw [HL.out, if_neg (by simp [isOf]; omega)]
      have t3 : decide (k < 4) = true := by simpa using h3
      rw [HE.out]
      clear HE HL HLF HS HRR hk05 h0 h3
      go_enter Tryz.func20, Tryz.ntmps20
      go_wp2_with fail
      refine bodyPost_ret (v := .tuple #[Dt.zero.v, .int .i64 5]) (by simp [results, Tryz.results20, go_sem, Dt.zero]) rfl ⟨rfl, ?_⟩
      exact (boxes2 w _ _ _ _).1
    · have t3 : decide (k < 4) = false := by simpa using h3
      rcases (by omega : k = 4 ∨ k = 5) with h4 | h5
      · have HE : Hid (lenR ⟨k, i, s⟩ = (⟨2, (runesR s).1, ⟨#[]⟩⟩, 0)) := by show _ = _; rw [HL.out, if_pos (by simp [isOf, h4]), HLF.out, if_neg h0, if_pos h4, HRR.out h4]
        have t4 : (k == 4) = true := by simpa using h4
        have HSS := Lib.hid (HS.out h4)
        rw [HE.out]
        clear HE HL HLF HS HRR hk05 h0 h3 h4
        go_enter Tryz.func20, Tryz.ntmps20
        go_wp2_with fail
        refine (runes_any s _ HSS.out).mono ?_
        rintro e w2 ⟨rfl, hb2⟩
        obtain ⟨⟨b1, b2, b3⟩, ⟨f1, f2, f3⟩, hB2, hz2, c2⟩ := boxes2_res hb2
        have HB := Lib.hid hB2
        clear hB2 hb2 c2
        generalize hn : (runesR s).1 = n at *
        have HN := Lib.hid hn
        clear hn
        generalize (runesR s).2 = rb at *
        go_wp2_with fail
        refine bodyPost_ret (v := .tuple #[.agg #[.int .i64 2, .int .i64 n, .string ⟨#[]⟩], .int .i64 0]) (by simp [results, Tryz.results20, go_sem, b1, b2, b3]) rfl ⟨by rw [HN.out], ?_⟩
        exact ((HB.out.setCell (p := ⟨w.heap.size + 1, 0, none⟩) (Nat.le_succ _) _).setCell (p := ⟨w.heap.size + 1, 1, none⟩) (Nat.le_succ _) _).setCell (p := ⟨w.heap.size + 1, 2, none⟩) (Nat.le_succ _) _
      · have HE : Hid (lenR ⟨k, i, s⟩ = (⟨2, (s.size : Nat), ⟨#[]⟩⟩, 0)) := by show _ = _; rw [HL.out, if_pos (by simp [isOf, h5]), HLF.out, if_neg h0, if_neg (by omega)]
        have t4 : (k == 4) = false := by simp; omega
        rw [HE.out]
        clear HE HL HLF HS HRR hk05 h0 h3 h5
        go_enter Tryz.func20, Tryz.ntmps20
        go_wp2_with fail
        refine bodyPost_ret (v := .tuple #[.agg #[.int .i64 2, .int .i64 (s.size : Nat), .string ⟨#[]⟩], .int .i64 0]) (by simp [results, Tryz.results20, go_sem]) rfl ⟨rfl, ?_⟩
        exact (boxes2 w _ _ _ _).1
end Go.Proofs.YtokbdleokihdaaaGreatDoor

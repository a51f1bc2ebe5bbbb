/- The contract of the disk's Crash. -/
import Derived.Test.YtnpgjlhnlakgpaaDoorVfsSort
import Derived.Test.YtnpgjlhnlakgpaaDoorG01
namespace Go.Proofs.YtnpgjlhnlakgpaaDoor
open Go.RowKit Go.Maps

/-- All names in a slice, as names hands them back. -/
def NamesAt (B : Nat) (w : World) (v : Value) (L : List Fl) : Prop :=
  ∃ p c, v = .slice p L.length c ∧ (L = [] ∨ ∃ g, p = some ⟨g, 0, none⟩ ∧ B ≤ g ∧ ∀ (j : Nat) (f : Fl), L[j]? = some f → w.cell? ⟨g, j, none⟩ = some (.string f.name))
theorem NamesAt.of_row {w : World} {B : Nat} {v : Value} {L : List Fl} {e : TypeId} (h : w.ownsRow B e 1 v L.length (nameVals L)) : NamesAt B w v L := by
  rcases h.2 with ⟨rfl, hn⟩ | ⟨g, cap, cur, rfl, hb, hcb, h1, h2, h3, h4⟩
  · have : L = [] := by simpa [nameVals] using hn
    subst this
    exact ⟨none, 0, rfl, .inl rfl⟩
  · refine ⟨_, cap, rfl, .inr ⟨g, rfl, hb, fun j f hj => ?_⟩⟩
    have hjl : j < L.length := (List.getElem?_eq_some_iff.1 hj).1
    have h5 := h.cells (g := g) rfl j (.string f.name) (by simp [nameVals, hj])
    have hadd : (⟨g, 0, none⟩ : Addr).add j = ⟨g, j, none⟩ := by unfold Addr.add; split <;> simp_all
    rw [hadd] at h5
    exact h5
theorem atL_le {l : List Int} {M : Int} (h : ∀ x ∈ l, x ≤ M) (h0 : 0 ≤ M) (k : Nat) : atL l k ≤ M := by
  unfold atL
  rw [List.getD_eq_getElem?_getD]
  cases hk : l[k]? with
  | none => exact h0
  | some x => exact h x (List.mem_of_getElem? hk)

set_option maxRecDepth 100000 in
set_option maxHeartbeats 8000000 in
theorem crash_any {d : Dk} {w : World} {b m : Nat} (h : DAt w b m d) (hok : d.Ok) {kv tv : Value} {keep turn : List Int} (hk : IntsAt b m w kv keep) (ht : IntsAt b m w tv turn)
    (hkb : ∀ x ∈ keep, x ≤ 9223372036854775807) (htb : ∀ x ∈ turn, x ≤ 9223372036854775807) :
    Calls Tryd.prog 75 #[.pointer (some ⟨b, 0, none⟩), .agg #[kv, tv]] w fun e w' => e = .returned (.tuple #[]) ∧ DAt w' b m (d.crash keep turn) ∧ Kp b m w w' := by
  have H := Lib.hid h
  have HOK := Lib.hid hok
  have hbw := h.lt
  have hmw := h.ltm
  have hbm := h.ne
  have hmany := hok.many
  have hus := Nat.le_trans hok.used hok.room
  have HKB := Lib.hid hkb
  have HTB := Lib.hid htb
  have HK0 := Lib.hid hk
  have HT0 := Lib.hid ht
  obtain ⟨kp, kn, kc, rfl⟩ := hk.slice
  obtain ⟨tp, tn, tc, rfl⟩ := ht.slice
  clear h hok hk ht hkb htb
  go_enter Tryd.func75, Tryd.ntmps75
  go_wp2_with (first | (go_at_call 73; refine (names_any sortC (H.out.alloc _) HOK.out).mono ?_; rintro e w1 ⟨v, rfl, hrow, hB1⟩; obtain ⟨np, nc, rfl, hna⟩ := NamesAt.of_row hrow; have HNA := Lib.hid hna; have HB1 := Lib.hid hB1; clear hrow hB1 hna) | fail)
  have hz1 : w.heap.size < w1.heap.size := by have := HB1.out.size; simp at this; omega
  have hzA : (w.alloc (.cells #[.slice kp kn kc, .slice tp tn tc] 61)).heap.size = w.heap.size + 1 := by simp
  have HB1' := HB1.out
  rw [hzA] at HB1'
  have hcb0 : w1.cell? ⟨w.heap.size, 0, none⟩ = some (.slice kp kn kc) := by
    rw [HB1'.cell (p := ⟨w.heap.size, 0, none⟩) (Nat.lt_succ_self _), World.cell?_alloc_new]; rfl
  have hcb1 : w1.cell? ⟨w.heap.size, 1, none⟩ = some (.slice tp tn tc) := by
    rw [HB1'.cell (p := ⟨w.heap.size, 1, none⟩) (Nat.lt_succ_self _), World.cell?_alloc_new]; rfl
  have HCB := Lib.hid (And.intro hcb0 hcb1)
  have HBW := Lib.hid (((Below.refl w.heap.size w).alloc (Nat.le_refl _) (.cells #[.slice kp kn kc, .slice tp tn tc] 61)).trans (HB1'.mono (Nat.le_succ _)))
  have HD1 := Lib.hid ((H.out.alloc (.cells #[.slice kp kn kc, .slice tp tn tc] 61)).below HB1.out)
  clear hcb0 hcb1 HB1' hzA
  go_loopw [4, 12] (fun kv iv wr => ∃ i : Nat, i ≤ d.L.length ∧ iv = .int .i64 (i : Int) ∧ kv = .int .i64 (unsafeN (d.L.take i) : Int) ∧
      DC Tryd.prog 9 wr b m (d.room : Int) (usedF (crashP keep turn d.L i) : Int) d.off d.armed (d.left : Int) (d.steps : Int) (crashP keep turn d.L i) ∧ Kp b m w1 wr)
    (fun _ iv _ => d.L.length - (intOf iv).toNat)
  case atStart => exact ⟨0, Nat.zero_le _, rfl, rfl, by rw [crashP_zero]; exact HD1.out, Kp.refl _ _ _⟩
  case round =>
    obtain ⟨i, hi, rfl, rfl, hdc, hkp⟩ := hrel
    have HDC := Lib.hid hdc
    have HKP := Lib.hid hkp
    have hzr := hkp.size
    clear hdc hkp
    have hun := unsafeN_le (d.L.take i)
    have htl : (d.L.take i).length ≤ i := List.length_take_le _ _
    by_cases hlt : i < d.L.length
    · obtain ⟨f, hf⟩ : ∃ f, d.L[i]? = some f := ⟨d.L[i], List.getElem?_eq_getElem hlt⟩
      have hfm : f ∈ d.L := List.mem_of_getElem? hf
      have hne : d.L ≠ [] := fun e => by rw [e] at hlt; simp at hlt
      have hnm := HOK.out.named f hfm
      have hsf := HOK.out.safe f hfm
      have hfu := mem_used hfm
      obtain ⟨g, rfl, hg, hnc⟩ := HNA.out.resolve_left hne
      have hgz : w.heap.size + 1 ≤ g := by simpa using hg
      have hncr : wr.cell? ⟨g, i, none⟩ = some (.string f.name) := by
        have h1 := hnc i f hf
        rw [HKP.out.cell (j := g) (World.block_lt_of_cell? _ _ h1) (by omega) (by omega)]
        exact h1
      have HGET := Lib.hid (crashP_get keep turn d.L hf)
      have HRISE := Lib.hid (crashP_rise HOK.out.rise keep turn i)
      have HFIND := Lib.hid (find_of_idx HRISE.out HGET.out)
      have HSTEP := Lib.hid (crashP_step keep turn d.L hf)
      have HUN := Lib.hid (unsafeN_step d.L hf)
      have HKEY := Lib.hid (hkeyS (s := f.name) (by unfold maxLen; omega))
      have hul := crashP_used HOK.out.safe keep turn i
      have hful := mem_used (List.mem_of_getElem? HGET.out)
      have HLEN := Lib.hid (show (crashP keep turn d.L i).length < maxLen by rw [crashP_len]; unfold maxLen; omega)
      have c2 := HDC.out.c2
      clear hf hfm hne hnc hg
      obtain ⟨fn, fb, fs⟩ := f
      simp only at hnm hsf hfu hful hncr
      generalize hLi : crashP keep turn d.L i = Li at *
      generalize hku : unsafeN (d.L.take i) = ku at *
      have HKU := Lib.hid hku
      have HLI := Lib.hid hLi
      clear hku hLi
      by_cases hu : fs < fb.size
      · have HC1 := Lib.hid (show crash1 keep turn ku ⟨fn, fb, fs⟩ = ⟨fn, staysB ⟨fn, fb, fs⟩ (atL keep ku) (atL turn ku), (staysB ⟨fn, fb, fs⟩ (atL keep ku) (atL turn ku)).size⟩ by unfold crash1; rw [if_pos hu])
        have hsb := staysB_bd ⟨fn, fb, fs⟩ (atL keep ku) (atL turn ku) hsf
        simp only at hsb
        obtain ⟨hsb1, hsb2⟩ := hsb
        have hka := atL_le HKB.out (by omega) ku
        have hta := atL_le HTB.out (by omega) ku
        go_wp2_with (first | (at_lookup; refine wpList_look_hit _ rfl _ _ 107 rfl 9 117 lawK Tryd.underlying107 (zeroE _) m _ Li rfl HDC.out.own _ _ rfl HKEY.out ⟨fn, fb, fs⟩ HFIND.out ?_) | fail)
        have HX1 := Fx.new wr (.string fn) (.string fb) (.int .i64 (fs : Int)) 117
        have HD2 := HDC.out.alloc (.cells #[.string fn, .string fb, .int .i64 (fs : Int)] 117)
        have HK2 := HKP.out.alloc (.cells #[.string fn, .string fb, .int .i64 (fs : Int)] 117)
        have hzj : wr.heap.size < (wr.alloc (.cells #[.string fn, .string fb, .int .i64 (fs : Int)] 117)).heap.size := by simp
        generalize (wr.alloc (.cells #[.string fn, .string fb, .int .i64 (fs : Int)] 117)) = W1 at *
        have x0 := HX1.c0
        have x1 := HX1.c1
        have x2 := HX1.c2
        have k0 : W1.cell? ⟨w.heap.size, 0, none⟩ = some (.slice kp kn kc) := by rw [HK2.cell hz1 (by omega) (by omega)]; exact HCB.out.1
        have k1 : W1.cell? ⟨w.heap.size, 1, none⟩ = some (.slice tp tn tc) := by rw [HK2.cell hz1 (by omega) (by omega)]; exact HCB.out.2
        have HBW1 := ((Kp.of_below (b := b) (m := m) HBW.out).trans HK2).trans (Kp.of_below (Below.refl _ _).drew)
        have HIK := Lib.hid (HK0.out.kept HBW1)
        have HIT := Lib.hid (HT0.out.kept HBW1)
        have HX1 := Lib.hid HX1
        have HD2 := Lib.hid HD2
        have HK2 := Lib.hid HK2
        clear HBW1
        refine wp_region_still_tail 10 (by kernel_rfl) (by kernel_rfl) ?_
        simp only [List.take_succ_cons, List.take_zero, List.drop_succ_cons, List.drop_zero]
        iterate 5 still_step
        still_call ((at_any HIK.out ku).mono fun _ _ h => ⟨h.1, h.2.symm⟩)
        iterate 3 still_step
        still_call ((at_any HIT.out ku).mono fun _ _ h => ⟨h.1, h.2.symm⟩)
        (try refine wpStill_nil ?_)
        change wpList _ _ _ _ _ W1.drew
        have hst := stays_any ⟨fn, fb, fs⟩ (atL keep ku) (atL turn ku) W1.drew hsf (by show fb.size ≤ _; omega) hka hta
        have HST := Lib.hid hst
        clear hst
        have HX3 := Lib.hid (HX1.out.of_block (W' := W1.drew) rfl)
        have HD3 := Lib.hid HD2.out.drew
        have HK3 := Lib.hid HK2.out.drew
        have hzj3 : wr.heap.size < W1.drew.heap.size := hzj
        generalize W1.drew = W2 at *
        generalize atL keep ku = ka at *
        generalize atL turn ku = ta at *
        generalize staysB ⟨fn, fb, fs⟩ ka ta = S at *
        clear x0 x1 x2 k0 k1 c2
        go_wp2_with (first | (go_at_call 102; refine HST.out.mono ?_; rintro e w3 ⟨rfl, hB3⟩; have HB3 := Lib.hid hB3; clear hB3) | fail)
        have HX4 := HX3.out.below HB3.out
        have HD4 := HD3.out.below HB3.out
        have x0 := HX4.c0
        have x1 := HX4.c1
        have x2 := HX4.c2
        have c1 := HD4.c1
        have e1 := HD4.f1
        have HX5 := HX4.of_block (W' := w3.drew) rfl
        have HD5 := HD4.drew
        have HK5 := Lib.hid (HK3.out.step HB3.out).drew
        have HX4 := Lib.hid HX4
        have HD4 := Lib.hid HD4
        have HX5 := Lib.hid HX5
        have HD5 := Lib.hid HD5
        have q1 := IntWalk.i64_in ((fb.size : Int) - (S.size : Int)) (by omega)
        have q2 := IntWalk.i64_in ((usedF Li : Int) - ((fb.size : Int) - (S.size : Int))) (by omega)
        go_still_tail 14, (by kernel_rfl)
        change wpList _ _ _ _ _ w3.drew
        clear q1 q2 x0 x1 x2 c1 e1
        generalize w3.drew = W5 at *
        have x0 := HX5.out.c0
        have x1 := HX5.out.c1
        have x2 := HX5.out.c2
        have g1 := HX5.out.f1
        have g2 := HX5.out.f2
        have c1 := HD5.out.c1
        have e1 := HD5.out.f1
        go_wp2_with fail
        have HX6 := ((HX5.out.far (j := b) (o := 1) (u := .int .i64 ((usedF Li : Int) - ((fb.size : Int) - (S.size : Int)))) (by omega)).set1 (.string S)).set2 (.int .i64 (S.size : Int))
        have HD6 := ((HD5.out.set1 ((usedF Li : Int) - ((fb.size : Int) - (S.size : Int)))).far (j := wr.heap.size) (by omega) (by omega) 1 (.string S)).far (j := wr.heap.size) (by omega) (by omega) 2 (.int .i64 (S.size : Int))
        have HK6 := Lib.hid (((HK5.out.setCell 1 (.int .i64 ((usedF Li : Int) - ((fb.size : Int) - (S.size : Int))))).setNew (j := wr.heap.size) (by omega) 1 (.string S)).setNew (j := wr.heap.size) (by omega) 2 (.int .i64 (S.size : Int)))
        have HU0 := Lib.hid hu
        generalize (((W5.setCell ⟨b, 1, none⟩ (.int .i64 ((usedF Li : Int) - ((fb.size : Int) - (S.size : Int))))).setCell ⟨wr.heap.size, 1, none⟩ (.string S)).setCell ⟨wr.heap.size, 2, none⟩ (.int .i64 (S.size : Int))) = W6 at *
        clear x0 x1 x2 g1 g2 c1 e1
        have x0 := HX6.c0
        have x1 := HX6.c1
        have x2 := HX6.c2
        have c2 := HD6.c2
        have HX6 := Lib.hid HX6
        have HD6 := Lib.hid HD6
        go_still_tail 6, (by kernel_rfl)
        change wpList _ _ _ _ _ W6.drew
        have HD7 := Lib.hid HD6.out.drew
        have HK7 := Lib.hid HK6.out.drew
        generalize W6.drew = W7 at *
        go_wp2_with (first | (at_mapUpdate; refine wpList_store_fl _ rfl _ _ _ 107 rfl 9 117 lawK Tryd.underlying107 m _ _ rfl HD7.out.own HLEN.out ⟨fn, S, S.size⟩ rfl rfl HKEY.out ?_; intro w8 ho8 hg8; have HO8 := Lib.hid ho8; have HG8 := Lib.hid hg8; clear ho8 hg8) | fail)
        have h8 := HD7.out.map HG8.out HO8.out
        have hps : putF ⟨fn, S, S.size⟩ Li = crashP keep turn d.L (i + 1) := by
          have := HSTEP.out
          rw [HC1.out] at this
          rw [← this]; exact putF_set HRISE.out HGET.out rfl
        have hus2 := usedF_set HRISE.out (f := ⟨fn, S, S.size⟩) HGET.out rfl
        rw [← putF_set HRISE.out (f := ⟨fn, S, S.size⟩) HGET.out rfl, hps] at hus2
        simp only at hus2
        rw [hps] at h8
        have H8 := Lib.hid h8
        have HU2 := Lib.hid hus2
        clear h8 hus2 hps
        go_roundw
        case rel =>
          refine ⟨i + 1, by omega, by go_num, by rw [HUN.out]; simp [HU0.out], ?_, HK7.out.map HG8.out⟩
          have hu3 : (usedF (crashP keep turn d.L (i + 1)) : Int) = (usedF Li : Int) - ((fb.size : Int) - (S.size : Int)) := by have := HU2.out; omega
          rw [hu3]
          exact H8.out
        case measure => simp [intOf]; omega
      · have hfe : ¬ fs < fb.size := hu
        have HC1 := Lib.hid (show crash1 keep turn ku ⟨fn, fb, fs⟩ = ⟨fn, fb, fb.size⟩ by unfold crash1; rw [if_neg hu])
        go_wp2_with (first | (at_lookup; refine wpList_look_hit _ rfl _ _ 107 rfl 9 117 lawK Tryd.underlying107 (zeroE _) m _ Li rfl HDC.out.own _ _ rfl HKEY.out ⟨fn, fb, fs⟩ HFIND.out ?_) | fail)
        have HX6 := Fx.new wr (.string fn) (.string fb) (.int .i64 (fb.size : Int)) 117
        have HD6 := HDC.out.alloc (.cells #[.string fn, .string fb, .int .i64 (fb.size : Int)] 117)
        have HK6 := Lib.hid (HKP.out.alloc (.cells #[.string fn, .string fb, .int .i64 (fb.size : Int)] 117))
        have HU0 := Lib.hid hu
        generalize (wr.alloc (.cells #[.string fn, .string fb, .int .i64 (fb.size : Int)] 117)) = W6 at *
        clear c2 hncr
        have x0 := HX6.c0
        have x1 := HX6.c1
        have x2 := HX6.c2
        have c2 := HD6.c2
        have HX6 := Lib.hid HX6
        have HD6 := Lib.hid HD6
        go_still_tail 6, (by kernel_rfl)
        change wpList _ _ _ _ _ W6.drew
        have HD7 := Lib.hid HD6.out.drew
        have HK7 := Lib.hid HK6.out.drew
        generalize W6.drew = W7 at *
        go_wp2_with (first | (at_mapUpdate; refine wpList_store_fl _ rfl _ _ _ 107 rfl 9 117 lawK Tryd.underlying107 m _ _ rfl HD7.out.own HLEN.out ⟨fn, fb, fb.size⟩ rfl rfl HKEY.out ?_; intro w8 ho8 hg8; have HO8 := Lib.hid ho8; have HG8 := Lib.hid hg8; clear ho8 hg8) | fail)
        have h8 := HD7.out.map HG8.out HO8.out
        have hps : putF ⟨fn, fb, fb.size⟩ Li = crashP keep turn d.L (i + 1) := by
          have := HSTEP.out
          rw [HC1.out] at this
          rw [← this]; exact putF_set HRISE.out HGET.out rfl
        have hus2 := usedF_set HRISE.out (f := ⟨fn, fb, fb.size⟩) HGET.out rfl
        rw [← putF_set HRISE.out (f := ⟨fn, fb, fb.size⟩) HGET.out rfl, hps] at hus2
        simp only at hus2
        rw [hps] at h8
        have H8 := Lib.hid h8
        have HU2 := Lib.hid hus2
        clear h8 hus2 hps
        go_roundw
        case rel =>
          refine ⟨i + 1, by omega, by go_num, by rw [HUN.out]; simp [HU0.out], ?_, HK7.out.map HG8.out⟩
          have hu3 : (usedF (crashP keep turn d.L (i + 1)) : Int) = (usedF Li : Int) := by have := HU2.out; omega
          rw [hu3]
          exact H8.out
        case measure => simp [intOf]; omega
    · obtain rfl : i = d.L.length := by omega
      have c2 := HDC.out.c2
      have c3 := HDC.out.c3
      have c4 := HDC.out.c4
      have c5 := HDC.out.c5
      have f3 := HDC.out.f3
      have f4 := HDC.out.f4
      have f5 := HDC.out.f5
      have HALL := Lib.hid (crashP_all keep turn d.L)
      go_wp2_with fail
      go_end0
      refine ⟨rfl, ?_, ?_⟩
      · have h9 := ((HDC.out.set3 false).set4 false).set5 0
        rw [HALL.out] at h9
        exact h9
      · exact ((((((Kp.of_below (b := b) (m := m) HBW.out).trans HKP.out)).setCell 3 _).setCell 4 _).setCell 5 _)
end Go.Proofs.YtnpgjlhnlakgpaaDoor

/- Contracts of the reference's disk: Rename (printed by gen_ref.py). -/
import Derived.Test.YtcjhkonjlhpmhaaVfsR5
namespace Go.Proofs.Ytcjhkonjlhpmhaa
open Go.RowKit Go.Maps

theorem ROut.chain {w w5 w6 : World} {b g g4 : Nat} {d : Dk} (hk : Kp b g w w5) (hg : g4 = g ∨ g4 = b ∨ w.heap.size ≤ g4) (h : ∃ g', RAt w6 b g' d ∧ (g' = b ∨ w5.heap.size ≤ g')) (hk2 : Kp b g4 w5 w6) : ROut w w6 b g d := by
  obtain ⟨g6, h1, h2⟩ := h
  have hz := hk.size
  exact ⟨⟨g6, h1, by omega⟩, hk.mono2 hk2 hg⟩
set_option maxRecDepth 100000 in
set_option maxHeartbeats 8000000 in
theorem ref_rename {d : Dk} {w : World} {b g : Nat} (h : RAt w b g d) (hok : d.Ok) (hs : d.steps < 4611686018427387904) (nm : ByteArray) (tq : ByteArray) (ht : tq.size ≤ maxLen) :
    Calls Try.prog 46 #[.pointer (some ⟨b, 0, none⟩), .string nm, .string tq] w fun e w' => e = .returned (.int .i64 (d.rename nm tq).1) ∧ ROut w w' b g (d.rename nm tq).2 := by
  have H := Lib.hid h
  have HOK := Lib.hid hok
  have hm := hok.many
  have hl := hok.left
  have hus := hok.used
  have hrm := hok.room
  unfold maxLen at *
  clear hok h
  by_cases ho : d.off = true
  · have HO := Lib.hid ho
    have E := Lib.hid (show d.rename nm tq = (143, d) by simp [Dk.rename, ho])
    clear ho
    rw [E.out]
    go_enter Try.func46, Try.ntmps46
    go_wp2_with fail
    refine (ref_at H.out hm nm).mono ?_
    rintro e w1 ⟨rfl, hB1⟩
    have HD1 := Lib.hid (H.out.below hB1)
    have HK1 := Lib.hid (Kp.of_below (b := b) (m := g) hB1)
    have hz1 := hB1.size
    have c3 := HD1.out.c3
    rw [HO.out] at c3
    clear hB1
    go_wp2_with fail
    go_ret
    exact ⟨rfl, ROut.same HD1.out HK1.out⟩
  · have ho' : d.off = false := by simpa using ho
    have HO := Lib.hid ho'
    cases hf : findF nm.data.toList d.L with
    | none =>
      have HF := Lib.hid hf
      have E := Lib.hid (show d.rename nm tq = (140, d) by simp [Dk.rename, ho', hf])
      clear ho ho' hf
      rw [E.out]
      go_enter Try.func46, Try.ntmps46
      go_wp2_with fail
      refine (ref_at_miss H.out hm HF.out).mono ?_
      rintro e w1 ⟨rfl, hB1⟩
      have HD1 := Lib.hid (H.out.below hB1)
      have HK1 := Lib.hid (Kp.of_below (b := b) (m := g) hB1)
      have hz1 := hB1.size
      have c3 := HD1.out.c3
      rw [HO.out] at c3
      clear hB1
      go_wp2_with fail
      go_ret
      exact ⟨rfl, ROut.same HD1.out HK1.out⟩
    | some f =>
      obtain ⟨i, hix, hif⟩ := idx_some hf
      have HI := Lib.hid hix
      have HIF := Lib.hid hif
      have hil : i < d.L.length := (List.getElem?_eq_some_iff.1 hif).1
      have hfu := mem_used (List.mem_of_getElem? hif)
      have hfs := HOK.out.safe f (List.mem_of_getElem? hif)
      have hk : f.name = nm := ba_of_list (findF_key hf)
      clear hix hif
      obtain ⟨fn, fb, fs⟩ := f
      simp only at hfu hfs hk
      by_cases ht1 : tq.size < 1
      · have E := Lib.hid (show d.rename nm tq = (144, d) by have : namedB tq = false := by { unfold namedB; simp; omega }; simp [Dk.rename, ho', hf, this])
        clear ho ho' hf 
        rw [E.out]
        go_enter Try.func46, Try.ntmps46
        go_wp2_with fail
        refine (ref_at_hit H.out hm HI.out).mono ?_
        rintro e w1 ⟨rfl, hB1⟩
        have HD1 := Lib.hid (H.out.below hB1)
        have HK1 := Lib.hid (Kp.of_below (b := b) (m := g) hB1)
        have hz1 := hB1.size
        have c3 := HD1.out.c3
        rw [HO.out] at c3
        clear hB1
        go_wp2_with fail
        go_ret
        exact ⟨rfl, ROut.same HD1.out HK1.out⟩
      by_cases ht2 : 20 < tq.size
      · have E := Lib.hid (show d.rename nm tq = (144, d) by have : namedB tq = false := by { unfold namedB; simp; omega }; simp [Dk.rename, ho', hf, this])
        clear ho ho' hf 
        rw [E.out]
        go_enter Try.func46, Try.ntmps46
        go_wp2_with fail
        refine (ref_at_hit H.out hm HI.out).mono ?_
        rintro e w1 ⟨rfl, hB1⟩
        have HD1 := Lib.hid (H.out.below hB1)
        have HK1 := Lib.hid (Kp.of_below (b := b) (m := g) hB1)
        have hz1 := hB1.size
        have c3 := HD1.out.c3
        rw [HO.out] at c3
        clear hB1
        go_wp2_with fail
        go_ret
        exact ⟨rfl, ROut.same HD1.out HK1.out⟩
      have hnb : namedB tq = true := by unfold namedB; simp; omega
      have t1 : 1 ≤ tq.size := by omega
      have t2 : tq.size ≤ 20 := by omega
      clear ht1 ht2
      cases hr : d.refuses with
      | true =>
        have HR := Lib.hid hr
        have E := Lib.hid (show d.rename nm tq = (143, d.gone) by simp [Dk.rename, ho', hf, hnb, act_no hr])
        clear ho ho' hf hr hnb
        rw [E.out]
        go_enter Try.func46, Try.ntmps46
        go_wp2_with fail
        refine (ref_at_hit H.out hm HI.out).mono ?_
        rintro e w1 ⟨rfl, hB1⟩
        have HD1 := Lib.hid (H.out.below hB1)
        have HK1 := Lib.hid (Kp.of_below (b := b) (m := g) hB1)
        have hz1 := hB1.size
        have c3 := HD1.out.c3
        rw [HO.out] at c3
        clear hB1
        go_wp2_with fail
        refine (ref_step_no HD1.out HR.out).mono ?_
        rintro e w2 ⟨rfl, hd2, hk2⟩
        have HD2 := Lib.hid hd2
        have HK2 := Lib.hid (HK1.out.trans hk2)
        clear hd2 hk2
        go_wp2_with fail
        go_ret
        exact ⟨rfl, ROut.same HD2.out HK2.out⟩
      | false =>
        by_cases hnt : nm = tq
        · subst hnt
          have HR := Lib.hid hr
          have E := Lib.hid (show d.rename nm nm = (0, d.stepped) by simp [Dk.rename, ho', hf, hnb, act_go hr]; rfl)
          clear ho ho' hf hr hnb
          rw [E.out]
          go_enter Try.func46, Try.ntmps46
          go_wp2_with fail
          refine (ref_at_hit H.out hm HI.out).mono ?_
          rintro e w1 ⟨rfl, hB1⟩
          have HD1 := Lib.hid (H.out.below hB1)
          have HK1 := Lib.hid (Kp.of_below (b := b) (m := g) hB1)
          have hz1 := hB1.size
          have c3 := HD1.out.c3
          rw [HO.out] at c3
          clear hB1
          go_wp2_with fail
          refine (ref_step_go HD1.out HR.out hl hs).mono ?_
          rintro e w2 ⟨rfl, hd2, hk2⟩
          have HD2 := Lib.hid hd2
          have HK2 := Lib.hid (HK1.out.trans hk2)
          have hz2 := HK2.out.size
          clear hd2 hk2
          go_wp2_with fail
          go_ret
          exact ⟨rfl, ROut.same HD2.out HK2.out⟩
        · have HR := Lib.hid hr
          have hq := str_eq_false hnt
          subst hk
          have E := Lib.hid (show d.rename fn tq = (0, { d.stepped with L := putF ⟨tq, fb, fs⟩ (delF fn.data.toList d.L) }) by simp [Dk.rename, ho', hf, hnb, hnt, act_go hr])
          clear ho ho' hf hr hnb hnt
          rw [E.out]
          go_enter Try.func46, Try.ntmps46
          go_wp2_with fail
          refine (ref_at_hit H.out hm HI.out).mono ?_
          rintro e w1 ⟨rfl, hB1⟩
          have HD1 := Lib.hid (H.out.below hB1)
          have HK1 := Lib.hid (Kp.of_below (b := b) (m := g) hB1)
          have hz1 := hB1.size
          have c3 := HD1.out.c3
          rw [HO.out] at c3
          clear hB1
          go_wp2_with fail
          refine (ref_step_go HD1.out HR.out hl hs).mono ?_
          rintro e w2 ⟨rfl, hd2, hk2⟩
          have HD2 := Lib.hid hd2
          have HK2 := Lib.hid (HK1.out.trans hk2)
          have hz2 := HK2.out.size
          clear hd2 hk2
          have hli : (i : Int) < (d.L.length : Int) := by omega
          obtain ⟨c, x1, hgb, a0, a1, a2, e1, e2⟩ := HD2.out.file HIF.out
          have x1' : w2.cell? ⟨b, 1, none⟩ = some (.slice (some ⟨g, 0, none⟩) d.L.length c) := x1
          simp only at a0 a1 a2
          clear x1 e1 e2 c3
          go_upto_region 13 with fail
          have hb3 := (Below.refl w2.heap.size w2).alloc (Nat.le_refl _) (.cells #[.string tq, .string fb, .int .i64 (fs : Int)] 43)
          obtain ⟨y0, y1, y2⟩ := file_box (W := w2) (.string tq) (.string fb) (.int .i64 (fs : Int)) 43 rfl
          have hz3 : w2.heap.size < (w2.alloc (.cells #[.string tq, .string fb, .int .i64 (fs : Int)] 43)).heap.size := by simp
          generalize w2.alloc (.cells #[.string tq, .string fb, .int .i64 (fs : Int)] 43) = w3 at *
          have HD3 := Lib.hid (HD2.out.below hb3)
          have HK3 := Lib.hid (HK2.out.step hb3)
          have hg2 := HD2.out.ltg
          have hb2 := HD2.out.lt
          clear x1' a0 a1 a2 hb3
          go_wp2_with fail
          refine (ref_drop HD3.out hm i).mono ?_
          rintro e w4 ⟨rfl, ⟨g4, hd4, hg4⟩, hk4⟩
          have hde : d.stepped.L.eraseIdx i = delF fn.data.toList d.L := by
            have h9 := delF_erase HOK.out.rise HIF.out
            exact h9.symm
          rw [hde] at hd4
          have HG4 := Lib.hid (show g4 = g ∨ g4 = b ∨ w3.heap.size ≤ g4 from .inr hg4)
          have hg4c : w2.heap.size ≠ g4 := by omega
          have w40 : w4.cell? ⟨w2.heap.size, 0, none⟩ = some (.string tq) := by rw [hk4.cell hz3 (by omega) (by omega)]; exact y0
          have w41 : w4.cell? ⟨w2.heap.size, 1, none⟩ = some (.string fb) := by rw [hk4.cell hz3 (by omega) (by omega)]; exact y1
          have w42 : w4.cell? ⟨w2.heap.size, 2, none⟩ = some (.int .i64 (fs : Int)) := by rw [hk4.cell hz3 (by omega) (by omega)]; exact y2
          have hz4 : w2.heap.size < w4.heap.size := Nat.lt_of_lt_of_le hz3 hk4.size
          have HD4 := Lib.hid hd4
          have HK4 := Lib.hid hk4
          have hm4 := length_delF_le fn.data.toList d.L
          have hm4' : ({ d.stepped with L := delF fn.data.toList d.L } : Dk).L.length ≤ 64 := by show (delF fn.data.toList d.L).length ≤ 64; omega
          clear y0 y1 y2 hd4 hg4 hk4 hde
          have HM4 := Lib.hid hm4'
          clear hm4'
          cases hft : findF tq.data.toList (delF fn.data.toList d.L) with
          | none =>
            have HF4 := Lib.hid hft
            have E2 := Lib.hid (put_new (f := ⟨tq, fb, fs⟩) hft)
            clear hft
            go_wp2_with fail
            refine (ref_at_miss HD4.out HM4.out HF4.out).mono ?_
            rintro e w5 ⟨rfl, hB5⟩
            have HD5 := Lib.hid (HD4.out.below hB5)
            have HB5 := Lib.hid hB5
            have v0 : w5.cell? ⟨w2.heap.size, 0, none⟩ = some (.string tq) := by rw [hB5.cell (p := ⟨w2.heap.size, 0, none⟩) hz4]; exact w40
            have v1 : w5.cell? ⟨w2.heap.size, 1, none⟩ = some (.string fb) := by rw [hB5.cell (p := ⟨w2.heap.size, 1, none⟩) hz4]; exact w41
            have v2 : w5.cell? ⟨w2.heap.size, 2, none⟩ = some (.int .i64 (fs : Int)) := by rw [hB5.cell (p := ⟨w2.heap.size, 2, none⟩) hz4]; exact w42
            clear hB5 w40 w41 w42
            go_wp2_with fail
            refine (ref_put HD5.out HM4.out ⟨tq, fb, fs⟩).mono ?_
            rintro e w6 ⟨rfl, hd6, hk6⟩
            have HD6 := Lib.hid hd6
            have HK6 := Lib.hid hk6
            clear hd6 hk6
            go_wp2_with fail
            go_ret
            refine ⟨rfl, ?_⟩
            rw [E2.out]
            exact ROut.chain ((HK3.out.trans HK4.out).step HB5.out) (by have := HK3.out.size; rcases HG4.out with h | h | h <;> omega) HD6.out HK6.out
          | some f2 =>
            obtain ⟨k, hkx, hkf⟩ := idx_some hft
            have hk2 : f2.key = tq.data.toList := findF_key hft
            have HI4 := Lib.hid hkx
            have hde5 : (delF fn.data.toList d.L).eraseIdx k = delF tq.data.toList (delF fn.data.toList d.L) := by
              have h9 := delF_erase (HOK.out.rise.del fn.data.toList) hkf
              rw [hk2] at h9
              exact h9.symm
            have HDE := Lib.hid hde5
            clear hft hkx hkf hk2 hde5
            go_wp2_with fail
            refine (ref_at_hit HD4.out HM4.out HI4.out).mono ?_
            rintro e w5 ⟨rfl, hB5⟩
            have HD5 := Lib.hid (HD4.out.below hB5)
            have HB5 := Lib.hid hB5
            have v0 : w5.cell? ⟨w2.heap.size, 0, none⟩ = some (.string tq) := by rw [hB5.cell (p := ⟨w2.heap.size, 0, none⟩) hz4]; exact w40
            have v1 : w5.cell? ⟨w2.heap.size, 1, none⟩ = some (.string fb) := by rw [hB5.cell (p := ⟨w2.heap.size, 1, none⟩) hz4]; exact w41
            have v2 : w5.cell? ⟨w2.heap.size, 2, none⟩ = some (.int .i64 (fs : Int)) := by rw [hB5.cell (p := ⟨w2.heap.size, 2, none⟩) hz4]; exact w42
            have hz5 : w2.heap.size < w5.heap.size := Nat.lt_of_lt_of_le hz4 hB5.size
            clear hB5 w40 w41 w42
            go_wp2_with fail
            refine (ref_drop HD5.out HM4.out k).mono ?_
            rintro e w6 ⟨rfl, ⟨g6, hd6, hg6⟩, hk6⟩
            have u0 : w6.cell? ⟨w2.heap.size, 0, none⟩ = some (.string tq) := by rw [hk6.cell hz5 (by omega) (by omega)]; exact v0
            have u1 : w6.cell? ⟨w2.heap.size, 1, none⟩ = some (.string fb) := by rw [hk6.cell hz5 (by omega) (by omega)]; exact v1
            have u2 : w6.cell? ⟨w2.heap.size, 2, none⟩ = some (.int .i64 (fs : Int)) := by rw [hk6.cell hz5 (by omega) (by omega)]; exact v2
            have hd6' : RAt w6 b g6 { d.stepped with L := delF tq.data.toList (delF fn.data.toList d.L) } := by rw [← HDE.out]; exact hd6
            have hm6 := length_delF_le tq.data.toList (delF fn.data.toList d.L)
            have hm6' : ({ d.stepped with L := delF tq.data.toList (delF fn.data.toList d.L) } : Dk).L.length ≤ 64 := by show (delF tq.data.toList (delF fn.data.toList d.L)).length ≤ 64; omega
            have HD6 := Lib.hid hd6'
            have HM6 := Lib.hid hm6'
            have HK6 := Lib.hid (((HK3.out.trans HK4.out).step HB5.out).mono2 hk6 (by have := HK3.out.size; rcases HG4.out with h | h | h <;> omega))
            have HG6 := Lib.hid hg6
            clear v0 v1 v2 hd6 hd6' hm6 hm6' hg6 hk6
            go_wp2_with fail
            refine (ref_put HD6.out HM6.out ⟨tq, fb, fs⟩).mono ?_
            rintro e w7 ⟨rfl, hd7, hk7⟩
            have HD7 := Lib.hid hd7
            have HK7 := Lib.hid hk7
            clear hd7 hk7
            go_wp2_with fail
            go_ret
            exact ⟨rfl, ROut.chain HK6.out (by have := HK3.out.size; have := HK4.out.size; have := HB5.out.size; rcases HG6.out with h | h <;> omega) HD7.out HK7.out⟩
end Go.Proofs.Ytcjhkonjlhpmhaa

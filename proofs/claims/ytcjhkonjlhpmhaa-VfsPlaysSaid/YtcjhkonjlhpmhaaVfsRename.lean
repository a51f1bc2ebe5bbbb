/- The contract of the disk's Rename. -/
import Derived.Test.YtcjhkonjlhpmhaaVfsFx
namespace Go.Proofs.Ytcjhkonjlhpmhaa
open Go.RowKit Go.Maps

set_option maxRecDepth 100000 in
set_option maxHeartbeats 4000000 in
theorem rename_any {d : Dk} {w : World} {b m : Nat} (h : DAt w b m d) (hok : d.Ok) (hs : d.steps < 4611686018427387904) {nm : ByteArray} (hn : nm.size ≤ maxLen) {to : ByteArray} (ht : to.size ≤ maxLen) :
    Calls Try.prog 16 #[.pointer (some ⟨b, 0, none⟩), .string nm, .string to] w fun e w' => e = .returned (.int .i64 (d.rename nm to).1) ∧ DAt w' b m (d.rename nm to).2 ∧ Kp b m w w' := by
  have H := Lib.hid h
  have HN := Lib.hid hn
  have HKK := Lib.hid (hkeyS hn)
  have HOK := Lib.hid hok
  have HS := Lib.hid hs
  have hbw := h.lt
  have hmw := h.ltm
  have hbm := h.ne
  have hrm := hok.room
  have hus := hok.used
  clear hok hs h hn
  by_cases ho : d.off = true
  · have E := Lib.hid (show d.rename nm to = (143, d) by simp [Dk.rename, ho])
    have HO := Lib.hid ho
    clear ho
    rw [E.out]
    go_enter Try.func16, Try.ntmps16
    go_wp2_with (first | (go_at_call 35; refine (find_off H.out HO.out nm).mono ?_; rintro e w1 ⟨rfl, hB1⟩; have HB1 := Lib.hid hB1; clear hB1) | fail)
    go_ret
    exact ⟨rfl, (H.out.below HB1.out).alloc _, (Kp.of_below HB1.out).alloc _⟩
  · have ho' : d.off = false := by simpa using ho
    have HO := Lib.hid ho'
    cases hf : findF nm.data.toList d.L with
    | none =>
      have E := Lib.hid (show d.rename nm to = (140, d) by simp [Dk.rename, ho', hf])
      have HF := Lib.hid hf
      clear ho ho' hf
      rw [E.out]
      go_enter Try.func16, Try.ntmps16
      go_wp2_with (first | (go_at_call 35; refine (find_miss H.out HO.out HN.out HF.out).mono ?_; rintro e w1 ⟨rfl, hB1⟩; have HB1 := Lib.hid hB1; clear hB1) | fail)
      go_ret
      exact ⟨rfl, (H.out.below HB1.out).alloc _, (Kp.of_below HB1.out).alloc _⟩
    | some f =>
      have HF := Lib.hid hf
      have hk : f.name = nm := ba_of_list (findF_key hf)
      have hfu := mem_used (findF_mem hf)
      have hfs := HOK.out.safe f (findF_mem hf)
      obtain ⟨fn, fb, fs⟩ := f
      simp only at hk hfu hfs
      subst hk
      have HT := Lib.hid ht
      have HKT := Lib.hid (hkeyS ht)
      clear ht
      cases hnm : namedB to with
      | false =>
        have E := Lib.hid (show d.rename fn to = (144, d) by simp [Dk.rename, ho', hf, hnm])
        have HB := Lib.hid hnm
        clear ho ho' hf hnm
        rw [E.out]
        go_enter Try.func16, Try.ntmps16
        go_wp2_with (first | (go_at_call 35; refine (find_hit H.out HO.out HN.out HF.out).mono ?_; rintro e w1 ⟨rfl, hB1⟩; have HB1 := Lib.hid hB1; have hz1 := hB1.size; clear hB1) | (go_at_call 33; refine (named_any _ _ HT.out).mono ?_; rw [HB.out]; rintro e w' ⟨rfl, rfl⟩) | fail)
        go_ret
        exact ⟨rfl, (H.out.below HB1.out).alloc _, (Kp.of_below HB1.out).alloc _⟩
      | true =>
        have HB := Lib.hid hnm
        cases hr : d.refuses with
        | true =>
          have E := Lib.hid (show d.rename fn to = (143, d.gone) by simp [Dk.rename, ho', hf, hnm, act_no hr])
          have HR := Lib.hid hr
          clear ho ho' hf hr hnm
          rw [E.out]
          go_enter Try.func16, Try.ntmps16
          go_wp2_with (first | (go_at_call 35; refine (find_hit H.out HO.out HN.out HF.out).mono ?_; rintro e w1 ⟨rfl, hB1⟩; have HB1 := Lib.hid hB1; have hz1 := hB1.size; clear hB1) | (go_at_call 33; refine (named_any _ _ HT.out).mono ?_; rw [HB.out]; rintro e w' ⟨rfl, rfl⟩) | (go_at_call 34; refine (step_no ((H.out.below HB1.out).alloc _) HR.out).mono ?_; rintro e w2 ⟨rfl, hd2, hk2⟩; have HD2 := Lib.hid hd2; have HK2 := Lib.hid hk2; clear hd2 hk2) | fail)
          go_ret
          exact ⟨rfl, HD2.out, ((Kp.of_below HB1.out).alloc _).trans HK2.out⟩
        | false =>
          have HR := Lib.hid hr
          by_cases hft : fn = to
          · subst hft
            have E := Lib.hid (show d.rename fn fn = d.act d.L by simp [Dk.rename, ho', hf, hnm])
            have HR0 := Lib.hid (act_go (L := d.L) hr)
            clear ho ho' hf hr hnm
            rw [E.out]
            go_enter Try.func16, Try.ntmps16
            go_wp2_with (first | (go_at_call 35; refine (find_hit H.out HO.out HN.out HF.out).mono ?_; rintro e w1 ⟨rfl, hB1⟩; have HB1 := Lib.hid hB1; have hz1 := hB1.size; clear hB1) | (go_at_call 33; refine (named_any _ _ HT.out).mono ?_; rw [HB.out]; rintro e w' ⟨rfl, rfl⟩) | (go_at_call 34; refine (step_go ((H.out.below HB1.out).alloc _) HR.out HOK.out.left HS.out).mono ?_; rintro e w2 ⟨rfl, hd2, hk2⟩; have HD2 := Lib.hid hd2; have HK2 := Lib.hid hk2; have HX2 := Lib.hid ((Fx.new w1 (.string fn) (.string fb) (.int .i64 (fs : Int)) 70).kept hk2 (by omega) (by omega)); have x0 := HX2.out.c0; have x1 := HX2.out.c1; have x2 := HX2.out.c2; have g0 := HX2.out.f0; have g1 := HX2.out.f1; have g2 := HX2.out.f2; have c1 : w2.cell? ⟨b, 1, none⟩ = some (.int .i64 (usedF d.L : Int)) := hd2.c1; have c2 := hd2.c2; have e1 := hd2.f1; clear hd2 hk2) | fail)
            go_ret
            exact ⟨by rw [HR0.out]; rfl, DAt.act HD2.out HR.out, ((Kp.of_below HB1.out).alloc _).trans HK2.out⟩
          · have E := Lib.hid (show d.rename fn to = d.act (putF ⟨to, fb, fs⟩ (delF fn.data.toList d.L)) by simp [Dk.rename, ho', hf, hnm, hft])
            have hq : (fn.toList == to.toList) = false := by
              simp only [beq_eq_false_iff_ne, ne_eq]
              intro e
              exact hft (ba_of_list (by rw [← ByteArray.toList_eq, ← ByteArray.toList_eq]; exact e))
            have hke : to.data.toList ≠ fn.data.toList := fun e => hft (ba_of_list e.symm)
            have HR0 := Lib.hid (act_go (L := putF ⟨to, fb, fs⟩ (delF fn.data.toList d.L)) hr)
            have HL := Lib.hid (show (delF fn.data.toList d.L).length < maxLen by have := HOK.out.many; have := length_delF_le fn.data.toList d.L; unfold maxLen; omega)
            have hud := usedF_del HOK.out.rise hf
            simp only at hud
            clear hnm hft
            cases hg : findF to.data.toList d.L with
            | none =>
              have hdo : findF to.data.toList (delF fn.data.toList d.L) = none := by rw [findF_del_other hke]; exact hg
              have HU := Lib.hid (usedF_new (f := ⟨to, fb, fs⟩) hdo)
              have HG := Lib.hid hg
              clear ho ho' hf hr hg hdo hke
              rw [E.out]
              go_enter Try.func16, Try.ntmps16
              go_wp2_with (first | (go_at_call 35; refine (find_hit H.out HO.out HN.out HF.out).mono ?_; rintro e w1 ⟨rfl, hB1⟩; have HB1 := Lib.hid hB1; have hz1 := hB1.size; clear hB1) | (go_at_call 33; refine (named_any _ _ HT.out).mono ?_; rw [HB.out]; rintro e w' ⟨rfl, rfl⟩) | (go_at_call 34; refine (step_go ((H.out.below HB1.out).alloc _) HR.out HOK.out.left HS.out).mono ?_; rintro e w2 ⟨rfl, hd2, hk2⟩; have HD2 := Lib.hid hd2; have HK2 := Lib.hid hk2; have HX2 := Lib.hid ((Fx.new w1 (.string fn) (.string fb) (.int .i64 (fs : Int)) 70).kept hk2 (by omega) (by omega)); have x0 := HX2.out.c0; have x1 := HX2.out.c1; have x2 := HX2.out.c2; have g0 := HX2.out.f0; have g1 := HX2.out.f1; have g2 := HX2.out.f2; have c1 : w2.cell? ⟨b, 1, none⟩ = some (.int .i64 (usedF d.L : Int)) := hd2.c1; have c2 := hd2.c2; have e1 := hd2.f1; clear hd2 hk2) | fail)
              have hlk : (Instr.lookup 65 (.map (some m)) (.string to) false).run Try.prog w2.drew = .ok (.agg #[.string ⟨#[]⟩, .string ⟨#[]⟩, .int .i64 0]) w2.drew := look_miss (w := w2.drew) (t := 65) false HD2.out.drew.own lawK Try.underlying65 (zeroE _) HKT.out HG.out
              have q1 := IntWalk.i64_in (usedF d.L : Int) (by omega)
              go_still_tail 16, (by kernel_rfl)
              change wpList _ _ _ _ _ w2.drew
              clear q1 hlk hq
              have HD3 := HD2.out.drew
              have HX3 := HX2.out.of_block (W' := w2.drew) rfl
              have HK3 := Lib.hid (HK2.out.drew)
              generalize w2.drew = W3 at *
              clear x0 x1 x2 g0 g1 g2 c1 c2 e1
              have x0 := HX3.c0
              have x1 := HX3.c1
              have x2 := HX3.c2
              have g0 := HX3.f0
              have g1 := HX3.f1
              have g2 := HX3.f2
              have c1 : W3.cell? ⟨b, 1, none⟩ = some (.int .i64 (usedF d.L : Int)) := HD3.c1
              have c2 := HD3.c2
              have e1 := HD3.f1
              have HD3 := Lib.hid HD3
              have HX3 := Lib.hid HX3
              go_wp2_with (first | (at_delete; refine wpList_delete_fl _ rfl _ _ 65 9 rfl 70 lawK Try.underlying65 m _ d.L rfl (HD3.out.set1 (usedF d.L : Int)).own _ _ rfl HKK.out ?_; intro w5 ho5 hg5; have HO5 := Lib.hid ho5; have HG5 := Lib.hid hg5; have HX5 := Lib.hid ((HX3.out.far (j := b) (o := 1) (u := .int .i64 (usedF d.L : Int)) (by omega)).kept ((Kp.refl b m _).map hg5) (by omega) (by omega)); have y0 := HX5.out.c0; have z0 := HX5.out.f0; have y1 := HX5.out.c1; have y2 := HX5.out.c2; have HD5 := Lib.hid ((HD3.out.set1 (usedF d.L : Int)).map hg5 ho5); have d2 := HD5.out.c2; clear ho5 hg5) | fail)
              clear x0 x1 x2 y0 y1 y2 z0 d2 c2
              have HX8 := HX5.out.set0 (.string to)
              have HD8 := HD5.out.far (j := w1.heap.size) (by omega) (by omega) 0 (.string to)
              have HK8 := Lib.hid ((((((Kp.of_below HB1.out).alloc (.cells #[.string fn, .string fb, .int .i64 (fs : Int)] 70)).trans HK3.out).setCell 1 (.int .i64 (usedF d.L : Int))).map HG5.out).setNew (j := w1.heap.size) (by omega) 0 (.string to))
              generalize (w5.setCell ⟨w1.heap.size, 0, none⟩ (.string to)) = W6 at *
              have c2 := HD8.c2
              have x0 := HX8.c0
              have x1 := HX8.c1
              have x2 := HX8.c2
              have HD8 := Lib.hid HD8
              have HX8 := Lib.hid HX8
              clear g0 g1 g2 c1 e1
              go_still_tail 6, (by kernel_rfl)
              change wpList _ _ _ _ _ W6.drew
              have HD4 := Lib.hid HD8.out.drew
              have HK4 := Lib.hid HK8.out.drew
              generalize W6.drew = W4 at *
              go_wp2_with (first | (at_mapUpdate; refine wpList_store_fl _ rfl _ _ _ 65 rfl 9 70 lawK Try.underlying65 m _ _ rfl HD4.out.own HL.out ⟨to, fb, fs⟩ rfl rfl HKT.out ?_; intro w7 ho7 hg7; have HO7 := Lib.hid ho7; have HG7 := Lib.hid hg7; clear ho7 hg7) | fail)
              go_ret
              refine ⟨by rw [HR0.out]; rfl, DAt.act ?_ HR.out, HK4.out.map HG7.out⟩
              have h5 := HD4.out.map HG7.out HO7.out
              have hu : (usedF (putF ⟨to, fb, fs⟩ (delF fn.data.toList d.L)) : Int) = (usedF d.L : Int) := by have := HU.out; (try simp only at this); omega
              rw [hu]; exact h5
            | some g =>
              have hdo : findF to.data.toList (delF fn.data.toList d.L) = some g := by rw [findF_del_other hke]; exact hg
              have hgu := mem_used (findF_mem hg)
              have HU := Lib.hid (usedF_put (f := ⟨to, fb, fs⟩) (HOK.out.rise.del fn.data.toList) hdo)
              have HG := Lib.hid hg
              clear ho ho' hf hr hg hdo hke
              rw [E.out]
              go_enter Try.func16, Try.ntmps16
              go_wp2_with (first | (go_at_call 35; refine (find_hit H.out HO.out HN.out HF.out).mono ?_; rintro e w1 ⟨rfl, hB1⟩; have HB1 := Lib.hid hB1; have hz1 := hB1.size; clear hB1) | (go_at_call 33; refine (named_any _ _ HT.out).mono ?_; rw [HB.out]; rintro e w' ⟨rfl, rfl⟩) | (go_at_call 34; refine (step_go ((H.out.below HB1.out).alloc _) HR.out HOK.out.left HS.out).mono ?_; rintro e w2 ⟨rfl, hd2, hk2⟩; have HD2 := Lib.hid hd2; have HK2 := Lib.hid hk2; have HX2 := Lib.hid ((Fx.new w1 (.string fn) (.string fb) (.int .i64 (fs : Int)) 70).kept hk2 (by omega) (by omega)); have x0 := HX2.out.c0; have x1 := HX2.out.c1; have x2 := HX2.out.c2; have g0 := HX2.out.f0; have g1 := HX2.out.f1; have g2 := HX2.out.f2; have c1 : w2.cell? ⟨b, 1, none⟩ = some (.int .i64 (usedF d.L : Int)) := hd2.c1; have c2 := hd2.c2; have e1 := hd2.f1; clear hd2 hk2) | fail)
              have hlk : (Instr.lookup 65 (.map (some m)) (.string to) false).run Try.prog w2.drew = .ok (.agg #[.string g.name, .string g.bytes, .int .i64 (g.safe : Int)]) w2.drew := look_hit (w := w2.drew) (t := 65) false HD2.out.drew.own lawK Try.underlying65 (zeroE _) HKT.out HG.out
              have q1 := IntWalk.i64_in ((usedF d.L : Int) - (g.bytes.size : Int)) (by omega)
              go_still_tail 16, (by kernel_rfl)
              change wpList _ _ _ _ _ w2.drew
              clear q1 hlk hq
              have HD3 := HD2.out.drew
              have HX3 := HX2.out.of_block (W' := w2.drew) rfl
              have HK3 := Lib.hid (HK2.out.drew)
              generalize w2.drew = W3 at *
              clear x0 x1 x2 g0 g1 g2 c1 c2 e1
              have x0 := HX3.c0
              have x1 := HX3.c1
              have x2 := HX3.c2
              have g0 := HX3.f0
              have g1 := HX3.f1
              have g2 := HX3.f2
              have c1 : W3.cell? ⟨b, 1, none⟩ = some (.int .i64 (usedF d.L : Int)) := HD3.c1
              have c2 := HD3.c2
              have e1 := HD3.f1
              have HD3 := Lib.hid HD3
              have HX3 := Lib.hid HX3
              go_wp2_with (first | (at_delete; refine wpList_delete_fl _ rfl _ _ 65 9 rfl 70 lawK Try.underlying65 m _ d.L rfl (HD3.out.set1 ((usedF d.L : Int) - (g.bytes.size : Int))).own _ _ rfl HKK.out ?_; intro w5 ho5 hg5; have HO5 := Lib.hid ho5; have HG5 := Lib.hid hg5; have HX5 := Lib.hid ((HX3.out.far (j := b) (o := 1) (u := .int .i64 ((usedF d.L : Int) - (g.bytes.size : Int))) (by omega)).kept ((Kp.refl b m _).map hg5) (by omega) (by omega)); have y0 := HX5.out.c0; have z0 := HX5.out.f0; have y1 := HX5.out.c1; have y2 := HX5.out.c2; have HD5 := Lib.hid ((HD3.out.set1 ((usedF d.L : Int) - (g.bytes.size : Int))).map hg5 ho5); have d2 := HD5.out.c2; clear ho5 hg5) | fail)
              clear x0 x1 x2 y0 y1 y2 z0 d2 c2
              have HX8 := HX5.out.set0 (.string to)
              have HD8 := HD5.out.far (j := w1.heap.size) (by omega) (by omega) 0 (.string to)
              have HK8 := Lib.hid ((((((Kp.of_below HB1.out).alloc (.cells #[.string fn, .string fb, .int .i64 (fs : Int)] 70)).trans HK3.out).setCell 1 (.int .i64 ((usedF d.L : Int) - (g.bytes.size : Int)))).map HG5.out).setNew (j := w1.heap.size) (by omega) 0 (.string to))
              generalize (w5.setCell ⟨w1.heap.size, 0, none⟩ (.string to)) = W6 at *
              have c2 := HD8.c2
              have x0 := HX8.c0
              have x1 := HX8.c1
              have x2 := HX8.c2
              have HD8 := Lib.hid HD8
              have HX8 := Lib.hid HX8
              clear g0 g1 g2 c1 e1
              go_still_tail 6, (by kernel_rfl)
              change wpList _ _ _ _ _ W6.drew
              have HD4 := Lib.hid HD8.out.drew
              have HK4 := Lib.hid HK8.out.drew
              generalize W6.drew = W4 at *
              go_wp2_with (first | (at_mapUpdate; refine wpList_store_fl _ rfl _ _ _ 65 rfl 9 70 lawK Try.underlying65 m _ _ rfl HD4.out.own HL.out ⟨to, fb, fs⟩ rfl rfl HKT.out ?_; intro w7 ho7 hg7; have HO7 := Lib.hid ho7; have HG7 := Lib.hid hg7; clear ho7 hg7) | fail)
              go_ret
              refine ⟨by rw [HR0.out]; rfl, DAt.act ?_ HR.out, HK4.out.map HG7.out⟩
              have h5 := HD4.out.map HG7.out HO7.out
              have hu : (usedF (putF ⟨to, fb, fs⟩ (delF fn.data.toList d.L)) : Int) = ((usedF d.L : Int) - (g.bytes.size : Int)) := by have := HU.out; (try simp only at this); omega
              rw [hu]; exact h5
end Go.Proofs.Ytcjhkonjlhpmhaa

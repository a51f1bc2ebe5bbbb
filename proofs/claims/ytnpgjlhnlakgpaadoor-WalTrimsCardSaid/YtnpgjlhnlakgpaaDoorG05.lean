/- The contract of the disk's Sync. The contract of the disk's Remove. -/
import Derived.Test.YtnpgjlhnlakgpaaDoorG04
namespace Go.Proofs.YtnpgjlhnlakgpaaDoor
open Go.RowKit Go.Maps

set_option maxRecDepth 100000 in
set_option maxHeartbeats 4000000 in
theorem sync_any {d : Dk} {w : World} {b m : Nat} (h : DAt w b m d) (hok : d.Ok) (hs : d.steps < 4611686018427387904) {nm : ByteArray} (hn : nm.size ≤ maxLen) :
    Calls Tryd.prog 71 #[.pointer (some ⟨b, 0, none⟩), .string nm] w fun e w' => e = .returned (.int .i64 (d.sync nm).1) ∧ DAt w' b m (d.sync nm).2 ∧ Kp b m w w' := by
  have H := Lib.hid h
  have HN := Lib.hid hn
  have HKK := Lib.hid (hkeyS hn)
  have HOK := Lib.hid hok
  have HS := Lib.hid hs
  have hbw := h.lt
  have hmw := h.ltm
  have hbm := h.ne
  have hrm := hok.room
  have hus := hok.used
  clear hok hs h hn
  by_cases ho : d.off = true
  · have E := Lib.hid (show d.sync nm = (143, d) by simp [Dk.sync, ho])
    have HO := Lib.hid ho
    clear ho
    rw [E.out]
    go_enter Tryd.func71, Tryd.ntmps71
    go_wp2_with (first | (go_at_call 100; refine (find_off H.out HO.out nm).mono ?_; rintro e w1 ⟨rfl, hB1⟩; have HB1 := Lib.hid hB1; clear hB1) | fail)
    go_ret
    exact ⟨rfl, (H.out.below HB1.out).alloc _, (Kp.of_below HB1.out).alloc _⟩
  · have ho' : d.off = false := by simpa using ho
    have HO := Lib.hid ho'
    cases hf : findF nm.data.toList d.L with
    | none =>
      have E := Lib.hid (show d.sync nm = (140, d) by simp [Dk.sync, ho', hf])
      have HF := Lib.hid hf
      clear ho ho' hf
      rw [E.out]
      go_enter Tryd.func71, Tryd.ntmps71
      go_wp2_with (first | (go_at_call 100; refine (find_miss H.out HO.out HN.out HF.out).mono ?_; rintro e w1 ⟨rfl, hB1⟩; have HB1 := Lib.hid hB1; clear hB1) | fail)
      go_ret
      exact ⟨rfl, (H.out.below HB1.out).alloc _, (Kp.of_below HB1.out).alloc _⟩
    | some f =>
      have HF := Lib.hid hf
      have hk : f.name = nm := ba_of_list (findF_key hf)
      have hfu := mem_used (findF_mem hf)
      have hfs := HOK.out.safe f (findF_mem hf)
      obtain ⟨fn, fb, fs⟩ := f
      simp only at hk hfu hfs
      subst hk
      cases hr : d.refuses with
      | true =>
        have E := Lib.hid (show d.sync fn = (143, d.gone) by simp [Dk.sync, ho', hf, act_no hr])
        have HR := Lib.hid hr
        clear ho ho' hf hr
        rw [E.out]
        go_enter Tryd.func71, Tryd.ntmps71
        go_wp2_with (first | (go_at_call 100; refine (find_hit H.out HO.out HN.out HF.out).mono ?_; rintro e w1 ⟨rfl, hB1⟩; have HB1 := Lib.hid hB1; have hz1 := hB1.size; clear hB1) | (go_at_call 97; refine (step_no ((H.out.below HB1.out).alloc _) HR.out).mono ?_; rintro e w2 ⟨rfl, hd2, hk2⟩; have HD2 := Lib.hid hd2; have HK2 := Lib.hid hk2; clear hd2 hk2) | fail)
        go_ret
        exact ⟨rfl, HD2.out, ((Kp.of_below HB1.out).alloc _).trans HK2.out⟩
      | false =>
        have E := Lib.hid (show d.sync fn = d.act (putF ⟨fn, fb, fb.size⟩ d.L) by simp [Dk.sync, ho', hf])
        have HR := Lib.hid hr
        have HR0 := Lib.hid (act_go (L := putF ⟨fn, fb, fb.size⟩ d.L) hr)
        have HL := Lib.hid (show d.stepped.L.length < maxLen by have := HOK.out.many; show d.L.length < _; unfold maxLen; omega)
        have HU := Lib.hid (usedF_put (f := ⟨fn, fb, fb.size⟩) HOK.out.rise hf)
        clear ho ho' hf hr
        rw [E.out]
        go_enter Tryd.func71, Tryd.ntmps71
        go_wp2_with (first | (go_at_call 100; refine (find_hit H.out HO.out HN.out HF.out).mono ?_; rintro e w1 ⟨rfl, hB1⟩; have HB1 := Lib.hid hB1; have hz1 := hB1.size; clear hB1) | (go_at_call 97; refine (step_go ((H.out.below HB1.out).alloc _) HR.out HOK.out.left HS.out).mono ?_; rintro e w2 ⟨rfl, hd2, hk2⟩; have HD2 := Lib.hid hd2; have HK2 := Lib.hid hk2; have HX2 := Lib.hid ((Fx.new w1 (.string fn) (.string fb) (.int .i64 (fs : Int)) 117).kept hk2 (by omega) (by omega)); have x0 := HX2.out.c0; have x1 := HX2.out.c1; have x2 := HX2.out.c2; have g0 := HX2.out.f0; have g1 := HX2.out.f1; have g2 := HX2.out.f2; have c1 : w2.cell? ⟨b, 1, none⟩ = some (.int .i64 (usedF d.L : Int)) := hd2.c1; have c2 := hd2.c2; have e1 := hd2.f1; clear hd2 hk2) | fail)
        have HX3 := HX2.out.set2 (.int .i64 (fb.size : Int))
        have HD3 := HD2.out.far (j := w1.heap.size) (by omega) (by omega) 2 (.int .i64 (fb.size : Int))
        have HK3 := Lib.hid ((((Kp.of_below HB1.out).alloc (.cells #[.string fn, .string fb, .int .i64 (fs : Int)] 117)).trans HK2.out).setNew (j := w1.heap.size) (by omega) 2 (.int .i64 (fb.size : Int)))
        generalize (w2.setCell ⟨w1.heap.size, 2, none⟩ (.int .i64 (fb.size : Int))) = W3 at *
        have c2 := HD3.c2
        have x0 := HX3.c0
        have x1 := HX3.c1
        have x2 := HX3.c2
        have HD3 := Lib.hid HD3
        have HX3 := Lib.hid HX3
        clear g0 g1 g2 c1 e1
        go_still_tail 6, (by kernel_rfl)
        change wpList _ _ _ _ _ W3.drew
        have HD4 := Lib.hid HD3.out.drew
        have HK4 := Lib.hid HK3.out.drew
        generalize W3.drew = W4 at *
        go_wp2_with (first | (at_mapUpdate; refine wpList_store_fl _ rfl _ _ _ 107 rfl 9 117 lawK Tryd.underlying107 m _ _ rfl HD4.out.own HL.out ⟨fn, fb, fb.size⟩ rfl rfl HKK.out ?_; intro w5 ho5 hg5; have HO5 := Lib.hid ho5; have HG5 := Lib.hid hg5; clear ho5 hg5) | fail)
        go_ret
        refine ⟨by rw [HR0.out]; rfl, DAt.act ?_ HR.out, HK4.out.map HG5.out⟩
        have h5 := HD4.out.map HG5.out HO5.out
        have hu : usedF (putF ⟨fn, fb, fb.size⟩ d.L) = usedF d.L := by have := HU.out; (try simp only at this); omega
        rw [hu]; exact h5
end Go.Proofs.YtnpgjlhnlakgpaaDoor
namespace Go.Proofs.YtnpgjlhnlakgpaaDoor
open Go.RowKit Go.Maps

set_option maxRecDepth 100000 in
set_option maxHeartbeats 4000000 in
theorem remove_any {d : Dk} {w : World} {b m : Nat} (h : DAt w b m d) (hok : d.Ok) (hs : d.steps < 4611686018427387904) {nm : ByteArray} (hn : nm.size ≤ maxLen) :
    Calls Tryd.prog 72 #[.pointer (some ⟨b, 0, none⟩), .string nm] w fun e w' => e = .returned (.int .i64 (d.remove nm).1) ∧ DAt w' b m (d.remove nm).2 ∧ Kp b m w w' := by
  have H := Lib.hid h
  have HN := Lib.hid hn
  have HKK := Lib.hid (hkeyS hn)
  have HOK := Lib.hid hok
  have HS := Lib.hid hs
  have hbw := h.lt
  have hmw := h.ltm
  have hbm := h.ne
  have hrm := hok.room
  have hus := hok.used
  clear hok hs h hn
  by_cases ho : d.off = true
  · have E := Lib.hid (show d.remove nm = (143, d) by simp [Dk.remove, ho])
    have HO := Lib.hid ho
    clear ho
    rw [E.out]
    go_enter Tryd.func72, Tryd.ntmps72
    go_wp2_with (first | (go_at_call 100; refine (find_off H.out HO.out nm).mono ?_; rintro e w1 ⟨rfl, hB1⟩; have HB1 := Lib.hid hB1; clear hB1) | fail)
    go_ret
    exact ⟨rfl, (H.out.below HB1.out).alloc _, (Kp.of_below HB1.out).alloc _⟩
  · have ho' : d.off = false := by simpa using ho
    have HO := Lib.hid ho'
    cases hf : findF nm.data.toList d.L with
    | none =>
      have E := Lib.hid (show d.remove nm = (140, d) by simp [Dk.remove, ho', hf])
      have HF := Lib.hid hf
      clear ho ho' hf
      rw [E.out]
      go_enter Tryd.func72, Tryd.ntmps72
      go_wp2_with (first | (go_at_call 100; refine (find_miss H.out HO.out HN.out HF.out).mono ?_; rintro e w1 ⟨rfl, hB1⟩; have HB1 := Lib.hid hB1; clear hB1) | fail)
      go_ret
      exact ⟨rfl, (H.out.below HB1.out).alloc _, (Kp.of_below HB1.out).alloc _⟩
    | some f =>
      have HF := Lib.hid hf
      have hk : f.name = nm := ba_of_list (findF_key hf)
      have hfu := mem_used (findF_mem hf)
      have hfs := HOK.out.safe f (findF_mem hf)
      obtain ⟨fn, fb, fs⟩ := f
      simp only at hk hfu hfs
      subst hk
      cases hr : d.refuses with
      | true =>
        have E := Lib.hid (show d.remove fn = (143, d.gone) by simp [Dk.remove, ho', hf, act_no hr])
        have HR := Lib.hid hr
        clear ho ho' hf hr
        rw [E.out]
        go_enter Tryd.func72, Tryd.ntmps72
        go_wp2_with (first | (go_at_call 100; refine (find_hit H.out HO.out HN.out HF.out).mono ?_; rintro e w1 ⟨rfl, hB1⟩; have HB1 := Lib.hid hB1; have hz1 := hB1.size; clear hB1) | (go_at_call 97; refine (step_no ((H.out.below HB1.out).alloc _) HR.out).mono ?_; rintro e w2 ⟨rfl, hd2, hk2⟩; have HD2 := Lib.hid hd2; have HK2 := Lib.hid hk2; clear hd2 hk2) | fail)
        go_ret
        exact ⟨rfl, HD2.out, ((Kp.of_below HB1.out).alloc _).trans HK2.out⟩
      | false =>
        have E := Lib.hid (show d.remove fn = d.act (delF fn.data.toList d.L) by simp [Dk.remove, ho', hf])
        have HR := Lib.hid hr
        have HR0 := Lib.hid (act_go (L := delF fn.data.toList d.L) hr)
        have HU := Lib.hid (usedF_del HOK.out.rise hf)
        clear ho ho' hf hr
        rw [E.out]
        go_enter Tryd.func72, Tryd.ntmps72
        go_wp2_with (first | (go_at_call 100; refine (find_hit H.out HO.out HN.out HF.out).mono ?_; rintro e w1 ⟨rfl, hB1⟩; have HB1 := Lib.hid hB1; have hz1 := hB1.size; clear hB1) | (go_at_call 97; refine (step_go ((H.out.below HB1.out).alloc _) HR.out HOK.out.left HS.out).mono ?_; rintro e w2 ⟨rfl, hd2, hk2⟩; have HD2 := Lib.hid hd2; have HK2 := Lib.hid hk2; have HX2 := Lib.hid ((Fx.new w1 (.string fn) (.string fb) (.int .i64 (fs : Int)) 117).kept hk2 (by omega) (by omega)); have x0 := HX2.out.c0; have x1 := HX2.out.c1; have x2 := HX2.out.c2; have g0 := HX2.out.f0; have g1 := HX2.out.f1; have g2 := HX2.out.f2; have c1 : w2.cell? ⟨b, 1, none⟩ = some (.int .i64 (usedF d.L : Int)) := hd2.c1; have c2 := hd2.c2; have e1 := hd2.f1; clear hd2 hk2) | fail)
        have q1 := IntWalk.i64_in ((usedF d.L : Int) - (fb.size : Int)) (by omega)
        go_still_tail 11, (by kernel_rfl)
        change wpList _ _ _ _ _ w2.drew
        have HD3 := HD2.out.drew
        have HX3 := HX2.out.of_block (W' := w2.drew) rfl
        have HK3 := Lib.hid (HK2.out.drew)
        generalize w2.drew = W3 at *
        clear x0 x1 x2 g0 g1 g2 c1 c2 e1
        have x0 := HX3.c0
        have x1 := HX3.c1
        have x2 := HX3.c2
        have g0 := HX3.f0
        have g1 := HX3.f1
        have g2 := HX3.f2
        have c1 : W3.cell? ⟨b, 1, none⟩ = some (.int .i64 (usedF d.L : Int)) := HD3.c1
        have c2 := HD3.c2
        have e1 := HD3.f1
        have HD3 := Lib.hid HD3
        have HX3 := Lib.hid HX3
        go_wp2_with (first | (at_delete; refine wpList_delete_fl _ rfl _ _ 107 9 rfl 117 lawK Tryd.underlying107 m _ d.L rfl (HD3.out.set1 ((usedF d.L : Int) - (fb.size : Int))).own _ _ rfl HKK.out ?_; intro w5 ho5 hg5; have HO5 := Lib.hid ho5; have HG5 := Lib.hid hg5; clear ho5 hg5) | fail)
        go_ret
        refine ⟨by rw [HR0.out]; rfl, DAt.act ?_ HR.out, (((((Kp.of_below HB1.out).alloc _).trans HK3.out).setCell 1 _).map HG5.out)⟩
        have h5 := (HD3.out.set1 ((usedF d.L : Int) - (fb.size : Int))).map HG5.out HO5.out
        have hu : (usedF (delF fn.data.toList d.L) : Int) = (usedF d.L : Int) - (fb.size : Int) := by have := HU.out; (try simp only at this); omega
        rw [hu]; exact h5
end Go.Proofs.YtnpgjlhnlakgpaaDoor

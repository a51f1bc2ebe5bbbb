/- The contract of the disk's Sync. The contract of the disk's Read. The contract of the disk's Cut. The contract of New (a disk of a room that may be). *copy of XVfsSmall's*. The contract of the disk's Arm. -/
import Derived.Test.YtnpgjlhnlakgpaaDoorG04
namespace Go.Proofs.YtnpgjlhnlakgpaaDoor
open Go.RowKit Go.Maps

set_option maxRecDepth 100000 in
set_option maxHeartbeats 4000000 in
theorem sync_any {d : Dk} {w : World} {b m : Nat} (h : DAt w b m d) (hok : d.Ok) (hs : d.steps < 4611686018427387904) {nm : ByteArray} (hn : nm.size ≤ maxLen) :
    Calls Tryd.prog 71 #[.pointer (some ⟨b, 0, none⟩), .string nm] w fun e w' => e = .returned (.int .i64 (d.sync nm).1) ∧ DAt w' b m (d.sync nm).2 ∧ Kp b m w w' := by
  have H := Lib.hid h
  have HN := Lib.hid hn
  have HKK := Lib.hid (hkeyS hn)
  have HOK := Lib.hid hok
  have HS := Lib.hid hs
  have hbw := h.lt
  have hmw := h.ltm
  have hbm := h.ne
  have hrm := hok.room
  have hus := hok.used
  clear hok hs h hn
  by_cases ho : d.off = true
  · have E := Lib.hid (show d.sync nm = (143, d) by simp [Dk.sync, ho])
    have HO := Lib.hid ho
    clear ho
    rw [E.out]
    go_enter Tryd.func71, Tryd.ntmps71
    go_wp2_with (first | (go_at_call 100; refine (find_off H.out HO.out nm).mono ?_; rintro e w1 ⟨rfl, hB1⟩; have HB1 := Lib.hid hB1; clear hB1) | fail)
    go_ret
    exact ⟨rfl, (H.out.below HB1.out).alloc _, (Kp.of_below HB1.out).alloc _⟩
  · have ho' : d.off = false := by simpa using ho
    have HO := Lib.hid ho'
    cases hf : findF nm.data.toList d.L with
    | none =>
      have E := Lib.hid (show d.sync nm = (140, d) by simp [Dk.sync, ho', hf])
      have HF := Lib.hid hf
      clear ho ho' hf
      rw [E.out]
      go_enter Tryd.func71, Tryd.ntmps71
      go_wp2_with (first | (go_at_call 100; refine (find_miss H.out HO.out HN.out HF.out).mono ?_; rintro e w1 ⟨rfl, hB1⟩; have HB1 := Lib.hid hB1; clear hB1) | fail)
      go_ret
      exact ⟨rfl, (H.out.below HB1.out).alloc _, (Kp.of_below HB1.out).alloc _⟩
    | some f =>
      have HF := Lib.hid hf
      have hk : f.name = nm := ba_of_list (findF_key hf)
      have hfu := mem_used (findF_mem hf)
      have hfs := HOK.out.safe f (findF_mem hf)
      obtain ⟨fn, fb, fs⟩ := f
      simp only at hk hfu hfs
      subst hk
      cases hr : d.refuses with
      | true =>
        have E := Lib.hid (show d.sync fn = (143, d.gone) by simp [Dk.sync, ho', hf, act_no hr])
        have HR := Lib.hid hr
        clear ho ho' hf hr
        rw [E.out]
        go_enter Tryd.func71, Tryd.ntmps71
        go_wp2_with (first | (go_at_call 100; refine (find_hit H.out HO.out HN.out HF.out).mono ?_; rintro e w1 ⟨rfl, hB1⟩; have HB1 := Lib.hid hB1; have hz1 := hB1.size; clear hB1) | (go_at_call 97; refine (step_no ((H.out.below HB1.out).alloc _) HR.out).mono ?_; rintro e w2 ⟨rfl, hd2, hk2⟩; have HD2 := Lib.hid hd2; have HK2 := Lib.hid hk2; clear hd2 hk2) | fail)
        go_ret
        exact ⟨rfl, HD2.out, ((Kp.of_below HB1.out).alloc _).trans HK2.out⟩
      | false =>
        have E := Lib.hid (show d.sync fn = d.act (putF ⟨fn, fb, fb.size⟩ d.L) by simp [Dk.sync, ho', hf])
        have HR := Lib.hid hr
        have HR0 := Lib.hid (act_go (L := putF ⟨fn, fb, fb.size⟩ d.L) hr)
        have HL := Lib.hid (show d.stepped.L.length < maxLen by have := HOK.out.many; show d.L.length < _; unfold maxLen; omega)
        have HU := Lib.hid (usedF_put (f := ⟨fn, fb, fb.size⟩) HOK.out.rise hf)
        clear ho ho' hf hr
        rw [E.out]
        go_enter Tryd.func71, Tryd.ntmps71
        go_wp2_with (first | (go_at_call 100; refine (find_hit H.out HO.out HN.out HF.out).mono ?_; rintro e w1 ⟨rfl, hB1⟩; have HB1 := Lib.hid hB1; have hz1 := hB1.size; clear hB1) | (go_at_call 97; refine (step_go ((H.out.below HB1.out).alloc _) HR.out HOK.out.left HS.out).mono ?_; rintro e w2 ⟨rfl, hd2, hk2⟩; have HD2 := Lib.hid hd2; have HK2 := Lib.hid hk2; have HX2 := Lib.hid ((Fx.new w1 (.string fn) (.string fb) (.int .i64 (fs : Int)) 117).kept hk2 (by omega) (by omega)); have x0 := HX2.out.c0; have x1 := HX2.out.c1; have x2 := HX2.out.c2; have g0 := HX2.out.f0; have g1 := HX2.out.f1; have g2 := HX2.out.f2; have c1 : w2.cell? ⟨b, 1, none⟩ = some (.int .i64 (usedF d.L : Int)) := hd2.c1; have c2 := hd2.c2; have e1 := hd2.f1; clear hd2 hk2) | fail)
        have HX3 := HX2.out.set2 (.int .i64 (fb.size : Int))
        have HD3 := HD2.out.far (j := w1.heap.size) (by omega) (by omega) 2 (.int .i64 (fb.size : Int))
        have HK3 := Lib.hid ((((Kp.of_below HB1.out).alloc (.cells #[.string fn, .string fb, .int .i64 (fs : Int)] 117)).trans HK2.out).setNew (j := w1.heap.size) (by omega) 2 (.int .i64 (fb.size : Int)))
        generalize (w2.setCell ⟨w1.heap.size, 2, none⟩ (.int .i64 (fb.size : Int))) = W3 at *
        have c2 := HD3.c2
        have x0 := HX3.c0
        have x1 := HX3.c1
        have x2 := HX3.c2
        have HD3 := Lib.hid HD3
        have HX3 := Lib.hid HX3
        clear g0 g1 g2 c1 e1
        go_still_tail 6, (by kernel_rfl)
        change wpList _ _ _ _ _ W3.drew
        have HD4 := Lib.hid HD3.out.drew
        have HK4 := Lib.hid HK3.out.drew
        generalize W3.drew = W4 at *
        go_wp2_with (first | (at_mapUpdate; refine wpList_store_fl _ rfl _ _ _ 107 rfl 9 117 lawK Tryd.underlying107 m _ _ rfl HD4.out.own HL.out ⟨fn, fb, fb.size⟩ rfl rfl HKK.out ?_; intro w5 ho5 hg5; have HO5 := Lib.hid ho5; have HG5 := Lib.hid hg5; clear ho5 hg5) | fail)
        go_ret
        refine ⟨by rw [HR0.out]; rfl, DAt.act ?_ HR.out, HK4.out.map HG5.out⟩
        have h5 := HD4.out.map HG5.out HO5.out
        have hu : usedF (putF ⟨fn, fb, fb.size⟩ d.L) = usedF d.L := by have := HU.out; (try simp only at this); omega
        rw [hu]; exact h5
end Go.Proofs.YtnpgjlhnlakgpaaDoor
namespace Go.Proofs.YtnpgjlhnlakgpaaDoor
open Go.RowKit Go.Maps

set_option maxHeartbeats 1000000 in
theorem read_any {d : Dk} {w : World} {b m : Nat} (h : DAt w b m d) {nm : ByteArray} (hn : nm.size ≤ maxLen) :
    Calls Tryd.prog 74 #[.pointer (some ⟨b, 0, none⟩), .string nm] w fun e w' => e = .returned (.tuple #[.string (d.read nm).1, .int .i64 (d.read nm).2]) ∧ Below w.heap.size w w' := by
  have H := Lib.hid h
  have HN := Lib.hid hn
  clear h hn
  by_cases ho : d.off = true
  · have E := Lib.hid (show d.read nm = (⟨#[]⟩, 143) by simp [Dk.read, ho]; rfl)
    have HO := Lib.hid ho
    clear ho
    rw [E.out]
    go_enter Tryd.func74, Tryd.ntmps74
    go_wp2_with (first | (go_at_call 100; refine (find_off H.out HO.out nm).mono ?_; rintro e w1 ⟨rfl, hB1⟩; have HB1 := Lib.hid hB1; clear hB1) | fail)
    go_ret2
    exact ⟨rfl, HB1.out.alloc HB1.out.size _⟩
  · have ho' : d.off = false := by simpa using ho
    have HO := Lib.hid ho'
    cases hf : findF nm.data.toList d.L with
    | none =>
      have E := Lib.hid (show d.read nm = (⟨#[]⟩, 140) by simp [Dk.read, ho', hf]; rfl)
      have HF := Lib.hid hf
      clear ho ho' hf
      rw [E.out]
      go_enter Tryd.func74, Tryd.ntmps74
      go_wp2_with (first | (go_at_call 100; refine (find_miss H.out HO.out HN.out HF.out).mono ?_; rintro e w1 ⟨rfl, hB1⟩; have HB1 := Lib.hid hB1; clear hB1) | fail)
      go_ret2
      exact ⟨rfl, HB1.out.alloc HB1.out.size _⟩
    | some f =>
      have E := Lib.hid (show d.read nm = (f.bytes, 0) by simp [Dk.read, ho', hf])
      have HF := Lib.hid hf
      clear ho ho' hf
      rw [E.out]
      go_enter Tryd.func74, Tryd.ntmps74
      go_wp2_with (first | (go_at_call 100; refine (find_hit H.out HO.out HN.out HF.out).mono ?_; rintro e w1 ⟨rfl, hB1⟩; have HB1 := Lib.hid hB1; clear hB1) | fail)
      go_ret2
      exact ⟨rfl, HB1.out.alloc HB1.out.size _⟩
end Go.Proofs.YtnpgjlhnlakgpaaDoor
namespace Go.Proofs.YtnpgjlhnlakgpaaDoor
open Go.RowKit Go.Maps

set_option maxRecDepth 100000 in
set_option maxHeartbeats 4000000 in
theorem cut_any {d : Dk} {w : World} {b m : Nat} (h : DAt w b m d) (hok : d.Ok) (hs : d.steps < 4611686018427387904) {nm : ByteArray} (hn : nm.size ≤ maxLen) (n : Int) :
    Calls Tryd.prog 99 #[.pointer (some ⟨b, 0, none⟩), .string nm, .int .i64 n] w fun e w' => e = .returned (.int .i64 (d.cut nm n).1) ∧ DAt w' b m (d.cut nm n).2 ∧ Kp b m w w' := by
  have H := Lib.hid h
  have HN := Lib.hid hn
  have HKK := Lib.hid (hkeyS hn)
  have HOK := Lib.hid hok
  have HS := Lib.hid hs
  have hbw := h.lt
  have hmw := h.ltm
  have hbm := h.ne
  have hrm := hok.room
  have hus := hok.used
  clear hok hs h hn
  by_cases ho : d.off = true
  · have E := Lib.hid (show d.cut nm n = (143, d) by simp [Dk.cut, ho])
    have HO := Lib.hid ho
    clear ho
    rw [E.out]
    go_enter Tryd.func99, Tryd.ntmps99
    go_wp2_with (first | (go_at_call 100; refine (find_off H.out HO.out nm).mono ?_; rintro e w1 ⟨rfl, hB1⟩; have HB1 := Lib.hid hB1; clear hB1) | fail)
    go_ret
    exact ⟨rfl, (H.out.below HB1.out).alloc _, (Kp.of_below HB1.out).alloc _⟩
  · have ho' : d.off = false := by simpa using ho
    have HO := Lib.hid ho'
    cases hf : findF nm.data.toList d.L with
    | none =>
      have E := Lib.hid (show d.cut nm n = (140, d) by simp [Dk.cut, ho', hf])
      have HF := Lib.hid hf
      clear ho ho' hf
      rw [E.out]
      go_enter Tryd.func99, Tryd.ntmps99
      go_wp2_with (first | (go_at_call 100; refine (find_miss H.out HO.out HN.out HF.out).mono ?_; rintro e w1 ⟨rfl, hB1⟩; have HB1 := Lib.hid hB1; clear hB1) | fail)
      go_ret
      exact ⟨rfl, (H.out.below HB1.out).alloc _, (Kp.of_below HB1.out).alloc _⟩
    | some f =>
      have HF := Lib.hid hf
      have hk : f.name = nm := ba_of_list (findF_key hf)
      have hfu := mem_used (findF_mem hf)
      have hfs := HOK.out.safe f (findF_mem hf)
      obtain ⟨fn, fb, fs⟩ := f
      simp only at hk hfu hfs
      subst hk
      by_cases hn0 : n < 0
      · have E := Lib.hid (show d.cut fn n = (1, d) by simp [Dk.cut, ho', hf, hn0])
        clear ho ho' hf
        rw [E.out]
        go_enter Tryd.func99, Tryd.ntmps99
        go_wp2_with (first | (go_at_call 100; refine (find_hit H.out HO.out HN.out HF.out).mono ?_; rintro e w1 ⟨rfl, hB1⟩; have HB1 := Lib.hid hB1; have hz1 := hB1.size; clear hB1) | fail)
        go_ret
        exact ⟨rfl, (H.out.below HB1.out).alloc _, (Kp.of_below HB1.out).alloc _⟩
      · obtain ⟨k, rfl⟩ : ∃ k : Nat, n = (k : Int) := ⟨n.toNat, by omega⟩
        by_cases hn1 : (fb.size : Int) < (k : Int)
        · have E := Lib.hid (show d.cut fn k = (1, d) by simp [Dk.cut, ho', hf]; omega)
          clear ho ho' hf
          rw [E.out]
          go_enter Tryd.func99, Tryd.ntmps99
          go_wp2_with (first | (go_at_call 100; refine (find_hit H.out HO.out HN.out HF.out).mono ?_; rintro e w1 ⟨rfl, hB1⟩; have HB1 := Lib.hid hB1; have hz1 := hB1.size; clear hB1) | fail)
          go_ret
          exact ⟨rfl, (H.out.below HB1.out).alloc _, (Kp.of_below HB1.out).alloc _⟩
        · have hkl : k ≤ fb.size := by omega
          cases hr : d.refuses with
          | true =>
            have E := Lib.hid (show d.cut fn k = (143, d.gone) by simp [Dk.cut, ho', hf, act_no hr]; omega)
            have HR := Lib.hid hr
            clear ho ho' hf hr
            rw [E.out]
            go_enter Tryd.func99, Tryd.ntmps99
            go_wp2_with (first | (go_at_call 100; refine (find_hit H.out HO.out HN.out HF.out).mono ?_; rintro e w1 ⟨rfl, hB1⟩; have HB1 := Lib.hid hB1; have hz1 := hB1.size; clear hB1) | (go_at_call 97; refine (step_no ((H.out.below HB1.out).alloc _) HR.out).mono ?_; rintro e w2 ⟨rfl, hd2, hk2⟩; have HD2 := Lib.hid hd2; have HK2 := Lib.hid hk2; clear hd2 hk2) | fail)
            go_ret
            exact ⟨rfl, HD2.out, ((Kp.of_below HB1.out).alloc _).trans HK2.out⟩
          | false =>
            by_cases hmin : k < fs
            · have hmm : min fs k = k := Nat.min_eq_right (by omega)
              have E := Lib.hid (show d.cut fn k = d.act (putF ⟨fn, fb.extract 0 k, k⟩ d.L) by simp [Dk.cut, ho', hf, hmm]; omega)
              have HR := Lib.hid hr
              have HR0 := Lib.hid (act_go (L := putF ⟨fn, fb.extract 0 k, k⟩ d.L) hr)
              have HL := Lib.hid (show d.stepped.L.length < maxLen by have := HOK.out.many; show d.L.length < _; unfold maxLen; omega)
              have HU := Lib.hid (usedF_put (f := ⟨fn, fb.extract 0 k, k⟩) HOK.out.rise hf)
              clear ho ho' hf hr hmm
              rw [E.out]
              go_enter Tryd.func99, Tryd.ntmps99
              go_wp2_with (first | (go_at_call 100; refine (find_hit H.out HO.out HN.out HF.out).mono ?_; rintro e w1 ⟨rfl, hB1⟩; have HB1 := Lib.hid hB1; have hz1 := hB1.size; clear hB1) | (go_at_call 97; refine (step_go ((H.out.below HB1.out).alloc _) HR.out HOK.out.left HS.out).mono ?_; rintro e w2 ⟨rfl, hd2, hk2⟩; have HD2 := Lib.hid hd2; have HK2 := Lib.hid hk2; have HX2 := Lib.hid ((Fx.new w1 (.string fn) (.string fb) (.int .i64 (fs : Int)) 117).kept hk2 (by omega) (by omega)); have x0 := HX2.out.c0; have x1 := HX2.out.c1; have x2 := HX2.out.c2; have g0 := HX2.out.f0; have g1 := HX2.out.f1; have g2 := HX2.out.f2; have c1 : w2.cell? ⟨b, 1, none⟩ = some (.int .i64 (usedF d.L : Int)) := hd2.c1; have c2 := hd2.c2; have e1 := hd2.f1; clear hd2 hk2) | fail)
              have q1 := IntWalk.i64_in ((fb.size : Int) - (k : Int)) (by omega)
              have q2 := IntWalk.i64_in ((usedF d.L : Int) - ((fb.size : Int) - (k : Int))) (by omega)
              go_still_tail 13, (by kernel_rfl)
              change wpList _ _ _ _ _ w2.drew
              clear q1 q2
              have HD3 := HD2.out.drew
              have HX3 := HX2.out.of_block (W' := w2.drew) rfl
              have HK3 := Lib.hid (HK2.out.drew)
              generalize w2.drew = W3 at *
              clear x0 x1 x2 g0 g1 g2 c1 c2 e1
              have x0 := HX3.c0
              have x1 := HX3.c1
              have x2 := HX3.c2
              have g0 := HX3.f0
              have g1 := HX3.f1
              have g2 := HX3.f2
              have c1 : W3.cell? ⟨b, 1, none⟩ = some (.int .i64 (usedF d.L : Int)) := HD3.c1
              have c2 := HD3.c2
              have e1 := HD3.f1
              have HD3 := Lib.hid HD3
              have HX3 := Lib.hid HX3
              go_wp2_with fail
              have HX3 := ((HX3.out.far (j := b) (o := 1) (u := .int .i64 ((usedF d.L : Int) - ((fb.size : Int) - (k : Int)))) (by omega)).set1 (.string (fb.extract 0 k))).set2 (.int .i64 (k : Int))
              have HD3 := ((HD3.out.set1 ((usedF d.L : Int) - ((fb.size : Int) - (k : Int)))).far (j := w1.heap.size) (by omega) (by omega) 1 (.string (fb.extract 0 k))).far (j := w1.heap.size) (by omega) (by omega) 2 (.int .i64 (k : Int))
              have HK3 := Lib.hid ((((((Kp.of_below HB1.out).alloc (.cells #[.string fn, .string fb, .int .i64 (fs : Int)] 117)).trans HK3.out).setCell 1 (.int .i64 ((usedF d.L : Int) - ((fb.size : Int) - (k : Int))))).setNew (j := w1.heap.size) (by omega) 1 (.string (fb.extract 0 k))).setNew (j := w1.heap.size) (by omega) 2 (.int .i64 (k : Int)))
              generalize (((W3.setCell ⟨b, 1, none⟩ (.int .i64 ((usedF d.L : Int) - ((fb.size : Int) - (k : Int))))).setCell ⟨w1.heap.size, 1, none⟩ (.string (fb.extract 0 k))).setCell ⟨w1.heap.size, 2, none⟩ (.int .i64 (k : Int))) = W6 at *
              clear x0 x1 x2 c2
              have c2 := HD3.c2
              have x0 := HX3.c0
              have x1 := HX3.c1
              have x2 := HX3.c2
              have HD3 := Lib.hid HD3
              have HX3 := Lib.hid HX3
              clear g0 g1 g2 c1 e1
              go_still_tail 6, (by kernel_rfl)
              change wpList _ _ _ _ _ W6.drew
              have HD4 := Lib.hid HD3.out.drew
              have HK4 := Lib.hid HK3.out.drew
              generalize W6.drew = W4 at *
              go_wp2_with (first | (at_mapUpdate; refine wpList_store_fl _ rfl _ _ _ 107 rfl 9 117 lawK Tryd.underlying107 m _ _ rfl HD4.out.own HL.out ⟨fn, fb.extract 0 k, k⟩ rfl rfl HKK.out ?_; intro w5 ho5 hg5; have HO5 := Lib.hid ho5; have HG5 := Lib.hid hg5; clear ho5 hg5) | fail)
              go_ret
              refine ⟨by rw [HR0.out]; rfl, DAt.act ?_ HR.out, HK4.out.map HG5.out⟩
              have h5 := HD4.out.map HG5.out HO5.out
              have hu : (usedF (putF ⟨fn, fb.extract 0 k, k⟩ d.L) : Int) = ((usedF d.L : Int) - ((fb.size : Int) - (k : Int))) := by have := HU.out; simp only [ByteArray.size_extract] at this; omega
              rw [hu]; exact h5
            · have hmm : min fs k = fs := Nat.min_eq_left (by omega)
              have E := Lib.hid (show d.cut fn k = d.act (putF ⟨fn, fb.extract 0 k, fs⟩ d.L) by simp [Dk.cut, ho', hf, hmm]; omega)
              have HR := Lib.hid hr
              have HR0 := Lib.hid (act_go (L := putF ⟨fn, fb.extract 0 k, fs⟩ d.L) hr)
              have HL := Lib.hid (show d.stepped.L.length < maxLen by have := HOK.out.many; show d.L.length < _; unfold maxLen; omega)
              have HU := Lib.hid (usedF_put (f := ⟨fn, fb.extract 0 k, fs⟩) HOK.out.rise hf)
              clear ho ho' hf hr hmm
              rw [E.out]
              go_enter Tryd.func99, Tryd.ntmps99
              go_wp2_with (first | (go_at_call 100; refine (find_hit H.out HO.out HN.out HF.out).mono ?_; rintro e w1 ⟨rfl, hB1⟩; have HB1 := Lib.hid hB1; have hz1 := hB1.size; clear hB1) | (go_at_call 97; refine (step_go ((H.out.below HB1.out).alloc _) HR.out HOK.out.left HS.out).mono ?_; rintro e w2 ⟨rfl, hd2, hk2⟩; have HD2 := Lib.hid hd2; have HK2 := Lib.hid hk2; have HX2 := Lib.hid ((Fx.new w1 (.string fn) (.string fb) (.int .i64 (fs : Int)) 117).kept hk2 (by omega) (by omega)); have x0 := HX2.out.c0; have x1 := HX2.out.c1; have x2 := HX2.out.c2; have g0 := HX2.out.f0; have g1 := HX2.out.f1; have g2 := HX2.out.f2; have c1 : w2.cell? ⟨b, 1, none⟩ = some (.int .i64 (usedF d.L : Int)) := hd2.c1; have c2 := hd2.c2; have e1 := hd2.f1; clear hd2 hk2) | fail)
              have q1 := IntWalk.i64_in ((fb.size : Int) - (k : Int)) (by omega)
              have q2 := IntWalk.i64_in ((usedF d.L : Int) - ((fb.size : Int) - (k : Int))) (by omega)
              go_still_tail 13, (by kernel_rfl)
              change wpList _ _ _ _ _ w2.drew
              clear q1 q2
              have HD3 := HD2.out.drew
              have HX3 := HX2.out.of_block (W' := w2.drew) rfl
              have HK3 := Lib.hid (HK2.out.drew)
              generalize w2.drew = W3 at *
              clear x0 x1 x2 g0 g1 g2 c1 c2 e1
              have x0 := HX3.c0
              have x1 := HX3.c1
              have x2 := HX3.c2
              have g0 := HX3.f0
              have g1 := HX3.f1
              have g2 := HX3.f2
              have c1 : W3.cell? ⟨b, 1, none⟩ = some (.int .i64 (usedF d.L : Int)) := HD3.c1
              have c2 := HD3.c2
              have e1 := HD3.f1
              have HD3 := Lib.hid HD3
              have HX3 := Lib.hid HX3
              go_wp2_with fail
              have HX3 := ((HX3.out.far (j := b) (o := 1) (u := .int .i64 ((usedF d.L : Int) - ((fb.size : Int) - (k : Int)))) (by omega)).set1 (.string (fb.extract 0 k))).set2 (.int .i64 (fs : Int))
              have HD3 := ((HD3.out.set1 ((usedF d.L : Int) - ((fb.size : Int) - (k : Int)))).far (j := w1.heap.size) (by omega) (by omega) 1 (.string (fb.extract 0 k))).far (j := w1.heap.size) (by omega) (by omega) 2 (.int .i64 (fs : Int))
              have HK3 := Lib.hid ((((((Kp.of_below HB1.out).alloc (.cells #[.string fn, .string fb, .int .i64 (fs : Int)] 117)).trans HK3.out).setCell 1 (.int .i64 ((usedF d.L : Int) - ((fb.size : Int) - (k : Int))))).setNew (j := w1.heap.size) (by omega) 1 (.string (fb.extract 0 k))).setNew (j := w1.heap.size) (by omega) 2 (.int .i64 (fs : Int)))
              generalize (((W3.setCell ⟨b, 1, none⟩ (.int .i64 ((usedF d.L : Int) - ((fb.size : Int) - (k : Int))))).setCell ⟨w1.heap.size, 1, none⟩ (.string (fb.extract 0 k))).setCell ⟨w1.heap.size, 2, none⟩ (.int .i64 (fs : Int))) = W6 at *
              clear x0 x1 x2 c2
              have c2 := HD3.c2
              have x0 := HX3.c0
              have x1 := HX3.c1
              have x2 := HX3.c2
              have HD3 := Lib.hid HD3
              have HX3 := Lib.hid HX3
              clear g0 g1 g2 c1 e1
              go_still_tail 6, (by kernel_rfl)
              change wpList _ _ _ _ _ W6.drew
              have HD4 := Lib.hid HD3.out.drew
              have HK4 := Lib.hid HK3.out.drew
              generalize W6.drew = W4 at *
              go_wp2_with (first | (at_mapUpdate; refine wpList_store_fl _ rfl _ _ _ 107 rfl 9 117 lawK Tryd.underlying107 m _ _ rfl HD4.out.own HL.out ⟨fn, fb.extract 0 k, fs⟩ rfl rfl HKK.out ?_; intro w5 ho5 hg5; have HO5 := Lib.hid ho5; have HG5 := Lib.hid hg5; clear ho5 hg5) | fail)
              go_ret
              refine ⟨by rw [HR0.out]; rfl, DAt.act ?_ HR.out, HK4.out.map HG5.out⟩
              have h5 := HD4.out.map HG5.out HO5.out
              have hu : (usedF (putF ⟨fn, fb.extract 0 k, fs⟩ d.L) : Int) = ((usedF d.L : Int) - ((fb.size : Int) - (k : Int))) := by have := HU.out; simp only [ByteArray.size_extract] at this; omega
              rw [hu]; exact h5
end Go.Proofs.YtnpgjlhnlakgpaaDoor
namespace Go.Proofs.YtnpgjlhnlakgpaaDoor
open Go.RowKit Go.Maps

set_option maxHeartbeats 1000000 in
theorem new_ok (r : Nat) (w : World) (h : r ≤ 4194304) : Calls Tryd.prog 35 #[.int .i64 (r : Int)] w fun e w' => e = .returned (.tuple #[.pointer (some ⟨w.heap.size + 1, 0, none⟩), .int .i64 0]) ∧ DAt w' (w.heap.size + 1) w.heap.size (Dk.new r) ∧ Below w.heap.size w w' ∧ w.heap.size + 1 < w'.heap.size := by
  have hmm := @run_makeMap Tryd.prog
  go_enter Tryd.func35, Tryd.ntmps35
  go_wp2_with fail
  go_ret2
  refine ⟨rfl, ?_, ?_, ?_⟩
  · have hown : (w.alloc (.map #[] 0)).ownsMap Tryd.prog 9 flElem w.heap.size 0 (.map []) := World.ownsMap_made _ _ _ _
    have hz : (w.alloc (.map #[] 0)).heap.size = w.heap.size + 1 := by simp
    have hc : ∀ o, ((w.alloc (.map #[] 0)).alloc (.cells #[.int .i64 (r : Int), .int .i64 0, .map (some w.heap.size), .bool false, .bool false, .int .i64 0, .int .i64 0] 109)).cell? ⟨w.heap.size + 1, o, none⟩ = (#[.int .i64 (r : Int), .int .i64 0, .map (some w.heap.size), .bool false, .bool false, .int .i64 0, .int .i64 0] : Array Value)[o]? := fun o => by
      rw [← hz]; exact World.cell?_alloc_new _ _ _ _
    have hf : ∀ o, ((w.alloc (.map #[] 0)).alloc (.cells #[.int .i64 (r : Int), .int .i64 0, .map (some w.heap.size), .bool false, .bool false, .int .i64 0, .int .i64 0] 109)).frozen? ⟨w.heap.size + 1, o, none⟩ = false := fun o => by
      rw [← hz]; exact World.frozen?_alloc_new ..
    refine ⟨by rw [hc]; rfl, by rw [hc]; rfl, by rw [hc]; rfl, by rw [hc]; rfl, by rw [hc]; rfl, by rw [hc]; rfl, by rw [hc]; rfl, hf 1, hf 3, hf 4, hf 5, hf 6, by omega, ?_⟩
    exact hown.alloc _
  · exact ((Below.refl _ _).alloc (Nat.le_refl _) _).alloc (by simp) _
  · simp
end Go.Proofs.YtnpgjlhnlakgpaaDoor
namespace Go.Proofs.YtnpgjlhnlakgpaaDoor
open Go.RowKit Go.Maps

set_option maxHeartbeats 1000000 in
theorem arm_any {d : Dk} {w : World} {b m : Nat} (h : DAt w b m d) (n : Int) :
    Calls Tryd.prog 46 #[.pointer (some ⟨b, 0, none⟩), .int .i64 n] w fun e w' => e = .returned (.tuple #[]) ∧ DAt w' b m (d.arm n) ∧ Kp b m w w' := by
  have c3 := h.c3
  have c4 := h.c4
  have c5 := h.c5
  have f4 := h.f4
  have f5 := h.f5
  have H := Lib.hid h
  clear h
  by_cases ho : d.off = true
  · have E := Lib.hid (show d.arm n = d by simp [Dk.arm, ho])
    rw [ho] at c3
    clear ho
    rw [E.out]
    go_enter Tryd.func46, Tryd.ntmps46
    go_wp2_with fail
    go_end0
    refine ⟨rfl, H.out, Kp.refl _ _ _⟩
  · have ho' : d.off = false := by simpa using ho
    rw [ho'] at c3
    by_cases hn : 0 ≤ n
    · obtain ⟨k, rfl⟩ : ∃ k : Nat, n = (k : Int) := ⟨n.toNat, by omega⟩
      have E := Lib.hid (show d.arm k = { d with armed := true, left := k } by simp [Dk.arm, ho'])
      clear ho ho' hn
      rw [E.out]
      go_enter Tryd.func46, Tryd.ntmps46
      go_wp2_with fail
      go_end0
      refine ⟨rfl, ?_, ((Kp.refl _ _ _).setCell 4 _).setCell 5 _⟩
      exact (H.out.set4 true).set5 (k : Int)
    · have E := Lib.hid (show d.arm n = { d with armed := decide (0 ≤ n), left := 0 } by simp [Dk.arm, ho']; omega)
      have hn' : n < 0 := by omega
      clear ho ho' hn
      rw [E.out]
      go_enter Tryd.func46, Tryd.ntmps46
      go_wp2_with fail
      go_end0
      refine ⟨rfl, ?_, ((Kp.refl _ _ _).setCell 4 _).setCell 5 _⟩
      exact (H.out.set4 (decide (0 ≤ n))).set5 0
end Go.Proofs.YtnpgjlhnlakgpaaDoor

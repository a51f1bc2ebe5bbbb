/- The contract of the disk's Read. The contract of the disk's Append. The contract of the disk's Remove. The contract of New (a disk of a room that may be). *copy of XVfsSmall's*. -/
import Derived.Test.YtnpgjlhnlakgpaaGreatDoorG04
namespace Go.Proofs.YtnpgjlhnlakgpaaGreatDoor
open Go.RowKit Go.Maps

set_option maxHeartbeats 1000000 in
theorem read_any {d : Dk} {w : World} {b m : Nat} (h : DAt w b m d) {nm : ByteArray} (hn : nm.size ≤ maxLen) :
    Calls Tryz.prog 72 #[.pointer (some ⟨b, 0, none⟩), .string nm] w fun e w' => e = .returned (.tuple #[.string (d.read nm).1, .int .i64 (d.read nm).2]) ∧ Below w.heap.size w w' := by
  have H := Lib.hid h
  have HN := Lib.hid hn
  clear h hn
  by_cases ho : d.off = true
  · have E := Lib.hid (show d.read nm = (⟨#[]⟩, 143) by simp [Dk.read, ho]; rfl)
    have HO := Lib.hid ho
    clear ho
    rw [E.out]
    go_enter Tryz.func72, Tryz.ntmps72
    go_wp2_with (first | (go_at_call 67; refine (find_off H.out HO.out nm).mono ?_; rintro e w1 ⟨rfl, hB1⟩; have HB1 := Lib.hid hB1; clear hB1) | fail)
    go_ret2
    exact ⟨rfl, HB1.out.alloc HB1.out.size _⟩
  · have ho' : d.off = false := by simpa using ho
    have HO := Lib.hid ho'
    cases hf : findF nm.data.toList d.L with
    | none =>
      have E := Lib.hid (show d.read nm = (⟨#[]⟩, 140) by simp [Dk.read, ho', hf]; rfl)
      have HF := Lib.hid hf
      clear ho ho' hf
      rw [E.out]
      go_enter Tryz.func72, Tryz.ntmps72
      go_wp2_with (first | (go_at_call 67; refine (find_miss H.out HO.out HN.out HF.out).mono ?_; rintro e w1 ⟨rfl, hB1⟩; have HB1 := Lib.hid hB1; clear hB1) | fail)
      go_ret2
      exact ⟨rfl, HB1.out.alloc HB1.out.size _⟩
    | some f =>
      have E := Lib.hid (show d.read nm = (f.bytes, 0) by simp [Dk.read, ho', hf])
      have HF := Lib.hid hf
      clear ho ho' hf
      rw [E.out]
      go_enter Tryz.func72, Tryz.ntmps72
      go_wp2_with (first | (go_at_call 67; refine (find_hit H.out HO.out HN.out HF.out).mono ?_; rintro e w1 ⟨rfl, hB1⟩; have HB1 := Lib.hid hB1; clear hB1) | fail)
      go_ret2
      exact ⟨rfl, HB1.out.alloc HB1.out.size _⟩
end Go.Proofs.YtnpgjlhnlakgpaaGreatDoor
namespace Go.Proofs.YtnpgjlhnlakgpaaGreatDoor
open Go.RowKit Go.Maps

set_option maxRecDepth 100000 in
set_option maxHeartbeats 4000000 in
theorem append_any {d : Dk} {w : World} {b m : Nat} (h : DAt w b m d) (hok : d.Ok) (hs : d.steps < 4611686018427387904) {nm : ByteArray} (hn : nm.size ≤ maxLen) {data : ByteArray} (hd : data.size ≤ maxLen) :
    Calls Tryz.prog 30 #[.pointer (some ⟨b, 0, none⟩), .string nm, .string data] w fun e w' => e = .returned (.int .i64 (d.append nm data).1) ∧ DAt w' b m (d.append nm data).2 ∧ Kp b m w w' := by
  have H := Lib.hid h
  have HN := Lib.hid hn
  have HKK := Lib.hid (hkeyS hn)
  have HOK := Lib.hid hok
  have HS := Lib.hid hs
  have hbw := h.lt
  have hmw := h.ltm
  have hbm := h.ne
  have hrm := hok.room
  have hus := hok.used
  clear hok hs h hn
  by_cases ho : d.off = true
  · have E := Lib.hid (show d.append nm data = (143, d) by simp [Dk.append, ho])
    have HO := Lib.hid ho
    clear ho
    rw [E.out]
    go_enter Tryz.func30, Tryz.ntmps30
    go_wp2_with (first | (go_at_call 67; refine (find_off H.out HO.out nm).mono ?_; rintro e w1 ⟨rfl, hB1⟩; have HB1 := Lib.hid hB1; clear hB1) | fail)
    go_ret
    exact ⟨rfl, (H.out.below HB1.out).alloc _, (Kp.of_below HB1.out).alloc _⟩
  · have ho' : d.off = false := by simpa using ho
    have HO := Lib.hid ho'
    cases hf : findF nm.data.toList d.L with
    | none =>
      have E := Lib.hid (show d.append nm data = (140, d) by simp [Dk.append, ho', hf])
      have HF := Lib.hid hf
      clear ho ho' hf
      rw [E.out]
      go_enter Tryz.func30, Tryz.ntmps30
      go_wp2_with (first | (go_at_call 67; refine (find_miss H.out HO.out HN.out HF.out).mono ?_; rintro e w1 ⟨rfl, hB1⟩; have HB1 := Lib.hid hB1; clear hB1) | fail)
      go_ret
      exact ⟨rfl, (H.out.below HB1.out).alloc _, (Kp.of_below HB1.out).alloc _⟩
    | some f =>
      have HF := Lib.hid hf
      have hk : f.name = nm := ba_of_list (findF_key hf)
      have hfu := mem_used (findF_mem hf)
      have hfs := HOK.out.safe f (findF_mem hf)
      obtain ⟨fn, fb, fs⟩ := f
      simp only at hk hfu hfs
      subst hk
      unfold maxLen at hd
      by_cases hroom : d.room - usedF d.L < data.size
      · have E := Lib.hid (show d.append fn data = (142, d) by simp [Dk.append, ho', hf, hroom])
        clear ho ho' hf
        rw [E.out]
        go_enter Tryz.func30, Tryz.ntmps30
        go_wp2_with (first | (go_at_call 67; refine (find_hit H.out HO.out HN.out HF.out).mono ?_; rintro e w1 ⟨rfl, hB1⟩; have HB1 := Lib.hid hB1; have hz1 := hB1.size; clear hB1) | fail)
        have HX1 := Lib.hid (Fx.new w1 (.string fn) (.string fb) (.int .i64 (fs : Int)) 78)
        have HD1 := Lib.hid ((H.out.below HB1.out).alloc (.cells #[.string fn, .string fb, .int .i64 (fs : Int)] 78))
        have HK1 := Lib.hid ((Kp.of_below (b := b) (m := m) HB1.out).alloc (.cells #[.string fn, .string fb, .int .i64 (fs : Int)] 78))
        generalize w1.alloc (.cells #[.string fn, .string fb, .int .i64 (fs : Int)] 78) = W1 at *
        have c0 := HD1.out.c0
        have c1 := HD1.out.c1
        have q1 := IntWalk.i64_in ((d.room : Int) - (usedF d.L : Int)) (by omega)
        have q2 : decide ((d.room : Int) - (usedF d.L : Int) < (data.size : Int)) = true := by simp; omega
        go_quiet (fail)
        clear q1 c0 c1
        go_wp2_with fail
        go_ret
        exact ⟨rfl, HD1.out.drewN, HK1.out.drewN⟩
      · cases hr : d.refuses with
        | true =>
          have E := Lib.hid (show d.append fn data = (143, d.gone) by simp [Dk.append, ho', hf, hroom, act_no hr])
          have HR := Lib.hid hr
          clear ho ho' hf hr
          rw [E.out]
          go_enter Tryz.func30, Tryz.ntmps30
          go_wp2_with (first | (go_at_call 67; refine (find_hit H.out HO.out HN.out HF.out).mono ?_; rintro e w1 ⟨rfl, hB1⟩; have HB1 := Lib.hid hB1; have hz1 := hB1.size; clear hB1) | fail)
          have HX1 := Lib.hid (Fx.new w1 (.string fn) (.string fb) (.int .i64 (fs : Int)) 78)
          have HD1 := Lib.hid ((H.out.below HB1.out).alloc (.cells #[.string fn, .string fb, .int .i64 (fs : Int)] 78))
          have HK1 := Lib.hid ((Kp.of_below (b := b) (m := m) HB1.out).alloc (.cells #[.string fn, .string fb, .int .i64 (fs : Int)] 78))
          generalize w1.alloc (.cells #[.string fn, .string fb, .int .i64 (fs : Int)] 78) = W1 at *
          have c0 := HD1.out.c0
          have c1 := HD1.out.c1
          have q1 := IntWalk.i64_in ((d.room : Int) - (usedF d.L : Int)) (by omega)
          have q2 : decide ((d.room : Int) - (usedF d.L : Int) < (data.size : Int)) = false := by simp; omega
          go_quiet (fail)
          clear q1 c0 c1
          go_wp2_with (first | (go_at_call 63; refine (step_no HD1.out.drewN HR.out).mono ?_; rintro e w2 ⟨rfl, hd2, hk2⟩; have HD2 := Lib.hid hd2; have HK2 := Lib.hid hk2; clear hd2 hk2) | fail)
          go_ret
          exact ⟨rfl, HD2.out, HK1.out.drewN.trans HK2.out⟩
        | false =>
          have E := Lib.hid (show d.append fn data = d.act (putF ⟨fn, fb ++ data, fs⟩ d.L) by simp [Dk.append, ho', hf, hroom])
          have HR := Lib.hid hr
          have HR0 := Lib.hid (act_go (L := putF ⟨fn, fb ++ data, fs⟩ d.L) hr)
          have HL := Lib.hid (show d.stepped.L.length < maxLen by have := HOK.out.many; show d.L.length < _; unfold maxLen; omega)
          have HU := Lib.hid (usedF_put (f := ⟨fn, fb ++ data, fs⟩) HOK.out.rise hf)
          clear ho ho' hf hr
          rw [E.out]
          go_enter Tryz.func30, Tryz.ntmps30
          go_wp2_with (first | (go_at_call 67; refine (find_hit H.out HO.out HN.out HF.out).mono ?_; rintro e w1 ⟨rfl, hB1⟩; have HB1 := Lib.hid hB1; have hz1 := hB1.size; clear hB1) | fail)
          have HX1 := Lib.hid (Fx.new w1 (.string fn) (.string fb) (.int .i64 (fs : Int)) 78)
          have HD1 := Lib.hid ((H.out.below HB1.out).alloc (.cells #[.string fn, .string fb, .int .i64 (fs : Int)] 78))
          have HK1 := Lib.hid ((Kp.of_below (b := b) (m := m) HB1.out).alloc (.cells #[.string fn, .string fb, .int .i64 (fs : Int)] 78))
          generalize w1.alloc (.cells #[.string fn, .string fb, .int .i64 (fs : Int)] 78) = W1 at *
          have c0 := HD1.out.c0
          have c1 := HD1.out.c1
          have q1 := IntWalk.i64_in ((d.room : Int) - (usedF d.L : Int)) (by omega)
          have q2 : decide ((d.room : Int) - (usedF d.L : Int) < (data.size : Int)) = false := by simp; omega
          go_quiet (fail)
          clear q1 c0 c1
          go_wp2_with (first | (go_at_call 63; refine (step_go HD1.out.drewN HR.out HOK.out.left HS.out).mono ?_; rintro e w2 ⟨rfl, hd2, hk2⟩; have HD2 := Lib.hid hd2; have HK2 := Lib.hid hk2; have HX2 := Lib.hid (HX1.out.drewN.kept hk2 (by omega) (by omega)); have x0 := HX2.out.c0; have x1 := HX2.out.c1; have x2 := HX2.out.c2; have g0 := HX2.out.f0; have g1 := HX2.out.f1; have g2 := HX2.out.f2; have c1 : w2.cell? ⟨b, 1, none⟩ = some (.int .i64 (usedF d.L : Int)) := hd2.c1; have c2 := hd2.c2; have e1 := hd2.f1; clear hd2 hk2) | fail)
          have HX3 := (HX2.out.set1 (.string (fb ++ data))).far (j := b) (o := 1) (u := .int .i64 ((usedF d.L : Int) + (data.size : Int))) (by omega)
          have HD3 := (HD2.out.far (j := w1.heap.size) (by omega) (by omega) 1 (.string (fb ++ data))).set1 ((usedF d.L : Int) + (data.size : Int))
          have HK3 := Lib.hid (((HK1.out.drewN.trans HK2.out).setNew (j := w1.heap.size) (by omega) 1 (.string (fb ++ data))).setCell 1 (.int .i64 ((usedF d.L : Int) + (data.size : Int))))
          generalize ((w2.setCell ⟨w1.heap.size, 1, none⟩ (.string (fb ++ data))).setCell ⟨b, 1, none⟩ (.int .i64 ((usedF d.L : Int) + (data.size : Int)))) = W3 at *
          have c2 := HD3.c2
          have x0 := HX3.c0
          have x1 := HX3.c1
          have x2 := HX3.c2
          have HD3 := Lib.hid HD3
          have HX3 := Lib.hid HX3
          clear g0 g1 g2 c1 e1
          go_still_tail 6, (by kernel_rfl)
          change wpList _ _ _ _ _ W3.drew
          have HD4 := Lib.hid HD3.out.drew
          have HK4 := Lib.hid HK3.out.drew
          generalize W3.drew = W4 at *
          go_wp2_with (first | (at_mapUpdate; refine wpList_store_fl _ rfl _ _ _ 50 rfl 9 78 lawK Tryz.underlying50 m _ _ rfl HD4.out.own HL.out ⟨fn, fb ++ data, fs⟩ rfl rfl HKK.out ?_; intro w5 ho5 hg5; have HO5 := Lib.hid ho5; have HG5 := Lib.hid hg5; clear ho5 hg5) | fail)
          go_ret
          refine ⟨by rw [HR0.out]; rfl, DAt.act ?_ HR.out, HK4.out.map HG5.out⟩
          have h5 := HD4.out.map HG5.out HO5.out
          have hu : (usedF (putF ⟨fn, fb ++ data, fs⟩ d.L) : Int) = (usedF d.L : Int) + (data.size : Int) := by have := HU.out; simp only [ByteArray.size_append] at this; omega
          rw [hu]; exact h5
end Go.Proofs.YtnpgjlhnlakgpaaGreatDoor
namespace Go.Proofs.YtnpgjlhnlakgpaaGreatDoor
open Go.RowKit Go.Maps

set_option maxRecDepth 100000 in
set_option maxHeartbeats 4000000 in
theorem remove_any {d : Dk} {w : World} {b m : Nat} (h : DAt w b m d) (hok : d.Ok) (hs : d.steps < 4611686018427387904) {nm : ByteArray} (hn : nm.size ≤ maxLen) :
    Calls Tryz.prog 70 #[.pointer (some ⟨b, 0, none⟩), .string nm] w fun e w' => e = .returned (.int .i64 (d.remove nm).1) ∧ DAt w' b m (d.remove nm).2 ∧ Kp b m w w' := by
  have H := Lib.hid h
  have HN := Lib.hid hn
  have HKK := Lib.hid (hkeyS hn)
  have HOK := Lib.hid hok
  have HS := Lib.hid hs
  have hbw := h.lt
  have hmw := h.ltm
  have hbm := h.ne
  have hrm := hok.room
  have hus := hok.used
  clear hok hs h hn
  by_cases ho : d.off = true
  · have E := Lib.hid (show d.remove nm = (143, d) by simp [Dk.remove, ho])
    have HO := Lib.hid ho
    clear ho
    rw [E.out]
    go_enter Tryz.func70, Tryz.ntmps70
    go_wp2_with (first | (go_at_call 67; refine (find_off H.out HO.out nm).mono ?_; rintro e w1 ⟨rfl, hB1⟩; have HB1 := Lib.hid hB1; clear hB1) | fail)
    go_ret
    exact ⟨rfl, (H.out.below HB1.out).alloc _, (Kp.of_below HB1.out).alloc _⟩
  · have ho' : d.off = false := by simpa using ho
    have HO := Lib.hid ho'
    cases hf : findF nm.data.toList d.L with
    | none =>
      have E := Lib.hid (show d.remove nm = (140, d) by simp [Dk.remove, ho', hf])
      have HF := Lib.hid hf
      clear ho ho' hf
      rw [E.out]
      go_enter Tryz.func70, Tryz.ntmps70
      go_wp2_with (first | (go_at_call 67; refine (find_miss H.out HO.out HN.out HF.out).mono ?_; rintro e w1 ⟨rfl, hB1⟩; have HB1 := Lib.hid hB1; clear hB1) | fail)
      go_ret
      exact ⟨rfl, (H.out.below HB1.out).alloc _, (Kp.of_below HB1.out).alloc _⟩
    | some f =>
      have HF := Lib.hid hf
      have hk : f.name = nm := ba_of_list (findF_key hf)
      have hfu := mem_used (findF_mem hf)
      have hfs := HOK.out.safe f (findF_mem hf)
      obtain ⟨fn, fb, fs⟩ := f
      simp only at hk hfu hfs
      subst hk
      cases hr : d.refuses with
      | true =>
        have E := Lib.hid (show d.remove fn = (143, d.gone) by simp [Dk.remove, ho', hf, act_no hr])
        have HR := Lib.hid hr
        clear ho ho' hf hr
        rw [E.out]
        go_enter Tryz.func70, Tryz.ntmps70
        go_wp2_with (first | (go_at_call 67; refine (find_hit H.out HO.out HN.out HF.out).mono ?_; rintro e w1 ⟨rfl, hB1⟩; have HB1 := Lib.hid hB1; have hz1 := hB1.size; clear hB1) | (go_at_call 63; refine (step_no ((H.out.below HB1.out).alloc _) HR.out).mono ?_; rintro e w2 ⟨rfl, hd2, hk2⟩; have HD2 := Lib.hid hd2; have HK2 := Lib.hid hk2; clear hd2 hk2) | fail)
        go_ret
        exact ⟨rfl, HD2.out, ((Kp.of_below HB1.out).alloc _).trans HK2.out⟩
      | false =>
        have E := Lib.hid (show d.remove fn = d.act (delF fn.data.toList d.L) by simp [Dk.remove, ho', hf])
        have HR := Lib.hid hr
        have HR0 := Lib.hid (act_go (L := delF fn.data.toList d.L) hr)
        have HU := Lib.hid (usedF_del HOK.out.rise hf)
        clear ho ho' hf hr
        rw [E.out]
        go_enter Tryz.func70, Tryz.ntmps70
        go_wp2_with (first | (go_at_call 67; refine (find_hit H.out HO.out HN.out HF.out).mono ?_; rintro e w1 ⟨rfl, hB1⟩; have HB1 := Lib.hid hB1; have hz1 := hB1.size; clear hB1) | (go_at_call 63; refine (step_go ((H.out.below HB1.out).alloc _) HR.out HOK.out.left HS.out).mono ?_; rintro e w2 ⟨rfl, hd2, hk2⟩; have HD2 := Lib.hid hd2; have HK2 := Lib.hid hk2; have HX2 := Lib.hid ((Fx.new w1 (.string fn) (.string fb) (.int .i64 (fs : Int)) 78).kept hk2 (by omega) (by omega)); have x0 := HX2.out.c0; have x1 := HX2.out.c1; have x2 := HX2.out.c2; have g0 := HX2.out.f0; have g1 := HX2.out.f1; have g2 := HX2.out.f2; have c1 : w2.cell? ⟨b, 1, none⟩ = some (.int .i64 (usedF d.L : Int)) := hd2.c1; have c2 := hd2.c2; have e1 := hd2.f1; clear hd2 hk2) | fail)
        have q1 := IntWalk.i64_in ((usedF d.L : Int) - (fb.size : Int)) (by omega)
        go_still_tail 11, (by kernel_rfl)
        change wpList _ _ _ _ _ w2.drew
        have HD3 := HD2.out.drew
        have HX3 := HX2.out.of_block (W' := w2.drew) rfl
        have HK3 := Lib.hid (HK2.out.drew)
        generalize w2.drew = W3 at *
        clear x0 x1 x2 g0 g1 g2 c1 c2 e1
        have x0 := HX3.c0
        have x1 := HX3.c1
        have x2 := HX3.c2
        have g0 := HX3.f0
        have g1 := HX3.f1
        have g2 := HX3.f2
        have c1 : W3.cell? ⟨b, 1, none⟩ = some (.int .i64 (usedF d.L : Int)) := HD3.c1
        have c2 := HD3.c2
        have e1 := HD3.f1
        have HD3 := Lib.hid HD3
        have HX3 := Lib.hid HX3
        go_wp2_with (first | (at_delete; refine wpList_delete_fl _ rfl _ _ 50 9 rfl 78 lawK Tryz.underlying50 m _ d.L rfl (HD3.out.set1 ((usedF d.L : Int) - (fb.size : Int))).own _ _ rfl HKK.out ?_; intro w5 ho5 hg5; have HO5 := Lib.hid ho5; have HG5 := Lib.hid hg5; clear ho5 hg5) | fail)
        go_ret
        refine ⟨by rw [HR0.out]; rfl, DAt.act ?_ HR.out, (((((Kp.of_below HB1.out).alloc _).trans HK3.out).setCell 1 _).map HG5.out)⟩
        have h5 := (HD3.out.set1 ((usedF d.L : Int) - (fb.size : Int))).map HG5.out HO5.out
        have hu : (usedF (delF fn.data.toList d.L) : Int) = (usedF d.L : Int) - (fb.size : Int) := by have := HU.out; (try simp only at this); omega
        rw [hu]; exact h5
end Go.Proofs.YtnpgjlhnlakgpaaGreatDoor
namespace Go.Proofs.YtnpgjlhnlakgpaaGreatDoor
open Go.RowKit Go.Maps

set_option maxHeartbeats 1000000 in
theorem new_ok (r : Nat) (w : World) (h : r ≤ 4194304) : Calls Tryz.prog 4 #[.int .i64 (r : Int)] w fun e w' => e = .returned (.tuple #[.pointer (some ⟨w.heap.size + 1, 0, none⟩), .int .i64 0]) ∧ DAt w' (w.heap.size + 1) w.heap.size (Dk.new r) ∧ Below w.heap.size w w' ∧ w.heap.size + 1 < w'.heap.size := by
  have hmm := @run_makeMap Tryz.prog
  go_enter Tryz.func4, Tryz.ntmps4
  go_wp2_with fail
  go_ret2
  refine ⟨rfl, ?_, ?_, ?_⟩
  · have hown : (w.alloc (.map #[] 0)).ownsMap Tryz.prog 9 flElem w.heap.size 0 (.map []) := World.ownsMap_made _ _ _ _
    have hz : (w.alloc (.map #[] 0)).heap.size = w.heap.size + 1 := by simp
    have hc : ∀ o, ((w.alloc (.map #[] 0)).alloc (.cells #[.int .i64 (r : Int), .int .i64 0, .map (some w.heap.size), .bool false, .bool false, .int .i64 0, .int .i64 0] 52)).cell? ⟨w.heap.size + 1, o, none⟩ = (#[.int .i64 (r : Int), .int .i64 0, .map (some w.heap.size), .bool false, .bool false, .int .i64 0, .int .i64 0] : Array Value)[o]? := fun o => by
      rw [← hz]; exact World.cell?_alloc_new _ _ _ _
    have hf : ∀ o, ((w.alloc (.map #[] 0)).alloc (.cells #[.int .i64 (r : Int), .int .i64 0, .map (some w.heap.size), .bool false, .bool false, .int .i64 0, .int .i64 0] 52)).frozen? ⟨w.heap.size + 1, o, none⟩ = false := fun o => by
      rw [← hz]; exact World.frozen?_alloc_new ..
    refine ⟨by rw [hc]; rfl, by rw [hc]; rfl, by rw [hc]; rfl, by rw [hc]; rfl, by rw [hc]; rfl, by rw [hc]; rfl, by rw [hc]; rfl, hf 1, hf 3, hf 4, hf 5, hf 6, by omega, ?_⟩
    exact hown.alloc _
  · exact ((Below.refl _ _).alloc (Nat.le_refl _) _).alloc (by simp) _
  · simp
end Go.Proofs.YtnpgjlhnlakgpaaGreatDoor

/- A file's block of three cells through calls and stores; a disk behind draws. The contract of the disk's Sync. The contract of the disk's Cut. The contract of the disk's Arm. The contract of New (a room that may not be). -/
import Derived.Test.YtnpgjlhnlakgpaaGreatDoorG03
import Derived.BigQuiet
import Derived.Deep.QuietTactic
import Derived.StillTailTactics
namespace Go.Proofs.YtnpgjlhnlakgpaaGreatDoor
open Go.RowKit Go.Maps

/-- A block of three cells that can be written. -/
structure Fx (W : World) (n : Nat) (x y z : Value) : Prop where
  c0 : W.cell? ⟨n, 0, none⟩ = some x
  c1 : W.cell? ⟨n, 1, none⟩ = some y
  c2 : W.cell? ⟨n, 2, none⟩ = some z
  f0 : W.frozen? ⟨n, 0, none⟩ = false
  f1 : W.frozen? ⟨n, 1, none⟩ = false
  f2 : W.frozen? ⟨n, 2, none⟩ = false
theorem Fx.lt {W : World} {n : Nat} {x y z : Value} (h : Fx W n x y z) : n < W.heap.size := World.block_lt_of_cell? W _ h.c0
theorem Fx.of_block {W W' : World} {n : Nat} {x y z : Value} (h : Fx W n x y z) (hb : W'.heap[n]? = W.heap[n]?) : Fx W' n x y z := by
  have hc : ∀ o, W'.cell? ⟨n, o, none⟩ = W.cell? ⟨n, o, none⟩ := fun o => World.cell?_of_block (w := W) hb
  have hf : ∀ o, W'.frozen? ⟨n, o, none⟩ = W.frozen? ⟨n, o, none⟩ := fun o => World.frozen?_of_block (w := W) hb
  exact ⟨by rw [hc]; exact h.c0, by rw [hc]; exact h.c1, by rw [hc]; exact h.c2, by rw [hf]; exact h.f0, by rw [hf]; exact h.f1, by rw [hf]; exact h.f2⟩
theorem Fx.below {W W' : World} {n : Nat} {x y z : Value} (h : Fx W n x y z) (hb : Below W.heap.size W W') : Fx W' n x y z := h.of_block (hb.block n h.lt)
theorem Fx.kept {W W' : World} {n b m : Nat} {x y z : Value} (h : Fx W n x y z) (hk : Kp b m W W') (h1 : n ≠ b) (h2 : n ≠ m) : Fx W' n x y z := h.of_block (hk.block n h.lt h1 h2)
theorem Fx.new (W : World) (x y z : Value) (t : TypeId) : Fx (W.alloc (.cells #[x, y, z] t)) W.heap.size x y z := by
  refine ⟨?_, ?_, ?_, ?_, ?_, ?_⟩
  · rw [World.cell?_alloc_new]; rfl
  · rw [World.cell?_alloc_new]; rfl
  · rw [World.cell?_alloc_new]; rfl
  · exact World.frozen?_alloc_new ..
  · exact World.frozen?_alloc_new ..
  · exact World.frozen?_alloc_new ..
theorem Fx.drewN {W : World} {n k : Nat} {x y z : Value} (h : Fx W n x y z) : Fx (W.drewN k) n x y z := h.of_block rfl
theorem Fx.far {W : World} {n j o : Nat} {x y z u : Value} (h : Fx W n x y z) (hj : n ≠ j) : Fx (W.setCell ⟨j, o, none⟩ u) n x y z := h.of_block (Below.heap_setCell _ _ _ _ hj)
theorem Fx.set0 {W : World} {n : Nat} {x y z : Value} (h : Fx W n x y z) (u : Value) : Fx (W.setCell ⟨n, 0, none⟩ u) n u y z :=
  ⟨sets h.c0, setc (by decide) h.c1, setc (by decide) h.c2, setf h.f0, setf h.f1, setf h.f2⟩
theorem Fx.set1 {W : World} {n : Nat} {x y z : Value} (h : Fx W n x y z) (u : Value) : Fx (W.setCell ⟨n, 1, none⟩ u) n x u z :=
  ⟨setc (by decide) h.c0, sets h.c1, setc (by decide) h.c2, setf h.f0, setf h.f1, setf h.f2⟩
theorem Fx.set2 {W : World} {n : Nat} {x y z : Value} (h : Fx W n x y z) (u : Value) : Fx (W.setCell ⟨n, 2, none⟩ u) n x y u :=
  ⟨setc (by decide) h.c0, setc (by decide) h.c1, sets h.c2, setf h.f0, setf h.f1, setf h.f2⟩
theorem DC.drewN {P : Program} {k : TypeId} {w : World} {b m n : Nat} {room used left steps : Int} {off armed : Bool} {L : List Fl} (h : DC P k w b m room used off armed left steps L) : DC P k (w.drewN n) b m room used off armed left steps L :=
  h.of_blocks rfl (.inr rfl)
theorem Kp.drewN {b m n : Nat} {w0 w : World} (h : Kp b m w0 w) : Kp b m w0 (w.drewN n) := ⟨h.os, h.tape, h.output, h.size, h.block⟩
/-- The parts of a file's value. -/
theorem run_file0 (n b : ByteArray) (s : Int) (w : World) : (Instr.field 78 (.agg #[.string n, .string b, .int .i64 s]) 0).run Tryz.prog w = .ok (.agg #[.string n, .string b, .int .i64 s]) w := by kernel_rfl
theorem run_File1 (n b : ByteArray) (s : Int) (w : World) : (Instr.field 75 (.agg #[.string n, .string b, .int .i64 s]) 1).run Tryz.prog w = .ok (.string b) w := by kernel_rfl
attribute [go_sem] run_file0 run_File1
end Go.Proofs.YtnpgjlhnlakgpaaGreatDoor
namespace Go.Proofs.YtnpgjlhnlakgpaaGreatDoor
open Go.RowKit Go.Maps

set_option maxRecDepth 100000 in
set_option maxHeartbeats 4000000 in
theorem sync_any {d : Dk} {w : World} {b m : Nat} (h : DAt w b m d) (hok : d.Ok) (hs : d.steps < 4611686018427387904) {nm : ByteArray} (hn : nm.size ≤ maxLen) :
    Calls Tryz.prog 51 #[.pointer (some ⟨b, 0, none⟩), .string nm] w fun e w' => e = .returned (.int .i64 (d.sync nm).1) ∧ DAt w' b m (d.sync nm).2 ∧ Kp b m w w' := by
  have H := Lib.hid h
  have HN := Lib.hid hn
  have HKK := Lib.hid (hkeyS hn)
  have HOK := Lib.hid hok
  have HS := Lib.hid hs
  have hbw := h.lt
  have hmw := h.ltm
  have hbm := h.ne
  have hrm := hok.room
  have hus := hok.used
  clear hok hs h hn
  by_cases ho : d.off = true
  · have E := Lib.hid (show d.sync nm = (143, d) by simp [Dk.sync, ho])
    have HO := Lib.hid ho
    clear ho
    rw [E.out]
    go_enter Tryz.func51, Tryz.ntmps51
    go_wp2_with (first | (go_at_call 67; refine (find_off H.out HO.out nm).mono ?_; rintro e w1 ⟨rfl, hB1⟩; have HB1 := Lib.hid hB1; clear hB1) | fail)
    go_ret
    exact ⟨rfl, (H.out.below HB1.out).alloc _, (Kp.of_below HB1.out).alloc _⟩
  · have ho' : d.off = false := by simpa using ho
    have HO := Lib.hid ho'
    cases hf : findF nm.data.toList d.L with
    | none =>
      have E := Lib.hid (show d.sync nm = (140, d) by simp [Dk.sync, ho', hf])
      have HF := Lib.hid hf
      clear ho ho' hf
      rw [E.out]
      go_enter Tryz.func51, Tryz.ntmps51
      go_wp2_with (first | (go_at_call 67; refine (find_miss H.out HO.out HN.out HF.out).mono ?_; rintro e w1 ⟨rfl, hB1⟩; have HB1 := Lib.hid hB1; clear hB1) | fail)
      go_ret
      exact ⟨rfl, (H.out.below HB1.out).alloc _, (Kp.of_below HB1.out).alloc _⟩
    | some f =>
      have HF := Lib.hid hf
      have hk : f.name = nm := ba_of_list (findF_key hf)
      have hfu := mem_used (findF_mem hf)
      have hfs := HOK.out.safe f (findF_mem hf)
      obtain ⟨fn, fb, fs⟩ := f
      simp only at hk hfu hfs
      subst hk
      cases hr : d.refuses with
      | true =>
        have E := Lib.hid (show d.sync fn = (143, d.gone) by simp [Dk.sync, ho', hf, act_no hr])
        have HR := Lib.hid hr
        clear ho ho' hf hr
        rw [E.out]
        go_enter Tryz.func51, Tryz.ntmps51
        go_wp2_with (first | (go_at_call 67; refine (find_hit H.out HO.out HN.out HF.out).mono ?_; rintro e w1 ⟨rfl, hB1⟩; have HB1 := Lib.hid hB1; have hz1 := hB1.size; clear hB1) | (go_at_call 63; refine (step_no ((H.out.below HB1.out).alloc _) HR.out).mono ?_; rintro e w2 ⟨rfl, hd2, hk2⟩; have HD2 := Lib.hid hd2; have HK2 := Lib.hid hk2; clear hd2 hk2) | fail)
        go_ret
        exact ⟨rfl, HD2.out, ((Kp.of_below HB1.out).alloc _).trans HK2.out⟩
      | false =>
        have E := Lib.hid (show d.sync fn = d.act (putF ⟨fn, fb, fb.size⟩ d.L) by simp [Dk.sync, ho', hf])
        have HR := Lib.hid hr
        have HR0 := Lib.hid (act_go (L := putF ⟨fn, fb, fb.size⟩ d.L) hr)
        have HL := Lib.hid (show d.stepped.L.length < maxLen by have := HOK.out.many; show d.L.length < _; unfold maxLen; omega)
        have HU := Lib.hid (usedF_put (f := ⟨fn, fb, fb.size⟩) HOK.out.rise hf)
        clear ho ho' hf hr
        rw [E.out]
        go_enter Tryz.func51, Tryz.ntmps51
        go_wp2_with (first | (go_at_call 67; refine (find_hit H.out HO.out HN.out HF.out).mono ?_; rintro e w1 ⟨rfl, hB1⟩; have HB1 := Lib.hid hB1; have hz1 := hB1.size; clear hB1) | (go_at_call 63; refine (step_go ((H.out.below HB1.out).alloc _) HR.out HOK.out.left HS.out).mono ?_; rintro e w2 ⟨rfl, hd2, hk2⟩; have HD2 := Lib.hid hd2; have HK2 := Lib.hid hk2; have HX2 := Lib.hid ((Fx.new w1 (.string fn) (.string fb) (.int .i64 (fs : Int)) 78).kept hk2 (by omega) (by omega)); have x0 := HX2.out.c0; have x1 := HX2.out.c1; have x2 := HX2.out.c2; have g0 := HX2.out.f0; have g1 := HX2.out.f1; have g2 := HX2.out.f2; have c1 : w2.cell? ⟨b, 1, none⟩ = some (.int .i64 (usedF d.L : Int)) := hd2.c1; have c2 := hd2.c2; have e1 := hd2.f1; clear hd2 hk2) | fail)
        have HX3 := HX2.out.set2 (.int .i64 (fb.size : Int))
        have HD3 := HD2.out.far (j := w1.heap.size) (by omega) (by omega) 2 (.int .i64 (fb.size : Int))
        have HK3 := Lib.hid ((((Kp.of_below HB1.out).alloc (.cells #[.string fn, .string fb, .int .i64 (fs : Int)] 78)).trans HK2.out).setNew (j := w1.heap.size) (by omega) 2 (.int .i64 (fb.size : Int)))
        generalize (w2.setCell ⟨w1.heap.size, 2, none⟩ (.int .i64 (fb.size : Int))) = W3 at *
        have c2 := HD3.c2
        have x0 := HX3.c0
        have x1 := HX3.c1
        have x2 := HX3.c2
        have HD3 := Lib.hid HD3
        have HX3 := Lib.hid HX3
        clear g0 g1 g2 c1 e1
        go_still_tail 6, (by kernel_rfl)
        change wpList _ _ _ _ _ W3.drew
        have HD4 := Lib.hid HD3.out.drew
        have HK4 := Lib.hid HK3.out.drew
        generalize W3.drew = W4 at *
        go_wp2_with (first | (at_mapUpdate; refine wpList_store_fl _ rfl _ _ _ 50 rfl 9 78 lawK Tryz.underlying50 m _ _ rfl HD4.out.own HL.out ⟨fn, fb, fb.size⟩ rfl rfl HKK.out ?_; intro w5 ho5 hg5; have HO5 := Lib.hid ho5; have HG5 := Lib.hid hg5; clear ho5 hg5) | fail)
        go_ret
        refine ⟨by rw [HR0.out]; rfl, DAt.act ?_ HR.out, HK4.out.map HG5.out⟩
        have h5 := HD4.out.map HG5.out HO5.out
        have hu : usedF (putF ⟨fn, fb, fb.size⟩ d.L) = usedF d.L := by have := HU.out; (try simp only at this); omega
        rw [hu]; exact h5
end Go.Proofs.YtnpgjlhnlakgpaaGreatDoor
namespace Go.Proofs.YtnpgjlhnlakgpaaGreatDoor
open Go.RowKit Go.Maps

set_option maxRecDepth 100000 in
set_option maxHeartbeats 4000000 in
theorem cut_any {d : Dk} {w : World} {b m : Nat} (h : DAt w b m d) (hok : d.Ok) (hs : d.steps < 4611686018427387904) {nm : ByteArray} (hn : nm.size ≤ maxLen) (n : Int) :
    Calls Tryz.prog 80 #[.pointer (some ⟨b, 0, none⟩), .string nm, .int .i64 n] w fun e w' => e = .returned (.int .i64 (d.cut nm n).1) ∧ DAt w' b m (d.cut nm n).2 ∧ Kp b m w w' := by
  have H := Lib.hid h
  have HN := Lib.hid hn
  have HKK := Lib.hid (hkeyS hn)
  have HOK := Lib.hid hok
  have HS := Lib.hid hs
  have hbw := h.lt
  have hmw := h.ltm
  have hbm := h.ne
  have hrm := hok.room
  have hus := hok.used
  clear hok hs h hn
  by_cases ho : d.off = true
  · have E := Lib.hid (show d.cut nm n = (143, d) by simp [Dk.cut, ho])
    have HO := Lib.hid ho
    clear ho
    rw [E.out]
    go_enter Tryz.func80, Tryz.ntmps80
    go_wp2_with (first | (go_at_call 67; refine (find_off H.out HO.out nm).mono ?_; rintro e w1 ⟨rfl, hB1⟩; have HB1 := Lib.hid hB1; clear hB1) | fail)
    go_ret
    exact ⟨rfl, (H.out.below HB1.out).alloc _, (Kp.of_below HB1.out).alloc _⟩
  · have ho' : d.off = false := by simpa using ho
    have HO := Lib.hid ho'
    cases hf : findF nm.data.toList d.L with
    | none =>
      have E := Lib.hid (show d.cut nm n = (140, d) by simp [Dk.cut, ho', hf])
      have HF := Lib.hid hf
      clear ho ho' hf
      rw [E.out]
      go_enter Tryz.func80, Tryz.ntmps80
      go_wp2_with (first | (go_at_call 67; refine (find_miss H.out HO.out HN.out HF.out).mono ?_; rintro e w1 ⟨rfl, hB1⟩; have HB1 := Lib.hid hB1; clear hB1) | fail)
      go_ret
      exact ⟨rfl, (H.out.below HB1.out).alloc _, (Kp.of_below HB1.out).alloc _⟩
    | some f =>
      have HF := Lib.hid hf
      have hk : f.name = nm := ba_of_list (findF_key hf)
      have hfu := mem_used (findF_mem hf)
      have hfs := HOK.out.safe f (findF_mem hf)
      obtain ⟨fn, fb, fs⟩ := f
      simp only at hk hfu hfs
      subst hk
      by_cases hn0 : n < 0
      · have E := Lib.hid (show d.cut fn n = (1, d) by simp [Dk.cut, ho', hf, hn0])
        clear ho ho' hf
        rw [E.out]
        go_enter Tryz.func80, Tryz.ntmps80
        go_wp2_with (first | (go_at_call 67; refine (find_hit H.out HO.out HN.out HF.out).mono ?_; rintro e w1 ⟨rfl, hB1⟩; have HB1 := Lib.hid hB1; have hz1 := hB1.size; clear hB1) | fail)
        go_ret
        exact ⟨rfl, (H.out.below HB1.out).alloc _, (Kp.of_below HB1.out).alloc _⟩
      · obtain ⟨k, rfl⟩ : ∃ k : Nat, n = (k : Int) := ⟨n.toNat, by omega⟩
        by_cases hn1 : (fb.size : Int) < (k : Int)
        · have E := Lib.hid (show d.cut fn k = (1, d) by simp [Dk.cut, ho', hf]; omega)
          clear ho ho' hf
          rw [E.out]
          go_enter Tryz.func80, Tryz.ntmps80
          go_wp2_with (first | (go_at_call 67; refine (find_hit H.out HO.out HN.out HF.out).mono ?_; rintro e w1 ⟨rfl, hB1⟩; have HB1 := Lib.hid hB1; have hz1 := hB1.size; clear hB1) | fail)
          go_ret
          exact ⟨rfl, (H.out.below HB1.out).alloc _, (Kp.of_below HB1.out).alloc _⟩
        · have hkl : k ≤ fb.size := by omega
          cases hr : d.refuses with
          | true =>
            have E := Lib.hid (show d.cut fn k = (143, d.gone) by simp [Dk.cut, ho', hf, act_no hr]; omega)
            have HR := Lib.hid hr
            clear ho ho' hf hr
            rw [E.out]
            go_enter Tryz.func80, Tryz.ntmps80
            go_wp2_with (first | (go_at_call 67; refine (find_hit H.out HO.out HN.out HF.out).mono ?_; rintro e w1 ⟨rfl, hB1⟩; have HB1 := Lib.hid hB1; have hz1 := hB1.size; clear hB1) | (go_at_call 63; refine (step_no ((H.out.below HB1.out).alloc _) HR.out).mono ?_; rintro e w2 ⟨rfl, hd2, hk2⟩; have HD2 := Lib.hid hd2; have HK2 := Lib.hid hk2; clear hd2 hk2) | fail)
            go_ret
            exact ⟨rfl, HD2.out, ((Kp.of_below HB1.out).alloc _).trans HK2.out⟩
          | false =>
            by_cases hmin : k < fs
            · have hmm : min fs k = k := Nat.min_eq_right (by omega)
              have E := Lib.hid (show d.cut fn k = d.act (putF ⟨fn, fb.extract 0 k, k⟩ d.L) by simp [Dk.cut, ho', hf, hmm]; omega)
              have HR := Lib.hid hr
              have HR0 := Lib.hid (act_go (L := putF ⟨fn, fb.extract 0 k, k⟩ d.L) hr)
              have HL := Lib.hid (show d.stepped.L.length < maxLen by have := HOK.out.many; show d.L.length < _; unfold maxLen; omega)
              have HU := Lib.hid (usedF_put (f := ⟨fn, fb.extract 0 k, k⟩) HOK.out.rise hf)
              clear ho ho' hf hr hmm
              rw [E.out]
              go_enter Tryz.func80, Tryz.ntmps80
              go_wp2_with (first | (go_at_call 67; refine (find_hit H.out HO.out HN.out HF.out).mono ?_; rintro e w1 ⟨rfl, hB1⟩; have HB1 := Lib.hid hB1; have hz1 := hB1.size; clear hB1) | (go_at_call 63; refine (step_go ((H.out.below HB1.out).alloc _) HR.out HOK.out.left HS.out).mono ?_; rintro e w2 ⟨rfl, hd2, hk2⟩; have HD2 := Lib.hid hd2; have HK2 := Lib.hid hk2; have HX2 := Lib.hid ((Fx.new w1 (.string fn) (.string fb) (.int .i64 (fs : Int)) 78).kept hk2 (by omega) (by omega)); have x0 := HX2.out.c0; have x1 := HX2.out.c1; have x2 := HX2.out.c2; have g0 := HX2.out.f0; have g1 := HX2.out.f1; have g2 := HX2.out.f2; have c1 : w2.cell? ⟨b, 1, none⟩ = some (.int .i64 (usedF d.L : Int)) := hd2.c1; have c2 := hd2.c2; have e1 := hd2.f1; clear hd2 hk2) | fail)
              have q1 := IntWalk.i64_in ((fb.size : Int) - (k : Int)) (by omega)
              have q2 := IntWalk.i64_in ((usedF d.L : Int) - ((fb.size : Int) - (k : Int))) (by omega)
              go_still_tail 13, (by kernel_rfl)
              change wpList _ _ _ _ _ w2.drew
              clear q1 q2
              have HD3 := HD2.out.drew
              have HX3 := HX2.out.of_block (W' := w2.drew) rfl
              have HK3 := Lib.hid (HK2.out.drew)
              generalize w2.drew = W3 at *
              clear x0 x1 x2 g0 g1 g2 c1 c2 e1
              have x0 := HX3.c0
              have x1 := HX3.c1
              have x2 := HX3.c2
              have g0 := HX3.f0
              have g1 := HX3.f1
              have g2 := HX3.f2
              have c1 : W3.cell? ⟨b, 1, none⟩ = some (.int .i64 (usedF d.L : Int)) := HD3.c1
              have c2 := HD3.c2
              have e1 := HD3.f1
              have HD3 := Lib.hid HD3
              have HX3 := Lib.hid HX3
              go_wp2_with fail
              have HX3 := ((HX3.out.far (j := b) (o := 1) (u := .int .i64 ((usedF d.L : Int) - ((fb.size : Int) - (k : Int)))) (by omega)).set1 (.string (fb.extract 0 k))).set2 (.int .i64 (k : Int))
              have HD3 := ((HD3.out.set1 ((usedF d.L : Int) - ((fb.size : Int) - (k : Int)))).far (j := w1.heap.size) (by omega) (by omega) 1 (.string (fb.extract 0 k))).far (j := w1.heap.size) (by omega) (by omega) 2 (.int .i64 (k : Int))
              have HK3 := Lib.hid ((((((Kp.of_below HB1.out).alloc (.cells #[.string fn, .string fb, .int .i64 (fs : Int)] 78)).trans HK3.out).setCell 1 (.int .i64 ((usedF d.L : Int) - ((fb.size : Int) - (k : Int))))).setNew (j := w1.heap.size) (by omega) 1 (.string (fb.extract 0 k))).setNew (j := w1.heap.size) (by omega) 2 (.int .i64 (k : Int)))
              generalize (((W3.setCell ⟨b, 1, none⟩ (.int .i64 ((usedF d.L : Int) - ((fb.size : Int) - (k : Int))))).setCell ⟨w1.heap.size, 1, none⟩ (.string (fb.extract 0 k))).setCell ⟨w1.heap.size, 2, none⟩ (.int .i64 (k : Int))) = W6 at *
              clear x0 x1 x2 c2
              have c2 := HD3.c2
              have x0 := HX3.c0
              have x1 := HX3.c1
              have x2 := HX3.c2
              have HD3 := Lib.hid HD3
              have HX3 := Lib.hid HX3
              clear g0 g1 g2 c1 e1
              go_still_tail 6, (by kernel_rfl)
              change wpList _ _ _ _ _ W6.drew
              have HD4 := Lib.hid HD3.out.drew
              have HK4 := Lib.hid HK3.out.drew
              generalize W6.drew = W4 at *
              go_wp2_with (first | (at_mapUpdate; refine wpList_store_fl _ rfl _ _ _ 50 rfl 9 78 lawK Tryz.underlying50 m _ _ rfl HD4.out.own HL.out ⟨fn, fb.extract 0 k, k⟩ rfl rfl HKK.out ?_; intro w5 ho5 hg5; have HO5 := Lib.hid ho5; have HG5 := Lib.hid hg5; clear ho5 hg5) | fail)
              go_ret
              refine ⟨by rw [HR0.out]; rfl, DAt.act ?_ HR.out, HK4.out.map HG5.out⟩
              have h5 := HD4.out.map HG5.out HO5.out
              have hu : (usedF (putF ⟨fn, fb.extract 0 k, k⟩ d.L) : Int) = ((usedF d.L : Int) - ((fb.size : Int) - (k : Int))) := by have := HU.out; simp only [ByteArray.size_extract] at this; omega
              rw [hu]; exact h5
            · have hmm : min fs k = fs := Nat.min_eq_left (by omega)
              have E := Lib.hid (show d.cut fn k = d.act (putF ⟨fn, fb.extract 0 k, fs⟩ d.L) by simp [Dk.cut, ho', hf, hmm]; omega)
              have HR := Lib.hid hr
              have HR0 := Lib.hid (act_go (L := putF ⟨fn, fb.extract 0 k, fs⟩ d.L) hr)
              have HL := Lib.hid (show d.stepped.L.length < maxLen by have := HOK.out.many; show d.L.length < _; unfold maxLen; omega)
              have HU := Lib.hid (usedF_put (f := ⟨fn, fb.extract 0 k, fs⟩) HOK.out.rise hf)
              clear ho ho' hf hr hmm
              rw [E.out]
              go_enter Tryz.func80, Tryz.ntmps80
              go_wp2_with (first | (go_at_call 67; refine (find_hit H.out HO.out HN.out HF.out).mono ?_; rintro e w1 ⟨rfl, hB1⟩; have HB1 := Lib.hid hB1; have hz1 := hB1.size; clear hB1) | (go_at_call 63; refine (step_go ((H.out.below HB1.out).alloc _) HR.out HOK.out.left HS.out).mono ?_; rintro e w2 ⟨rfl, hd2, hk2⟩; have HD2 := Lib.hid hd2; have HK2 := Lib.hid hk2; have HX2 := Lib.hid ((Fx.new w1 (.string fn) (.string fb) (.int .i64 (fs : Int)) 78).kept hk2 (by omega) (by omega)); have x0 := HX2.out.c0; have x1 := HX2.out.c1; have x2 := HX2.out.c2; have g0 := HX2.out.f0; have g1 := HX2.out.f1; have g2 := HX2.out.f2; have c1 : w2.cell? ⟨b, 1, none⟩ = some (.int .i64 (usedF d.L : Int)) := hd2.c1; have c2 := hd2.c2; have e1 := hd2.f1; clear hd2 hk2) | fail)
              have q1 := IntWalk.i64_in ((fb.size : Int) - (k : Int)) (by omega)
              have q2 := IntWalk.i64_in ((usedF d.L : Int) - ((fb.size : Int) - (k : Int))) (by omega)
              go_still_tail 13, (by kernel_rfl)
              change wpList _ _ _ _ _ w2.drew
              clear q1 q2
              have HD3 := HD2.out.drew
              have HX3 := HX2.out.of_block (W' := w2.drew) rfl
              have HK3 := Lib.hid (HK2.out.drew)
              generalize w2.drew = W3 at *
              clear x0 x1 x2 g0 g1 g2 c1 c2 e1
              have x0 := HX3.c0
              have x1 := HX3.c1
              have x2 := HX3.c2
              have g0 := HX3.f0
              have g1 := HX3.f1
              have g2 := HX3.f2
              have c1 : W3.cell? ⟨b, 1, none⟩ = some (.int .i64 (usedF d.L : Int)) := HD3.c1
              have c2 := HD3.c2
              have e1 := HD3.f1
              have HD3 := Lib.hid HD3
              have HX3 := Lib.hid HX3
              go_wp2_with fail
              have HX3 := ((HX3.out.far (j := b) (o := 1) (u := .int .i64 ((usedF d.L : Int) - ((fb.size : Int) - (k : Int)))) (by omega)).set1 (.string (fb.extract 0 k))).set2 (.int .i64 (fs : Int))
              have HD3 := ((HD3.out.set1 ((usedF d.L : Int) - ((fb.size : Int) - (k : Int)))).far (j := w1.heap.size) (by omega) (by omega) 1 (.string (fb.extract 0 k))).far (j := w1.heap.size) (by omega) (by omega) 2 (.int .i64 (fs : Int))
              have HK3 := Lib.hid ((((((Kp.of_below HB1.out).alloc (.cells #[.string fn, .string fb, .int .i64 (fs : Int)] 78)).trans HK3.out).setCell 1 (.int .i64 ((usedF d.L : Int) - ((fb.size : Int) - (k : Int))))).setNew (j := w1.heap.size) (by omega) 1 (.string (fb.extract 0 k))).setNew (j := w1.heap.size) (by omega) 2 (.int .i64 (fs : Int)))
              generalize (((W3.setCell ⟨b, 1, none⟩ (.int .i64 ((usedF d.L : Int) - ((fb.size : Int) - (k : Int))))).setCell ⟨w1.heap.size, 1, none⟩ (.string (fb.extract 0 k))).setCell ⟨w1.heap.size, 2, none⟩ (.int .i64 (fs : Int))) = W6 at *
              clear x0 x1 x2 c2
              have c2 := HD3.c2
              have x0 := HX3.c0
              have x1 := HX3.c1
              have x2 := HX3.c2
              have HD3 := Lib.hid HD3
              have HX3 := Lib.hid HX3
              clear g0 g1 g2 c1 e1
              go_still_tail 6, (by kernel_rfl)
              change wpList _ _ _ _ _ W6.drew
              have HD4 := Lib.hid HD3.out.drew
              have HK4 := Lib.hid HK3.out.drew
              generalize W6.drew = W4 at *
              go_wp2_with (first | (at_mapUpdate; refine wpList_store_fl _ rfl _ _ _ 50 rfl 9 78 lawK Tryz.underlying50 m _ _ rfl HD4.out.own HL.out ⟨fn, fb.extract 0 k, fs⟩ rfl rfl HKK.out ?_; intro w5 ho5 hg5; have HO5 := Lib.hid ho5; have HG5 := Lib.hid hg5; clear ho5 hg5) | fail)
              go_ret
              refine ⟨by rw [HR0.out]; rfl, DAt.act ?_ HR.out, HK4.out.map HG5.out⟩
              have h5 := HD4.out.map HG5.out HO5.out
              have hu : (usedF (putF ⟨fn, fb.extract 0 k, fs⟩ d.L) : Int) = ((usedF d.L : Int) - ((fb.size : Int) - (k : Int))) := by have := HU.out; simp only [ByteArray.size_extract] at this; omega
              rw [hu]; exact h5
end Go.Proofs.YtnpgjlhnlakgpaaGreatDoor
namespace Go.Proofs.YtnpgjlhnlakgpaaGreatDoor
open Go.RowKit Go.Maps

set_option maxHeartbeats 1000000 in
theorem arm_any {d : Dk} {w : World} {b m : Nat} (h : DAt w b m d) (n : Int) :
    Calls Tryz.prog 24 #[.pointer (some ⟨b, 0, none⟩), .int .i64 n] w fun e w' => e = .returned (.tuple #[]) ∧ DAt w' b m (d.arm n) ∧ Kp b m w w' := by
  have c3 := h.c3
  have c4 := h.c4
  have c5 := h.c5
  have f4 := h.f4
  have f5 := h.f5
  have H := Lib.hid h
  clear h
  by_cases ho : d.off = true
  · have E := Lib.hid (show d.arm n = d by simp [Dk.arm, ho])
    rw [ho] at c3
    clear ho
    rw [E.out]
    go_enter Tryz.func24, Tryz.ntmps24
    go_wp2_with fail
    go_end0
    refine ⟨rfl, H.out, Kp.refl _ _ _⟩
  · have ho' : d.off = false := by simpa using ho
    rw [ho'] at c3
    by_cases hn : 0 ≤ n
    · obtain ⟨k, rfl⟩ : ∃ k : Nat, n = (k : Int) := ⟨n.toNat, by omega⟩
      have E := Lib.hid (show d.arm k = { d with armed := true, left := k } by simp [Dk.arm, ho'])
      clear ho ho' hn
      rw [E.out]
      go_enter Tryz.func24, Tryz.ntmps24
      go_wp2_with fail
      go_end0
      refine ⟨rfl, ?_, ((Kp.refl _ _ _).setCell 4 _).setCell 5 _⟩
      exact (H.out.set4 true).set5 (k : Int)
    · have E := Lib.hid (show d.arm n = { d with armed := decide (0 ≤ n), left := 0 } by simp [Dk.arm, ho']; omega)
      have hn' : n < 0 := by omega
      clear ho ho' hn
      rw [E.out]
      go_enter Tryz.func24, Tryz.ntmps24
      go_wp2_with fail
      go_end0
      refine ⟨rfl, ?_, ((Kp.refl _ _ _).setCell 4 _).setCell 5 _⟩
      exact (H.out.set4 (decide (0 ≤ n))).set5 0
end Go.Proofs.YtnpgjlhnlakgpaaGreatDoor
namespace Go.Proofs.YtnpgjlhnlakgpaaGreatDoor
open Go.RowKit Go.Maps

set_option maxHeartbeats 1000000 in
theorem new_bad (r : Int) (w : World) (h : r < 0 ∨ 4194304 < r) : Calls Tryz.prog 4 #[.int .i64 r] w fun e w' => e = .returned (.tuple #[.pointer none, .int .i64 1]) ∧ w = w' := by
  rcases h with h | h
  · go_enter Tryz.func4, Tryz.ntmps4
    go_wp2_with fail
    go_ret2
    exact ⟨rfl, rfl⟩
  · have h0 : ¬ r < 0 := by omega
    go_enter Tryz.func4, Tryz.ntmps4
    go_wp2_with fail
    go_ret2
    exact ⟨rfl, rfl⟩
end Go.Proofs.YtnpgjlhnlakgpaaGreatDoor

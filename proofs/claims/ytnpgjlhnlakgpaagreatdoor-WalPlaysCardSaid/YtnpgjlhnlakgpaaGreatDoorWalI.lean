/- Open of a disk without files. -/
import Derived.Test.YtnpgjlhnlakgpaaGreatDoorG21
import Derived.Test.YtnpgjlhnlakgpaaGreatDoorG06
namespace Go.Proofs.YtnpgjlhnlakgpaaGreatDoor
open Go.RowKit Go.Maps

set_option maxHeartbeats 4000000 in
theorem list_new {d : Dk} {w : World} {b m : Nat} (h : DAt w b m d) (hok : d.Ok) (ho : d.off = false) (hL : d.L = []) :
    Calls Tryz.prog 45 #[.pointer (some ⟨b, 0, none⟩)] w fun e w' => (∃ p cp, e = .returned (.tuple #[.slice p 0 cp, .int .i64 0])) ∧ Below w.heap.size w w' := by
  have H := Lib.hid h
  have c3 := h.c3
  rw [ho] at c3
  clear h
  go_enter Tryz.func45, Tryz.ntmps45
  go_wp2_with fail
  refine (names_any sortC H.out hok).mono ?_
  rintro e w1 ⟨v, rfl, hrow, hB⟩
  have HB := Lib.hid hB
  rw [hL] at hrow
  obtain ⟨p, cp, hv⟩ := owns_sl2 hrow
  subst hv
  clear hrow hB
  go_wp2_with fail
  go_ret2
  exact ⟨⟨p, cp, rfl⟩, HB.out⟩

set_option maxRecDepth 100000 in
set_option maxHeartbeats 8000000 in
theorem open_new2 {w : World} {db m : Nat} {d : Dk} (h : DAt w db m d) (hok : d.Ok) (hs : d.steps < 4611686018427387904) (ho : d.off = false) (hL : d.L = []) (seg : Int) (h1 : 1 ≤ seg) (h2 : seg ≤ 65536) (hr : (d.create nm1).1 = 0) :
    Calls Tryz.prog 17 #[.pointer (some ⟨db, 0, none⟩), .int .i64 seg] w fun e w' => ∃ lb g, e = .returned (.tuple #[.pointer (some ⟨lb, 0, none⟩), .int .i64 0]) ∧ LgAt w' lb db m g seg 0 1 0 ∧ DAt w' db m (d.create nm1).2 ∧ w.heap.size ≤ lb ∧ Kp db m w w' ∧ w'.frozen? ⟨lb, 2, none⟩ = false ∧ w'.frozen? ⟨g, 0, none⟩ = false ∧ w.heap.size ≤ g := by
  have hnm : nm1.size ≤ maxLen := by unfold maxLen; decide
  have HLI := Lib.hid (list_new h hok ho hL)
  have HN := Lib.hid (fun W => name_one W)
  have HP := Lib.hid (show ∀ wx, DAt wx db m d → Calls Tryz.prog 28 #[.pointer (some ⟨db, 0, none⟩), .string nm1] wx fun e w' => e = .returned (.int .i64 0) ∧ DAt w' db m (d.create nm1).2 ∧ Kp db m wx w' from fun wx h => by rw [← hr]; exact create_any h hok hs hnm)
  obtain ⟨S, hS⟩ : ∃ S, nm1 = S := ⟨_, rfl⟩
  rw [hS] at HN HP ⊢
  obtain ⟨D2, hD2⟩ : ∃ D2, (d.create S).2 = D2 := ⟨_, rfl⟩
  rw [hD2] at HP ⊢
  have HDD := Lib.hid h
  have hdl := h.lt
  have hml := h.ltm
  have n1 : ¬ seg < 1 := by omega
  have n2 : ¬ (65536 : Int) < seg := by omega
  clear h hok hs hr hS hnm hD2 ho hL
  go_enter Tryz.func17, Tryz.ntmps17
  go_wp2_with (first
    | (go_at_call 45; refine HLI.out.mono ?_; rintro e w1 ⟨⟨p, cp, rfl⟩, hb⟩; have HB1 := Lib.hid hb; clear hb)
    | fail)
  have hz1 := HB1.out.size
  have hW : ∃ W, (w1.alloc (.cells #[.pointer (some ⟨db, 0, none⟩), .int .i64 seg, .slice none 0 0, .int .i64 0, .int .i64 0, .int .i64 0] 86)) = W := ⟨_, rfl⟩
  have hc : ∀ o, (w1.alloc (.cells #[.pointer (some ⟨db, 0, none⟩), .int .i64 seg, .slice none 0 0, .int .i64 0, .int .i64 0, .int .i64 0] 86)).cell? ⟨w1.heap.size, o, none⟩ = (#[.pointer (some ⟨db, 0, none⟩), .int .i64 seg, .slice none 0 0, .int .i64 0, .int .i64 0, .int .i64 0] : Array Value)[o]? := fun o => World.cell?_alloc_new _ _ _ _
  have hf : ∀ o, (w1.alloc (.cells #[.pointer (some ⟨db, 0, none⟩), .int .i64 seg, .slice none 0 0, .int .i64 0, .int .i64 0, .int .i64 0] 86)).frozen? ⟨w1.heap.size, o, none⟩ = false := fun o => World.frozen?_alloc_new ..
  have HBW : Hid (Below w1.heap.size w1 (w1.alloc (.cells #[.pointer (some ⟨db, 0, none⟩), .int .i64 seg, .slice none 0 0, .int .i64 0, .int .i64 0, .int .i64 0] 86))) := (Below.refl _ _).alloc (Nat.le_refl _) _
  have hzW : w1.heap.size < (w1.alloc (.cells #[.pointer (some ⟨db, 0, none⟩), .int .i64 seg, .slice none 0 0, .int .i64 0, .int .i64 0, .int .i64 0] 86)).heap.size := by simp
  have HDW : Hid (DAt (w1.alloc (.cells #[.pointer (some ⟨db, 0, none⟩), .int .i64 seg, .slice none 0 0, .int .i64 0, .int .i64 0, .int .i64 0] 86)) db m d) := (DC.below HDD.out HB1.out).alloc _
  obtain ⟨W, hW⟩ := hW
  simp only [hW] at hc hf HBW hzW HDW ⊢
  clear hW
  have c0 := hc 0
  have c1 := hc 1
  have c2 : W.cell? ⟨w1.heap.size, 2, none⟩ = some (.slice none 0 0) := hc 2
  have c3 := hc 3
  have c4 : W.cell? ⟨w1.heap.size, 4, none⟩ = some (.int .i64 0) := hc 4
  have c5 := hc 5
  have f2 := hf 2
  have f4 := hf 4
  have HC := Lib.hid hc
  have HF := Lib.hid hf
  clear hc hf c0 c1 c3 c5
  go_loopw [39] (fun iv wr => iv = .int .i64 0 ∧ wr = W) (fun iv _ => 0)
  case atStart => exact ⟨rfl, rfl⟩
  case round =>
    obtain ⟨rfl, rfl⟩ := hrel
    have hdb : w1.heap.size ≠ db := by omega
    have hmb : w1.heap.size ≠ m := by omega
    go_upto_region 20 with (first
      | (go_at_call 48; refine (HN.out _).mono ?_; rintro e w2 ⟨rfl, hb⟩; have HB2 := Lib.hid hb; have HD2 : Hid (DAt w2 db m d) := DC.below HDW.out hb; have hz2 := hb.size; clear hb)
      | (go_at_call 28; (with_reducible refine (HP.out _ HD2.out).mono ?_); rintro e w3 ⟨rfl, hd3, hk3⟩; have HD3 := Lib.hid hd3; have HK3 := Lib.hid hk3; have hz3 := hk3.size; clear hd3 hk3)
      | fail)
    have hlb : w1.heap.size < w3.heap.size := by omega
    have k3 : Hid (∀ o, w3.cell? ⟨w1.heap.size, o, none⟩ = wr.cell? ⟨w1.heap.size, o, none⟩) := fun o => (HK3.out.cell (by omega) hdb hmb o).trans (HB2.out.cell (p := ⟨w1.heap.size, o, none⟩) hzW)
    have g3 : Hid (∀ o, w3.frozen? ⟨w1.heap.size, o, none⟩ = wr.frozen? ⟨w1.heap.size, o, none⟩) := fun o => (HK3.out.frozen (by omega) hdb hmb o).trans (HB2.out.frozen (p := ⟨w1.heap.size, o, none⟩) hzW)
    have d2 := (k3.out 2).trans c2
    have d4 := (k3.out 4).trans c4
    have e2 := (g3.out 2).trans f2
    have e4 := (g3.out 4).trans f4
    go_wp2_with fail
    go_ret2
    have hm3 : db < w3.heap.size ∧ m < w3.heap.size := ⟨DC.lt HD3.out, DC.ltm HD3.out⟩
    have cc : ∀ o v, wr.cell? ⟨w1.heap.size, o, none⟩ = some v → w3.cell? ⟨w1.heap.size, o, none⟩ = some v := fun o v hv => (k3.out o).trans hv
    have ff : ∀ o, w3.frozen? ⟨w1.heap.size, o, none⟩ = false := fun o => (g3.out o).trans (HF.out o)
    have KA : Kp db m w w3 := (((Kp.of_below HB1.out).trans (Kp.of_below HBW.out)).trans (Kp.of_below HB2.out)).trans HK3.out
    have s1 : ∀ o, o ≠ 2 → o ≠ 4 → ((w3.setCell ⟨w1.heap.size, 2, none⟩ (.slice (some ⟨w3.heap.size, 0, none⟩) 1 1)).setCell ⟨w1.heap.size, 4, none⟩ (.int .i64 1)).cell? ⟨w1.heap.size, o, none⟩ = w3.cell? ⟨w1.heap.size, o, none⟩ := fun o h2 h4 => by
      rw [World.cell?_setCell_other _ _ _ _ (fun e => h4 (by cases e; rfl)), World.cell?_setCell_other _ _ _ _ (fun e => h2 (by cases e; rfl))]
    have s2 : ((w3.setCell ⟨w1.heap.size, 2, none⟩ (.slice (some ⟨w3.heap.size, 0, none⟩) 1 1)).setCell ⟨w1.heap.size, 4, none⟩ (.int .i64 1)).cell? ⟨w1.heap.size, 2, none⟩ = some (.slice (some ⟨w3.heap.size, 0, none⟩) 1 1) := by
      rw [World.cell?_setCell_other _ _ _ _ (fun e => by cases e)]
      exact World.cell?_setCell_same _ _ _ (cc 2 _ c2)
    have s4 : ((w3.setCell ⟨w1.heap.size, 2, none⟩ (.slice (some ⟨w3.heap.size, 0, none⟩) 1 1)).setCell ⟨w1.heap.size, 4, none⟩ (.int .i64 1)).cell? ⟨w1.heap.size, 4, none⟩ = some (.int .i64 1) := by
      refine World.cell?_setCell_same _ _ _ (u := .int .i64 0) ?_
      rw [World.cell?_setCell_other _ _ _ _ (fun e => by cases e)]
      exact cc 4 _ c4
    have s5 : ∀ o, ((w3.setCell ⟨w1.heap.size, 2, none⟩ (.slice (some ⟨w3.heap.size, 0, none⟩) 1 1)).setCell ⟨w1.heap.size, 4, none⟩ (.int .i64 1)).frozen? ⟨w1.heap.size, o, none⟩ = false := fun o => by rw [World.frozen?_setCell, World.frozen?_setCell]; exact ff o
    have hz5 : ((w3.setCell ⟨w1.heap.size, 2, none⟩ (.slice (some ⟨w3.heap.size, 0, none⟩) 1 1)).setCell ⟨w1.heap.size, 4, none⟩ (.int .i64 1)).heap.size = w3.heap.size := by simp
    have D5 := DC.far (DC.far HD3.out (fun e => hdb e.symm) (fun e => hmb e.symm) 2 (.slice (some ⟨w3.heap.size, 0, none⟩) 1 1)) (fun e => hdb e.symm) (fun e => hmb e.symm) 4 (.int .i64 1)
    have K5 := (KA.setNew hz1 2 (.slice (some ⟨w3.heap.size, 0, none⟩) 1 1)).setNew hz1 4 (.int .i64 1)
    have hw3 : ∃ z, w3.heap.size = z := ⟨_, rfl⟩
    obtain ⟨z, hw3⟩ := hw3
    rw [hw3] at s1 s2 s4 s5 hz5 D5 K5 hm3 hlb ⊢
    generalize (w3.setCell ⟨w1.heap.size, 2, none⟩ (.slice (some ⟨z, 0, none⟩) 1 1)).setCell ⟨w1.heap.size, 4, none⟩ (.int .i64 1) = W5 at *
    have hA := (Below.refl W5.heap.size W5).alloc (Nat.le_refl _) (.cells #[.int .i64 1] 3)
    have hl5 : w1.heap.size < W5.heap.size := by omega
    have cA : ∀ o v, W5.cell? ⟨w1.heap.size, o, none⟩ = some v → (W5.alloc (.cells #[.int .i64 1] 3)).cell? ⟨w1.heap.size, o, none⟩ = some v := fun o v hv => (hA.cell (p := ⟨w1.heap.size, o, none⟩) hl5).trans hv
    have fA : ∀ o, (W5.alloc (.cells #[.int .i64 1] 3)).frozen? ⟨w1.heap.size, o, none⟩ = false := fun o => (hA.frozen (p := ⟨w1.heap.size, o, none⟩) hl5).trans (s5 o)
    have nA : (W5.alloc (.cells #[.int .i64 1] 3)).cell? ⟨z, 0, none⟩ = some (.int .i64 1) := by rw [← hz5]; exact World.cell?_alloc_new ..
    refine ⟨w1.heap.size, z, rfl, ⟨cA 0 _ ((s1 0 (by decide) (by decide)).trans (cc 0 _ (HC.out 0))), cA 1 _ ((s1 1 (by decide) (by decide)).trans (cc 1 _ (HC.out 1))), cA 2 _ s2, cA 3 _ ((s1 3 (by decide) (by decide)).trans (cc 3 _ (HC.out 3))), cA 4 _ s4, cA 5 _ ((s1 5 (by decide) (by decide)).trans (cc 5 _ (HC.out 5))), fA 3, fA 4, fA 5, nA, ⟨hdb, hmb, by omega, by omega, by omega⟩⟩, DC.alloc D5 _, hz1, K5.alloc _, fA 2, by rw [← hz5]; exact World.frozen?_alloc_new .., by omega⟩
theorem open_new {w : World} {db m : Nat} {d : Dk} (h : DAt w db m d) (hok : d.Ok) (hs : d.steps < 4611686018427387904) (ho : d.off = false) (hL : d.L = []) (seg : Int) (h1 : 1 ≤ seg) (h2 : seg ≤ 65536) (hr : (d.create nm1).1 = 0) :
    Calls Tryz.prog 17 #[.pointer (some ⟨db, 0, none⟩), .int .i64 seg] w fun e w' => ∃ lb g, e = .returned (.tuple #[.pointer (some ⟨lb, 0, none⟩), .int .i64 0]) ∧ LgAt w' lb db m g seg 0 1 0 ∧ DAt w' db m (d.create nm1).2 ∧ w.heap.size ≤ lb ∧ Kp db m w w' :=
  (open_new2 h hok hs ho hL seg h1 h2 hr).mono fun _ _ ⟨lb, g, q1, q2, q3, q4, q5, _⟩ => ⟨lb, g, q1, q2, q3, q4, q5⟩
end Go.Proofs.YtnpgjlhnlakgpaaGreatDoor

/- A log of one segment: Sync. -/
import Derived.Test.YtnpgjlhnlakgpaaDoorWalK
import Derived.Test.YtnpgjlhnlakgpaaDoorG07
import Derived.Deep.RegionHeld3
namespace Go.Proofs.YtnpgjlhnlakgpaaDoor
open Go.RowKit Go.Maps

theorem LgAt.drew {w : World} {lb db m g : Nat} {seg size next safe : Int} (h : LgAt w lb db m g seg size next safe) : LgAt w.drew lb db m g seg size next safe := h.below (Below.refl _ _).drew
theorem LgAt.set5 {w : World} {lb db m g : Nat} {seg size next safe : Int} (h : LgAt w lb db m g seg size next safe) (u : Int) : LgAt (w.setCell ⟨lb, 5, none⟩ (.int .i64 u)) lb db m g seg size next u := by
  have c : ∀ o, o ≠ 5 → (w.setCell ⟨lb, 5, none⟩ (.int .i64 u)).cell? ⟨lb, o, none⟩ = w.cell? ⟨lb, o, none⟩ := fun o ho => World.cell?_setCell_other _ _ _ _ (fun e => ho (by cases e; rfl))
  refine ⟨(c 0 (by decide)).trans h.c0, (c 1 (by decide)).trans h.c1, (c 2 (by decide)).trans h.c2, (c 3 (by decide)).trans h.c3, (c 4 (by decide)).trans h.c4, World.cell?_setCell_same _ _ _ h.c5, by rw [World.frozen?_setCell]; exact h.f3, by rw [World.frozen?_setCell]; exact h.f4, by rw [World.frozen?_setCell]; exact h.f5, ?_, h.ne⟩
  rw [World.cell?_setCell_other _ _ _ _ (fun e => by cases e)]
  exact h.n0
theorem LgAt.set4 {w : World} {lb db m g : Nat} {seg size next safe : Int} (h : LgAt w lb db m g seg size next safe) (u : Int) : LgAt (w.setCell ⟨lb, 4, none⟩ (.int .i64 u)) lb db m g seg size u safe := by
  have c : ∀ o, o ≠ 4 → (w.setCell ⟨lb, 4, none⟩ (.int .i64 u)).cell? ⟨lb, o, none⟩ = w.cell? ⟨lb, o, none⟩ := fun o ho => World.cell?_setCell_other _ _ _ _ (fun e => ho (by cases e; rfl))
  refine ⟨(c 0 (by decide)).trans h.c0, (c 1 (by decide)).trans h.c1, (c 2 (by decide)).trans h.c2, (c 3 (by decide)).trans h.c3, World.cell?_setCell_same _ _ _ h.c4, (c 5 (by decide)).trans h.c5, by rw [World.frozen?_setCell]; exact h.f3, by rw [World.frozen?_setCell]; exact h.f4, by rw [World.frozen?_setCell]; exact h.f5, ?_, h.ne⟩
  rw [World.cell?_setCell_other _ _ _ _ (fun e => by cases e)]
  exact h.n0
theorem LgAt.set3 {w : World} {lb db m g : Nat} {seg size next safe : Int} (h : LgAt w lb db m g seg size next safe) (u : Int) : LgAt (w.setCell ⟨lb, 3, none⟩ (.int .i64 u)) lb db m g seg u next safe := by
  have c : ∀ o, o ≠ 3 → (w.setCell ⟨lb, 3, none⟩ (.int .i64 u)).cell? ⟨lb, o, none⟩ = w.cell? ⟨lb, o, none⟩ := fun o ho => World.cell?_setCell_other _ _ _ _ (fun e => ho (by cases e; rfl))
  refine ⟨(c 0 (by decide)).trans h.c0, (c 1 (by decide)).trans h.c1, (c 2 (by decide)).trans h.c2, World.cell?_setCell_same _ _ _ h.c3, (c 4 (by decide)).trans h.c4, (c 5 (by decide)).trans h.c5, by rw [World.frozen?_setCell]; exact h.f3, by rw [World.frozen?_setCell]; exact h.f4, by rw [World.frozen?_setCell]; exact h.f5, ?_, h.ne⟩
  rw [World.cell?_setCell_other _ _ _ _ (fun e => by cases e)]
  exact h.n0
/-- What is kept of what lay below. -/
def Kl (lb db m : Nat) (w w' : World) : Prop := ∀ N, N ≤ w.heap.size → N ≤ lb → N ≤ db → N ≤ m → Below N w w'
theorem Kl.refl (lb db m : Nat) (w : World) : Kl lb db m w w := fun _ _ _ _ _ => Below.refl _ _
theorem Kl.kp {lb db m : Nat} {w0 w w' : World} (h : Kl lb db m w0 w) (hk : Kp db m w w') (hz : w0.heap.size ≤ w.heap.size) : Kl lb db m w0 w' := fun N h0 h1 h2 h3 => Kp.belowN (h N h0 h1 h2 h3) hk (by omega) h2 h3
theorem Kl.below {lb db m : Nat} {w0 w w' : World} (h : Kl lb db m w0 w) (hk : Below w.heap.size w w') (hz : w0.heap.size ≤ w.heap.size) : Kl lb db m w0 w' := h.kp (Kp.of_below hk) hz
theorem Kl.set {lb db m : Nat} {w0 w : World} (h : Kl lb db m w0 w) (o : Nat) (u : Value) : Kl lb db m w0 (w.setCell ⟨lb, o, none⟩ u) := fun N h0 h1 h2 h3 => (h N h0 h1 h2 h3).setCell (p := ⟨lb, o, none⟩) h1 u
theorem Kl.trans {lb db m : Nat} {w0 w w' : World} (h : Kl lb db m w0 w) (k : Kl lb db m w w') (hz : w0.heap.size ≤ w.heap.size) : Kl lb db m w0 w' := fun N h0 h1 h2 h3 => (h N h0 h1 h2 h3).trans (k N (by omega) h1 h2 h3)

set_option maxRecDepth 100000 in
set_option maxHeartbeats 4000000 in
theorem sync_one {w : World} {lb db m g : Nat} {seg size next safe : Int} {d : Dk} (h : LgAt w lb db m g seg size next safe) (hd : DAt w db m d) (hok : d.Ok) (hs : d.steps < 4611686018427387904) (hr : (d.sync nm1).1 = 0) (hn0 : 0 ≤ next) (hn1 : next ≤ 1000000000000) :
    Calls Tryd.prog 39 #[.pointer (some ⟨lb, 0, none⟩)] w fun e w' => e = .returned (.int .i64 0) ∧ LgAt w' lb db m g seg size next (next - 1) ∧ DAt w' db m (d.sync nm1).2 ∧ Kl lb db m w w' ∧ w.heap.size ≤ w'.heap.size := by
  have hnm : nm1.size ≤ maxLen := by unfold maxLen; decide
  have HL := Lib.hid (fun wx (h : LgAt wx lb db m g seg size next safe) => last_one h)
  have HP := Lib.hid (show ∀ wx, DAt wx db m d → Calls Tryd.prog 71 #[.pointer (some ⟨db, 0, none⟩), .string nm1] wx fun e w' => e = .returned (.int .i64 0) ∧ DAt w' db m (d.sync nm1).2 ∧ Kp db m wx w' from fun wx h => by rw [← hr]; exact sync_any h hok hs hnm)
  obtain ⟨S, hS⟩ : ∃ S, nm1 = S := ⟨_, rfl⟩
  rw [hS] at HL HP ⊢
  have HDW := Lib.hid (show DAt w.drew db m d from hd.drew)
  have HLW := Lib.hid h.drew
  have c0 := h.c0
  have c4 := h.c4
  have c5 := h.c5
  have hlt := h.lt.1
  have hww : IntKind.i64.wrap (next - 1) = next - 1 := by rw [IntKind.wrap_i64]; omega
  obtain ⟨D2, hD2⟩ : ∃ D2, (d.sync S).2 = D2 := ⟨_, rfl⟩
  rw [hD2] at HP ⊢
  have hne := h.ne
  clear h hd hok hs hr hS hnm hD2
  go_enter Tryd.func39, Tryd.ntmps39
  go_upto_region 1 with fail
  go_region_held3 (fun w' => ∀ j, w'.cell? ⟨lb, j, none⟩ = w.cell? ⟨lb, j, none⟩) ((first | assumption | (intro j; rfl)))
    (first
      | (go_at_call 70; (with_reducible refine (HL.out _ HLW.out).mono ?_); rintro e w5 ⟨rfl, hb5⟩; have k5 : ∀ j, w5.cell? ⟨lb, j, none⟩ = w.cell? ⟨lb, j, none⟩ := fun j => (hb5.cell (p := ⟨lb, j, none⟩) hlt).trans rfl; have HL5 := Lib.hid (HLW.out.below hb5); have HD5 : Hid (DAt w5 db m d) := DC.below HDW.out hb5; have HK5 := Lib.hid (((Kl.refl lb db m w).below (Below.refl _ _).drew (Nat.le_refl _)).below hb5 (Nat.le_refl _)); have hz5 := hb5.size; clear hb5)
      | (go_at_call 71; (with_reducible refine (HP.out _ HD5.out).mono ?_); rintro e w6 ⟨rfl, hd6, hk6⟩; have k6 : ∀ j, w6.cell? ⟨lb, j, none⟩ = w.cell? ⟨lb, j, none⟩ := fun j => (hk6.cell (Nat.lt_of_lt_of_le hlt hz5) hne.1 hne.2.1 j).trans (k5 j); have HD6 := Lib.hid hd6; have HL6 := Lib.hid (HL5.out.kp hk6); have HK6 := Lib.hid (HK5.out.kp hk6 hz5); have hz6 := Nat.le_trans hz5 hk6.size; clear hd6 hk6))
  have f5 := HL6.out.f5
  go_wp2_with fail
  go_ret
  exact ⟨rfl, HL6.out.set5 _, DC.far HD6.out (fun e => hne.1 e.symm) (fun e => hne.2.1 e.symm) _ _, HK6.out.set _ _, by simpa using hz6⟩
end Go.Proofs.YtnpgjlhnlakgpaaDoor

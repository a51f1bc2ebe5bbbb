/- A log of one segment: where it lies; First, Next, Safe, last. A log of one segment: Sync. A log of one segment: Add. -/
import Derived.Test.YtnpgjlhnlakgpaaGreatDoorG11
import Derived.Test.YtnpgjlhnlakgpaaGreatDoorG04
import Derived.Deep.RegionHeld3
import Derived.Test.YtnpgjlhnlakgpaaGreatDoorG18
import Derived.Test.YtnpgjlhnlakgpaaGreatDoorG08
namespace Go.Proofs.YtnpgjlhnlakgpaaGreatDoor
open Go.RowKit Go.Maps

/-- A log of the one segment 1 (on the disk db, its files in the map m). -/
structure LgAt (w : World) (lb db m g : Nat) (seg size next safe : Int) : Prop where
  c0 : w.cell? ⟨lb, 0, none⟩ = some (.pointer (some ⟨db, 0, none⟩))
  c1 : w.cell? ⟨lb, 1, none⟩ = some (.int .i64 seg)
  c2 : w.cell? ⟨lb, 2, none⟩ = some (.slice (some ⟨g, 0, none⟩) 1 1)
  c3 : w.cell? ⟨lb, 3, none⟩ = some (.int .i64 size)
  c4 : w.cell? ⟨lb, 4, none⟩ = some (.int .i64 next)
  c5 : w.cell? ⟨lb, 5, none⟩ = some (.int .i64 safe)
  f3 : w.frozen? ⟨lb, 3, none⟩ = false
  f4 : w.frozen? ⟨lb, 4, none⟩ = false
  f5 : w.frozen? ⟨lb, 5, none⟩ = false
  n0 : w.cell? ⟨g, 0, none⟩ = some (.int .i64 1)
  ne : lb ≠ db ∧ lb ≠ m ∧ g ≠ db ∧ g ≠ m ∧ g ≠ lb
theorem LgAt.lt {w : World} {lb db m g : Nat} {seg size next safe : Int} (h : LgAt w lb db m g seg size next safe) : lb < w.heap.size ∧ g < w.heap.size :=
  ⟨World.block_lt_of_cell? w _ h.c0, World.block_lt_of_cell? w _ h.n0⟩
theorem LgAt.kp {w w' : World} {lb db m g : Nat} {seg size next safe : Int} (h : LgAt w lb db m g seg size next safe) (hk : Kp db m w w') : LgAt w' lb db m g seg size next safe := by
  obtain ⟨h1, h2⟩ := h.lt
  obtain ⟨n1, n2, n3, n4, n5⟩ := h.ne
  have c := fun o => hk.cell h1 n1 n2 o
  have f := fun o => hk.frozen h1 n1 n2 o
  have k := fun o => hk.cell h2 n3 n4 o
  exact ⟨(c 0).trans h.c0, (c 1).trans h.c1, (c 2).trans h.c2, (c 3).trans h.c3, (c 4).trans h.c4, (c 5).trans h.c5, (f 3).trans h.f3, (f 4).trans h.f4, (f 5).trans h.f5, (k 0).trans h.n0, h.ne⟩
theorem LgAt.below {w w' : World} {lb db m g : Nat} {seg size next safe : Int} (h : LgAt w lb db m g seg size next safe) (hB : Below w.heap.size w w') : LgAt w' lb db m g seg size next safe := h.kp (Kp.of_below hB)

set_option maxHeartbeats 2000000 in
theorem first_one {w : World} {lb db m g : Nat} {seg size next safe : Int} (h : LgAt w lb db m g seg size next safe) : Calls Tryz.prog 18 #[.pointer (some ⟨lb, 0, none⟩)] w fun e w' => e = .returned (.int .i64 1) ∧ w' = w := by
  have c2 := h.c2
  have n0 := h.n0
  clear h
  go_enter Tryz.func18, Tryz.ntmps18
  go_wp2_with fail
  go_ret
  exact ⟨rfl, rfl⟩
set_option maxHeartbeats 2000000 in
theorem next_one {w : World} {lb db m g : Nat} {seg size next safe : Int} (h : LgAt w lb db m g seg size next safe) : Calls Tryz.prog 19 #[.pointer (some ⟨lb, 0, none⟩)] w fun e w' => e = .returned (.int .i64 next) ∧ w' = w := by
  have c4 := h.c4
  clear h
  go_enter Tryz.func19, Tryz.ntmps19
  go_wp2_with fail
  go_ret
  exact ⟨rfl, rfl⟩
set_option maxHeartbeats 4000000 in
theorem last_one {w : World} {lb db m g : Nat} {seg size next safe : Int} (h : LgAt w lb db m g seg size next safe) : Calls Tryz.prog 50 #[.pointer (some ⟨lb, 0, none⟩)] w fun e w' => e = .returned (.string nm1) ∧ Below w.heap.size w w' := by
  have hgn := GW.ne (Inv := fun W => Below w.heap.size w W) (Below.refl _ w)
  have c2 : ∀ u : GW (fun W => Below w.heap.size w W), u.w.cell? ⟨lb, 2, none⟩ = some (.slice (some ⟨g, 0, none⟩) 1 1) := fun u => (h.below u.h).c2
  have n0 : ∀ u : GW (fun W => Below w.heap.size w W), u.w.cell? ⟨g, 0, none⟩ = some (.int .i64 1) := fun u => (h.below u.h).n0
  have NM : Hid (∀ u : GW (fun W => Below w.heap.size w W), Calls Tryz.prog 48 #[.int .i64 1] u.w fun e w' => e = .returned (.string nm1) ∧ Below u.w.heap.size u.w w') := fun u => name_one u.w
  obtain ⟨S, hS⟩ : ∃ S, nm1 = S := ⟨_, rfl⟩
  rw [hS] at NM ⊢
  clear h hS
  go_enter Tryz.func50, Tryz.ntmps50
  go_wp2_with fail
  refine wp_region_grow (fun W => Below w.heap.size w W) (by kernel_rfl) (by kernel_rfl) (Below.refl _ _).drew ?_
  repeat (go_big_quiet_step ((go_at_call 48; refine (NM.out _).mono ?_; rintro e w1 ⟨rfl, hb⟩; exact ⟨rfl, below_next _ hb⟩)))
  refine wpQuiet_nil ?_
  intro w4 hw'
  obtain ⟨⟨wx, h4⟩, hw''⟩ := hw'
  subst hw''
  go_wp2_with fail
  go_ret
  exact ⟨rfl, h4⟩
set_option maxHeartbeats 4000000 in
theorem safe_one {w : World} {lb db m g : Nat} {seg size next safe : Int} (h : LgAt w lb db m g seg size next safe) : Calls Tryz.prog 20 #[.pointer (some ⟨lb, 0, none⟩)] w fun e w' => e = .returned (.int .i64 (max safe 0)) ∧ Below w.heap.size w w' := by
  have hgn := GW.ne (Inv := fun W => Below w.heap.size w W) (Below.refl _ w)
  have c5 : ∀ u : GW (fun W => Below w.heap.size w W), u.w.cell? ⟨lb, 5, none⟩ = some (.int .i64 safe) := fun u => (h.below u.h).c5
  have NM : Hid (∀ u : GW (fun W => Below w.heap.size w W), Calls Tryz.prog 18 #[.pointer (some ⟨lb, 0, none⟩)] u.w fun e w' => e = .returned (.int .i64 1) ∧ Below u.w.heap.size u.w w') := fun u => (first_one (h.below u.h)).mono fun e w' ⟨h1, h2⟩ => ⟨h1, by rw [h2]; exact Below.refl _ _⟩
  clear h
  go_enter Tryz.func20, Tryz.ntmps20
  go_wp2_with fail
  refine wp_region_grow (fun W => Below w.heap.size w W) (by kernel_rfl) (by kernel_rfl) (Below.refl _ _).drew ?_
  repeat (go_big_quiet_step ((go_at_call 18; refine (NM.out _).mono ?_; rintro e w1 ⟨rfl, hb⟩; exact ⟨rfl, below_next _ hb⟩)))
  refine wpQuiet_nil ?_
  intro w4 hw'
  obtain ⟨⟨wx, h4⟩, hw''⟩ := hw'
  subst hw''
  go_wp2_with fail
  go_ret
  exact ⟨rfl, h4⟩
end Go.Proofs.YtnpgjlhnlakgpaaGreatDoor
namespace Go.Proofs.YtnpgjlhnlakgpaaGreatDoor
open Go.RowKit Go.Maps

theorem LgAt.drew {w : World} {lb db m g : Nat} {seg size next safe : Int} (h : LgAt w lb db m g seg size next safe) : LgAt w.drew lb db m g seg size next safe := h.below (Below.refl _ _).drew
theorem LgAt.set5 {w : World} {lb db m g : Nat} {seg size next safe : Int} (h : LgAt w lb db m g seg size next safe) (u : Int) : LgAt (w.setCell ⟨lb, 5, none⟩ (.int .i64 u)) lb db m g seg size next u := by
  have c : ∀ o, o ≠ 5 → (w.setCell ⟨lb, 5, none⟩ (.int .i64 u)).cell? ⟨lb, o, none⟩ = w.cell? ⟨lb, o, none⟩ := fun o ho => World.cell?_setCell_other _ _ _ _ (fun e => ho (by cases e; rfl))
  refine ⟨(c 0 (by decide)).trans h.c0, (c 1 (by decide)).trans h.c1, (c 2 (by decide)).trans h.c2, (c 3 (by decide)).trans h.c3, (c 4 (by decide)).trans h.c4, World.cell?_setCell_same _ _ _ h.c5, by rw [World.frozen?_setCell]; exact h.f3, by rw [World.frozen?_setCell]; exact h.f4, by rw [World.frozen?_setCell]; exact h.f5, ?_, h.ne⟩
  rw [World.cell?_setCell_other _ _ _ _ (fun e => by cases e)]
  exact h.n0
theorem LgAt.set4 {w : World} {lb db m g : Nat} {seg size next safe : Int} (h : LgAt w lb db m g seg size next safe) (u : Int) : LgAt (w.setCell ⟨lb, 4, none⟩ (.int .i64 u)) lb db m g seg size u safe := by
  have c : ∀ o, o ≠ 4 → (w.setCell ⟨lb, 4, none⟩ (.int .i64 u)).cell? ⟨lb, o, none⟩ = w.cell? ⟨lb, o, none⟩ := fun o ho => World.cell?_setCell_other _ _ _ _ (fun e => ho (by cases e; rfl))
  refine ⟨(c 0 (by decide)).trans h.c0, (c 1 (by decide)).trans h.c1, (c 2 (by decide)).trans h.c2, (c 3 (by decide)).trans h.c3, World.cell?_setCell_same _ _ _ h.c4, (c 5 (by decide)).trans h.c5, by rw [World.frozen?_setCell]; exact h.f3, by rw [World.frozen?_setCell]; exact h.f4, by rw [World.frozen?_setCell]; exact h.f5, ?_, h.ne⟩
  rw [World.cell?_setCell_other _ _ _ _ (fun e => by cases e)]
  exact h.n0
theorem LgAt.set3 {w : World} {lb db m g : Nat} {seg size next safe : Int} (h : LgAt w lb db m g seg size next safe) (u : Int) : LgAt (w.setCell ⟨lb, 3, none⟩ (.int .i64 u)) lb db m g seg u next safe := by
  have c : ∀ o, o ≠ 3 → (w.setCell ⟨lb, 3, none⟩ (.int .i64 u)).cell? ⟨lb, o, none⟩ = w.cell? ⟨lb, o, none⟩ := fun o ho => World.cell?_setCell_other _ _ _ _ (fun e => ho (by cases e; rfl))
  refine ⟨(c 0 (by decide)).trans h.c0, (c 1 (by decide)).trans h.c1, (c 2 (by decide)).trans h.c2, World.cell?_setCell_same _ _ _ h.c3, (c 4 (by decide)).trans h.c4, (c 5 (by decide)).trans h.c5, by rw [World.frozen?_setCell]; exact h.f3, by rw [World.frozen?_setCell]; exact h.f4, by rw [World.frozen?_setCell]; exact h.f5, ?_, h.ne⟩
  rw [World.cell?_setCell_other _ _ _ _ (fun e => by cases e)]
  exact h.n0
/-- What is kept of what lay below. -/
def Kl (lb db m : Nat) (w w' : World) : Prop := ∀ N, N ≤ w.heap.size → N ≤ lb → N ≤ db → N ≤ m → Below N w w'
theorem Kl.refl (lb db m : Nat) (w : World) : Kl lb db m w w := fun _ _ _ _ _ => Below.refl _ _
theorem Kl.kp {lb db m : Nat} {w0 w w' : World} (h : Kl lb db m w0 w) (hk : Kp db m w w') (hz : w0.heap.size ≤ w.heap.size) : Kl lb db m w0 w' := fun N h0 h1 h2 h3 => Kp.belowN (h N h0 h1 h2 h3) hk (by omega) h2 h3
theorem Kl.below {lb db m : Nat} {w0 w w' : World} (h : Kl lb db m w0 w) (hk : Below w.heap.size w w') (hz : w0.heap.size ≤ w.heap.size) : Kl lb db m w0 w' := h.kp (Kp.of_below hk) hz
theorem Kl.set {lb db m : Nat} {w0 w : World} (h : Kl lb db m w0 w) (o : Nat) (u : Value) : Kl lb db m w0 (w.setCell ⟨lb, o, none⟩ u) := fun N h0 h1 h2 h3 => (h N h0 h1 h2 h3).setCell (p := ⟨lb, o, none⟩) h1 u
theorem Kl.trans {lb db m : Nat} {w0 w w' : World} (h : Kl lb db m w0 w) (k : Kl lb db m w w') (hz : w0.heap.size ≤ w.heap.size) : Kl lb db m w0 w' := fun N h0 h1 h2 h3 => (h N h0 h1 h2 h3).trans (k N (by omega) h1 h2 h3)

set_option maxRecDepth 100000 in
set_option maxHeartbeats 4000000 in
theorem sync_one {w : World} {lb db m g : Nat} {seg size next safe : Int} {d : Dk} (h : LgAt w lb db m g seg size next safe) (hd : DAt w db m d) (hok : d.Ok) (hs : d.steps < 4611686018427387904) (hr : (d.sync nm1).1 = 0) (hn0 : 0 ≤ next) (hn1 : next ≤ 1000000000000) :
    Calls Tryz.prog 22 #[.pointer (some ⟨lb, 0, none⟩)] w fun e w' => e = .returned (.int .i64 0) ∧ LgAt w' lb db m g seg size next (next - 1) ∧ DAt w' db m (d.sync nm1).2 ∧ Kl lb db m w w' ∧ w.heap.size ≤ w'.heap.size := by
  have hnm : nm1.size ≤ maxLen := by unfold maxLen; decide
  have HL := Lib.hid (fun wx (h : LgAt wx lb db m g seg size next safe) => last_one h)
  have HP := Lib.hid (show ∀ wx, DAt wx db m d → Calls Tryz.prog 51 #[.pointer (some ⟨db, 0, none⟩), .string nm1] wx fun e w' => e = .returned (.int .i64 0) ∧ DAt w' db m (d.sync nm1).2 ∧ Kp db m wx w' from fun wx h => by rw [← hr]; exact sync_any h hok hs hnm)
  obtain ⟨S, hS⟩ : ∃ S, nm1 = S := ⟨_, rfl⟩
  rw [hS] at HL HP ⊢
  have HDW := Lib.hid (show DAt w.drew db m d from hd.drew)
  have HLW := Lib.hid h.drew
  have c0 := h.c0
  have c4 := h.c4
  have c5 := h.c5
  have hlt := h.lt.1
  have hww : IntKind.i64.wrap (next - 1) = next - 1 := by rw [IntKind.wrap_i64]; omega
  obtain ⟨D2, hD2⟩ : ∃ D2, (d.sync S).2 = D2 := ⟨_, rfl⟩
  rw [hD2] at HP ⊢
  have hne := h.ne
  clear h hd hok hs hr hS hnm hD2
  go_enter Tryz.func22, Tryz.ntmps22
  go_upto_region 1 with fail
  go_region_held3 (fun w' => ∀ j, w'.cell? ⟨lb, j, none⟩ = w.cell? ⟨lb, j, none⟩) ((first | assumption | (intro j; rfl)))
    (first
      | (go_at_call 50; (with_reducible refine (HL.out _ HLW.out).mono ?_); rintro e w5 ⟨rfl, hb5⟩; have k5 : ∀ j, w5.cell? ⟨lb, j, none⟩ = w.cell? ⟨lb, j, none⟩ := fun j => (hb5.cell (p := ⟨lb, j, none⟩) hlt).trans rfl; have HL5 := Lib.hid (HLW.out.below hb5); have HD5 : Hid (DAt w5 db m d) := DC.below HDW.out hb5; have HK5 := Lib.hid (((Kl.refl lb db m w).below (Below.refl _ _).drew (Nat.le_refl _)).below hb5 (Nat.le_refl _)); have hz5 := hb5.size; clear hb5)
      | (go_at_call 51; (with_reducible refine (HP.out _ HD5.out).mono ?_); rintro e w6 ⟨rfl, hd6, hk6⟩; have k6 : ∀ j, w6.cell? ⟨lb, j, none⟩ = w.cell? ⟨lb, j, none⟩ := fun j => (hk6.cell (Nat.lt_of_lt_of_le hlt hz5) hne.1 hne.2.1 j).trans (k5 j); have HD6 := Lib.hid hd6; have HL6 := Lib.hid (HL5.out.kp hk6); have HK6 := Lib.hid (HK5.out.kp hk6 hz5); have hz6 := Nat.le_trans hz5 hk6.size; clear hd6 hk6))
  have f5 := HL6.out.f5
  go_wp2_with fail
  go_ret
  exact ⟨rfl, HL6.out.set5 _, DC.far HD6.out (fun e => hne.1 e.symm) (fun e => hne.2.1 e.symm) _ _, HK6.out.set _ _, by simpa using hz6⟩
end Go.Proofs.YtnpgjlhnlakgpaaGreatDoor
namespace Go.Proofs.YtnpgjlhnlakgpaaGreatDoor
open Go.RowKit Go.Maps

theorem LgAt.drewN {w : World} {lb db m g n : Nat} {seg size next safe : Int} (h : LgAt w lb db m g seg size next safe) : LgAt (w.drewN n) lb db m g seg size next safe := h.kp ((Kp.refl db m w).drewN)

set_option maxRecDepth 100000 in
set_option maxHeartbeats 8000000 in
theorem add_one {w : World} {lb db m g : Nat} {seg size next safe : Int} {d : Dk} (r : ByteArray) (hrs : r.size ≤ 65536) (h : LgAt w lb db m g seg size next safe) (hd : DAt w db m d) (hok : d.Ok) (hs : d.steps < 4611686018427387904) (hr : (d.append nm1 (bs (frameN r.data.toList))).1 = 0)
    (hn0 : 0 ≤ next) (hn1 : next ≤ 999999999999) (hz0 : 0 ≤ size) (hz1 : size < seg) (hz2 : seg ≤ 65536) :
    Calls Tryz.prog 21 #[.pointer (some ⟨lb, 0, none⟩), .string r] w fun e w' => e = .returned (.int .i64 0) ∧ LgAt w' lb db m g seg (size + ((bs (frameN r.data.toList)).size : Int)) (next + 1) safe ∧ DAt w' db m (d.append nm1 (bs (frameN r.data.toList))).2 ∧ Kl lb db m w w' ∧ w.heap.size ≤ w'.heap.size := by
  have hnm : nm1.size ≤ maxLen := by unfold maxLen; decide
  have HFR := Lib.hid (frame_any r w (by omega))
  rw [if_neg (show ¬ 65536 < r.size by omega)] at HFR
  have hfz : (bs (frameN r.data.toList)).size = r.size + 12 := by rw [bs_size, frame_len]; rfl
  obtain ⟨F, hF⟩ : ∃ F, bs (frameN r.data.toList) = F := ⟨_, rfl⟩
  rw [hF] at HFR hr hfz ⊢
  have hFm : F.size ≤ maxLen := by unfold maxLen; omega
  have HL := Lib.hid (fun wx (h : LgAt wx lb db m g seg size next safe) => last_one h)
  have HP := Lib.hid (show ∀ wx, DAt wx db m d → Calls Tryz.prog 30 #[.pointer (some ⟨db, 0, none⟩), .string nm1, .string F] wx fun e w' => e = .returned (.int .i64 0) ∧ DAt w' db m (d.append nm1 F).2 ∧ Kp db m wx w' from fun wx h => by rw [← hr]; exact append_any h hok hs hnm hFm)
  obtain ⟨S, hS⟩ : ∃ S, nm1 = S := ⟨_, rfl⟩
  rw [hS] at HL HP ⊢
  obtain ⟨D2, hD2⟩ : ∃ D2, (d.append S F).2 = D2 := ⟨_, rfl⟩
  rw [hD2] at HP ⊢
  have hne := h.ne
  have HLG := Lib.hid h
  have HDD := Lib.hid hd
  have hl0 := h.lt.1
  have hsz : ¬ seg ≤ size := by omega
  have hnx : ¬ (999999999999 : Int) < next := by omega
  have hwn : IntKind.i64.wrap (next + 1) = next + 1 := by rw [IntKind.wrap_i64]; omega
  have hws : IntKind.i64.wrap (size + (F.size : Int)) = size + (F.size : Int) := by rw [IntKind.wrap_i64]; omega
  clear h hd hok hs hr hS hnm hD2 hF hFm hfz hrs
  go_enter Tryz.func21, Tryz.ntmps21
  go_upto_region 2 with (first
    | (go_at_call 14; refine HFR.out.mono ?_; rintro e w2 ⟨rfl, hb⟩; have HL2 := Lib.hid (HLG.out.below hb); have HD2 : Hid (DAt w2 db m d) := DC.below HDD.out hb; have HK2 := Lib.hid ((Kl.refl lb db m w).below hb (Nat.le_refl _)); have hy2 := hb.size; clear hb)
    | fail)
  have c0 := HL2.out.c0
  have c1 := HL2.out.c1
  have c3 := HL2.out.c3
  have c4 := HL2.out.c4
  have c5 := HL2.out.c5
  have hl2 := HL2.out.lt.1
  go_upto_region 4 with fail
  go_quiet (fail)
  have HL3 := Lib.hid (HL2.out.drewN (n := nq))
  have HD3 : Hid (DAt (w2.drewN nq) db m d) := HD2.out.drewN
  have HK3 := Lib.hid (HK2.out.kp ((Kp.refl db m w2).drewN (n := nq)) hy2)
  have hy3 : w.heap.size ≤ (w2.drewN nq).heap.size := hy2
  have c0 := HL3.out.c0
  have c3 := HL3.out.c3
  have c4 := HL3.out.c4
  have c5 := HL3.out.c5
  have hl3 := HL3.out.lt.1
  generalize w2.drewN nq = w3 at *
  clear HL2 HD2 HK2 hy2 hl2
  go_upto_region 12 with fail
  have HLW := Lib.hid HL3.out.drew
  have HDW : Hid (DAt w3.drew db m d) := HD3.out.drew
  go_region_held3 (fun w' => ∀ j, w'.cell? ⟨lb, j, none⟩ = w3.cell? ⟨lb, j, none⟩) ((first | assumption | (intro j; rfl)))
    (first
      | (go_at_call 50; (with_reducible refine (HL.out _ HLW.out).mono ?_); rintro e w5 ⟨rfl, hb5⟩; have k5 : ∀ j, w5.cell? ⟨lb, j, none⟩ = w3.cell? ⟨lb, j, none⟩ := fun j => (hb5.cell (p := ⟨lb, j, none⟩) hl3).trans rfl; have HL5 := Lib.hid (HLW.out.below hb5); have HD5 : Hid (DAt w5 db m d) := DC.below HDW.out hb5; have HK5 := Lib.hid ((HK3.out.below (Below.refl _ _).drew hy3).below hb5 hy3); have hz5 : w3.heap.size ≤ w5.heap.size := hb5.size; clear hb5)
      | (go_at_call 30; (with_reducible refine (HP.out _ HD5.out).mono ?_); rintro e w6 ⟨rfl, hd6, hk6⟩; have k6 : ∀ j, w6.cell? ⟨lb, j, none⟩ = w3.cell? ⟨lb, j, none⟩ := fun j => (hk6.cell (Nat.lt_of_lt_of_le hl3 hz5) hne.1 hne.2.1 j).trans (k5 j); have HD6 := Lib.hid hd6; have HL6 := Lib.hid (HL5.out.kp hk6); have HK6 := Lib.hid (HK5.out.kp hk6 (Nat.le_trans hy3 hz5)); have hz6 := Nat.le_trans (Nat.le_trans hy3 hz5) hk6.size; clear hd6 hk6))
  have f3 := HL6.out.f3
  have f4 := HL6.out.f4
  go_wp2_with fail
  go_ret
  exact ⟨rfl, (HL6.out.set3 _).set4 _, DC.far (DC.far HD6.out (fun e => hne.1 e.symm) (fun e => hne.2.1 e.symm) _ _) (fun e => hne.1 e.symm) (fun e => hne.2.1 e.symm) _ _, (HK6.out.set _ _).set _ _, by simpa using hz6⟩
end Go.Proofs.YtnpgjlhnlakgpaaGreatDoor

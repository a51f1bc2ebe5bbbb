/- A log of one segment: where it lies; First, Next, Safe, last. -/
import Derived.Test.YtnpgjlhnlakgpaaDoorWalN
import Derived.Test.YtnpgjlhnlakgpaaDoorG04
namespace Go.Proofs.YtnpgjlhnlakgpaaDoor
open Go.RowKit Go.Maps

/-- A log of the one segment 1 (on the disk db, its files in the map m). -/
structure LgAt (w : World) (lb db m g : Nat) (seg size next safe : Int) : Prop where
  c0 : w.cell? ⟨lb, 0, none⟩ = some (.pointer (some ⟨db, 0, none⟩))
  c1 : w.cell? ⟨lb, 1, none⟩ = some (.int .i64 seg)
  c2 : w.cell? ⟨lb, 2, none⟩ = some (.slice (some ⟨g, 0, none⟩) 1 1)
  c3 : w.cell? ⟨lb, 3, none⟩ = some (.int .i64 size)
  c4 : w.cell? ⟨lb, 4, none⟩ = some (.int .i64 next)
  c5 : w.cell? ⟨lb, 5, none⟩ = some (.int .i64 safe)
  f3 : w.frozen? ⟨lb, 3, none⟩ = false
  f4 : w.frozen? ⟨lb, 4, none⟩ = false
  f5 : w.frozen? ⟨lb, 5, none⟩ = false
  n0 : w.cell? ⟨g, 0, none⟩ = some (.int .i64 1)
  ne : lb ≠ db ∧ lb ≠ m ∧ g ≠ db ∧ g ≠ m ∧ g ≠ lb
theorem LgAt.lt {w : World} {lb db m g : Nat} {seg size next safe : Int} (h : LgAt w lb db m g seg size next safe) : lb < w.heap.size ∧ g < w.heap.size :=
  ⟨World.block_lt_of_cell? w _ h.c0, World.block_lt_of_cell? w _ h.n0⟩
theorem LgAt.kp {w w' : World} {lb db m g : Nat} {seg size next safe : Int} (h : LgAt w lb db m g seg size next safe) (hk : Kp db m w w') : LgAt w' lb db m g seg size next safe := by
  obtain ⟨h1, h2⟩ := h.lt
  obtain ⟨n1, n2, n3, n4, n5⟩ := h.ne
  have c := fun o => hk.cell h1 n1 n2 o
  have f := fun o => hk.frozen h1 n1 n2 o
  have k := fun o => hk.cell h2 n3 n4 o
  exact ⟨(c 0).trans h.c0, (c 1).trans h.c1, (c 2).trans h.c2, (c 3).trans h.c3, (c 4).trans h.c4, (c 5).trans h.c5, (f 3).trans h.f3, (f 4).trans h.f4, (f 5).trans h.f5, (k 0).trans h.n0, h.ne⟩
theorem LgAt.below {w w' : World} {lb db m g : Nat} {seg size next safe : Int} (h : LgAt w lb db m g seg size next safe) (hB : Below w.heap.size w w') : LgAt w' lb db m g seg size next safe := h.kp (Kp.of_below hB)

set_option maxHeartbeats 2000000 in
theorem first_one {w : World} {lb db m g : Nat} {seg size next safe : Int} (h : LgAt w lb db m g seg size next safe) : Calls Tryd.prog 41 #[.pointer (some ⟨lb, 0, none⟩)] w fun e w' => e = .returned (.int .i64 1) ∧ w' = w := by
  have c2 := h.c2
  have n0 := h.n0
  clear h
  go_enter Tryd.func41, Tryd.ntmps41
  go_wp2_with fail
  go_ret
  exact ⟨rfl, rfl⟩
set_option maxHeartbeats 2000000 in
theorem next_one {w : World} {lb db m g : Nat} {seg size next safe : Int} (h : LgAt w lb db m g seg size next safe) : Calls Tryd.prog 44 #[.pointer (some ⟨lb, 0, none⟩)] w fun e w' => e = .returned (.int .i64 next) ∧ w' = w := by
  have c4 := h.c4
  clear h
  go_enter Tryd.func44, Tryd.ntmps44
  go_wp2_with fail
  go_ret
  exact ⟨rfl, rfl⟩
set_option maxHeartbeats 4000000 in
theorem last_one {w : World} {lb db m g : Nat} {seg size next safe : Int} (h : LgAt w lb db m g seg size next safe) : Calls Tryd.prog 70 #[.pointer (some ⟨lb, 0, none⟩)] w fun e w' => e = .returned (.string nm1) ∧ Below w.heap.size w w' := by
  have hgn := GW.ne (Inv := fun W => Below w.heap.size w W) (Below.refl _ w)
  have c2 : ∀ u : GW (fun W => Below w.heap.size w W), u.w.cell? ⟨lb, 2, none⟩ = some (.slice (some ⟨g, 0, none⟩) 1 1) := fun u => (h.below u.h).c2
  have n0 : ∀ u : GW (fun W => Below w.heap.size w W), u.w.cell? ⟨g, 0, none⟩ = some (.int .i64 1) := fun u => (h.below u.h).n0
  have NM : Hid (∀ u : GW (fun W => Below w.heap.size w W), Calls Tryd.prog 67 #[.int .i64 1] u.w fun e w' => e = .returned (.string nm1) ∧ Below u.w.heap.size u.w w') := fun u => name_one u.w
  obtain ⟨S, hS⟩ : ∃ S, nm1 = S := ⟨_, rfl⟩
  rw [hS] at NM ⊢
  clear h hS
  go_enter Tryd.func70, Tryd.ntmps70
  go_wp2_with fail
  refine wp_region_grow (fun W => Below w.heap.size w W) (by kernel_rfl) (by kernel_rfl) (Below.refl _ _).drew ?_
  repeat (go_big_quiet_step ((go_at_call 67; refine (NM.out _).mono ?_; rintro e w1 ⟨rfl, hb⟩; exact ⟨rfl, below_next _ hb⟩)))
  refine wpQuiet_nil ?_
  intro w4 hw'
  obtain ⟨⟨wx, h4⟩, hw''⟩ := hw'
  subst hw''
  go_wp2_with fail
  go_ret
  exact ⟨rfl, h4⟩
set_option maxHeartbeats 4000000 in
theorem safe_one {w : World} {lb db m g : Nat} {seg size next safe : Int} (h : LgAt w lb db m g seg size next safe) : Calls Tryd.prog 47 #[.pointer (some ⟨lb, 0, none⟩)] w fun e w' => e = .returned (.int .i64 (max safe 0)) ∧ Below w.heap.size w w' := by
  have hgn := GW.ne (Inv := fun W => Below w.heap.size w W) (Below.refl _ w)
  have c5 : ∀ u : GW (fun W => Below w.heap.size w W), u.w.cell? ⟨lb, 5, none⟩ = some (.int .i64 safe) := fun u => (h.below u.h).c5
  have NM : Hid (∀ u : GW (fun W => Below w.heap.size w W), Calls Tryd.prog 41 #[.pointer (some ⟨lb, 0, none⟩)] u.w fun e w' => e = .returned (.int .i64 1) ∧ Below u.w.heap.size u.w w') := fun u => (first_one (h.below u.h)).mono fun e w' ⟨h1, h2⟩ => ⟨h1, by rw [h2]; exact Below.refl _ _⟩
  clear h
  go_enter Tryd.func47, Tryd.ntmps47
  go_wp2_with fail
  refine wp_region_grow (fun W => Below w.heap.size w W) (by kernel_rfl) (by kernel_rfl) (Below.refl _ _).drew ?_
  repeat (go_big_quiet_step ((go_at_call 41; refine (NM.out _).mono ?_; rintro e w1 ⟨rfl, hb⟩; exact ⟨rfl, below_next _ hb⟩)))
  refine wpQuiet_nil ?_
  intro w4 hw'
  obtain ⟨⟨wx, h4⟩, hw''⟩ := hw'
  subst hw''
  go_wp2_with fail
  go_ret
  exact ⟨rfl, h4⟩
end Go.Proofs.YtnpgjlhnlakgpaaDoor

/- Open of a disk without files: a log that stands. -/
import Derived.Test.YtnpgjlhnlakgpaaGreatDoorWalI
import Derived.Test.YtnpgjlhnlakgpaaGreatDoorWalAd
namespace Go.Proofs.YtnpgjlhnlakgpaaGreatDoor
open Go.RowKit Go.Maps

theorem nm1_name : nm1 = nameN 1 := by kernel_rfl
def lg0 (seg : Nat) : Lg := ⟨seg, [1], 0, 1, 0⟩
theorem open_fresh {B : Nat} {w : World} {db m : Nat} {d : Dk} (h : DAt w db m d) (hok : d.Ok) (hs : d.steps < 4611686018427387904) (ho : d.off = false) (hL : d.L = []) (seg : Nat) (h1 : 1 ≤ seg) (h2 : seg ≤ 65536) (hr : (d.create (nameN 1)).1 = 0) (hp : PowB B w) (hb : B ≤ db ∧ B ≤ m ∧ B ≤ w.heap.size) :
    Calls Tryz.prog 17 #[.pointer (some ⟨db, 0, none⟩), .int .i64 (seg : Int)] w fun e w' => ∃ lb g, e = .returned (.tuple #[.pointer (some ⟨lb, 0, none⟩), .int .i64 0]) ∧ LgW w' B lb db m g (lg0 seg) ∧ DAt w' db m (d.create (nameN 1)).2 ∧ w.heap.size ≤ lb ∧ Kp db m w w' := by
  rw [← nm1_name] at hr ⊢
  refine (open_new2 h hok hs ho hL (seg : Int) (by omega) (by omega) hr).mono ?_
  rintro e w' ⟨lb, g, rfl, hl, hd, hz, hk, f2, fg, hgw⟩
  obtain ⟨b1, b2, b3⟩ := hb
  have hB := Kp.belowN (Below.refl B w) hk b3 b1 b2
  have hg : g < w'.heap.size := hl.lt.2
  have hgB : B ≤ g := by omega
  exact ⟨lb, g, rfl, ⟨hl.c0, hl.c1, ⟨0, 1, hl.c2, ⟨⟨_, Array.getElem?_eq_getElem hg⟩, fun i n hi => by
      match i, hi with
      | 0, hi => cases hi; exact hl.n0, fun i hi => by
      obtain rfl : i = 0 := by omega
      exact ⟨by rw [Nat.zero_add, hl.n0]; rfl, fg⟩, Nat.le_refl 1, by unfold maxLen; decide⟩⟩, hl.c3, hl.c4, hl.c5, f2, hl.f3, hl.f4, hl.f5, hl.ne, ⟨by omega, b1, b2, hgB, Nat.le_trans b3 hk.size⟩, hp.on hB⟩, hd, hz, hk⟩
end Go.Proofs.YtnpgjlhnlakgpaaGreatDoor

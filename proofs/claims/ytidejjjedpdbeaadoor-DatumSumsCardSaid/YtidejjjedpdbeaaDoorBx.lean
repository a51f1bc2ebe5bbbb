/- Blocks of three cells: what they hold, through calls and stores. -/
import Derived.Test.YtidejjjedpdbeaaDoorNumNeg
import Derived.Test.YtidejjjedpdbeaaDoorQuo
import Derived.Deep.RegionHeld
namespace Go.Proofs.YtidejjjedpdbeaaDoor
open Go.RowKit

theorem asDecR_bd (d : Dt) (x0 : -9223372036854775808 ≤ d.i) (x1 : d.i < 9223372036854775808) : -9223372036854775808 ≤ (asDecR d).1.i ∧ (asDecR d).1.i < 9223372036854775808 := by
  unfold asDecR
  split
  · exact ⟨x0, x1⟩
  · unfold decI
    split
    · rename_i h
      unfold room at h
      simp only [Bool.and_eq_true, decide_eq_true_eq] at h
      exact h
    · simp


/-- A block of three cells that can be written. -/
structure Bx (W : World) (n : Nat) (x y z : Value) : Prop where
  c0 : W.cell? ⟨n, 0, none⟩ = some x
  c1 : W.cell? ⟨n, 1, none⟩ = some y
  c2 : W.cell? ⟨n, 2, none⟩ = some z
  f0 : W.frozen? ⟨n, 0, none⟩ = false
  f1 : W.frozen? ⟨n, 1, none⟩ = false
  f2 : W.frozen? ⟨n, 2, none⟩ = false
  lt : n < W.heap.size
theorem Bx.below {W W' : World} {n : Nat} {x y z : Value} (h : Bx W n x y z) (hb : Below W.heap.size W W') : Bx W' n x y z := by
  refine ⟨?_, ?_, ?_, ?_, ?_, ?_, ?_⟩
  · rw [hb.cell (p := ⟨n, 0, none⟩) h.lt]; exact h.c0
  · rw [hb.cell (p := ⟨n, 1, none⟩) h.lt]; exact h.c1
  · rw [hb.cell (p := ⟨n, 2, none⟩) h.lt]; exact h.c2
  · rw [hb.frozen (p := ⟨n, 0, none⟩) h.lt]; exact h.f0
  · rw [hb.frozen (p := ⟨n, 1, none⟩) h.lt]; exact h.f1
  · rw [hb.frozen (p := ⟨n, 2, none⟩) h.lt]; exact h.f2
  · have := hb.size; have := h.lt; omega
theorem Bx.new (W : World) (x y z : Value) (t : TypeId) : Bx (W.alloc (.cells #[x, y, z] t)) W.heap.size x y z := by
  refine ⟨?_, ?_, ?_, ?_, ?_, ?_, ?_⟩
  · rw [World.cell?_alloc_new]; rfl
  · rw [World.cell?_alloc_new]; rfl
  · rw [World.cell?_alloc_new]; rfl
  · exact World.frozen?_alloc_new ..
  · exact World.frozen?_alloc_new ..
  · exact World.frozen?_alloc_new ..
  · simp
theorem Bx.alloc {W : World} {n : Nat} {x y z : Value} (h : Bx W n x y z) (o : Obj) : Bx (W.alloc o) n x y z := h.below ((Below.refl _ _).alloc (Nat.le_refl _) o)
theorem Bx.drew {W : World} {n : Nat} {x y z : Value} (h : Bx W n x y z) : Bx W.drew n x y z := h.below (Below.refl _ _).drew
theorem Bx.three (w : World) (x y z x' y' z' x'' y'' z'' : Value) (t u v : TypeId) :
    Bx (((w.alloc (.cells #[x, y, z] t)).alloc (.cells #[x', y', z'] u)).alloc (.cells #[x'', y'', z''] v)) w.heap.size x y z ∧
    Bx (((w.alloc (.cells #[x, y, z] t)).alloc (.cells #[x', y', z'] u)).alloc (.cells #[x'', y'', z''] v)) (w.heap.size + 1) x' y' z' ∧
    Bx (((w.alloc (.cells #[x, y, z] t)).alloc (.cells #[x', y', z'] u)).alloc (.cells #[x'', y'', z''] v)) (w.heap.size + 1 + 1) x'' y'' z'' := by
  refine ⟨((Bx.new w x y z t).alloc _).alloc _, ?_, ?_⟩
  · have := (Bx.new (w.alloc (.cells #[x, y, z] t)) x' y' z' u).alloc (.cells #[x'', y'', z''] v)
    rwa [World.size_alloc] at this
  · have := Bx.new ((w.alloc (.cells #[x, y, z] t)).alloc (.cells #[x', y', z'] u)) x'' y'' z'' v
    rwa [World.size_alloc, World.size_alloc] at this
theorem Bx.store {W : World} {n : Nat} {x y z : Value} (h : Bx W n x y z) (x' y' z' : Value) : Bx (((W.setCell ⟨n, 0, none⟩ x').setCell ⟨n, 1, none⟩ y').setCell ⟨n, 2, none⟩ z') n x' y' z' := by
  have n01 : (⟨n, 1, none⟩ : Addr) ≠ ⟨n, 0, none⟩ := by simp
  have n02 : (⟨n, 2, none⟩ : Addr) ≠ ⟨n, 0, none⟩ := by simp
  have n12 : (⟨n, 2, none⟩ : Addr) ≠ ⟨n, 1, none⟩ := by simp
  refine ⟨?_, ?_, ?_, ?_, ?_, ?_, ?_⟩
  · rw [World.cell?_setCell_other (h := n02), World.cell?_setCell_other (h := n01)]; exact World.cell?_setCell_same _ _ _ h.c0
  · rw [World.cell?_setCell_other (h := n12)]; exact World.cell?_setCell_same _ _ _ (by rw [World.cell?_setCell_other (h := n01.symm)]; exact h.c1)
  · exact World.cell?_setCell_same _ _ _ (by rw [World.cell?_setCell_other (h := n12.symm), World.cell?_setCell_other (h := n02.symm)]; exact h.c2)
  · simp only [World.frozen?_setCell]; exact h.f0
  · simp only [World.frozen?_setCell]; exact h.f1
  · simp only [World.frozen?_setCell]; exact h.f2
  · simp only [World.size_setCell]; exact h.lt
theorem Bx.far {W : World} {n m : Nat} {x y z : Value} (h : Bx W n x y z) (hm : m ≠ n) (x' y' z' : Value) : Bx (((W.setCell ⟨m, 0, none⟩ x').setCell ⟨m, 1, none⟩ y').setCell ⟨m, 2, none⟩ z') n x y z := by
  refine ⟨?_, ?_, ?_, ?_, ?_, ?_, ?_⟩
  · rw [World.cell?_setCell_far _ _ _ _ hm, World.cell?_setCell_far _ _ _ _ hm, World.cell?_setCell_far _ _ _ _ hm]; exact h.c0
  · rw [World.cell?_setCell_far _ _ _ _ hm, World.cell?_setCell_far _ _ _ _ hm, World.cell?_setCell_far _ _ _ _ hm]; exact h.c1
  · rw [World.cell?_setCell_far _ _ _ _ hm, World.cell?_setCell_far _ _ _ _ hm, World.cell?_setCell_far _ _ _ _ hm]; exact h.c2
  · simp only [World.frozen?_setCell]; exact h.f0
  · simp only [World.frozen?_setCell]; exact h.f1
  · simp only [World.frozen?_setCell]; exact h.f2
  · simp only [World.size_setCell]; exact h.lt
theorem below_store3 {m : Nat} {w W : World} (h : Below m w W) {n : Nat} (hn : m ≤ n) (x y z : Value) : Below m w (((W.setCell ⟨n, 0, none⟩ x).setCell ⟨n, 1, none⟩ y).setCell ⟨n, 2, none⟩ z) :=
  ((h.setCell (p := ⟨n, 0, none⟩) hn x).setCell (p := ⟨n, 1, none⟩) hn y).setCell (p := ⟨n, 2, none⟩) hn z
end Go.Proofs.YtidejjjedpdbeaaDoor

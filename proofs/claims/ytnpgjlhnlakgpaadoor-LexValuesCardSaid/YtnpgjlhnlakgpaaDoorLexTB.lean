/- A token's block in memory. -/
import Derived.Test.YtnpgjlhnlakgpaaDoorLexF5
namespace Go.Proofs.YtnpgjlhnlakgpaaDoor
open Go.RowKit

/-- A block of six cells that can be written. -/
structure TB6 (w : World) (n : Nat) (x0 x1 x2 x3 x4 x5 : Value) : Prop where
  c : w.cell? ⟨n, 0, none⟩ = some x0 ∧ w.cell? ⟨n, 1, none⟩ = some x1 ∧ w.cell? ⟨n, 2, none⟩ = some x2 ∧ w.cell? ⟨n, 3, none⟩ = some x3 ∧ w.cell? ⟨n, 4, none⟩ = some x4 ∧ w.cell? ⟨n, 5, none⟩ = some x5
  f : w.frozen? ⟨n, 0, none⟩ = false ∧ w.frozen? ⟨n, 1, none⟩ = false ∧ w.frozen? ⟨n, 2, none⟩ = false ∧ w.frozen? ⟨n, 3, none⟩ = false ∧ w.frozen? ⟨n, 4, none⟩ = false ∧ w.frozen? ⟨n, 5, none⟩ = false
theorem TB6.lt {w : World} {n : Nat} {x0 x1 x2 x3 x4 x5 : Value} (h : TB6 w n x0 x1 x2 x3 x4 x5) : n < w.heap.size := World.block_lt_of_cell? w _ h.c.1
theorem TB6.of_block {w w' : World} {n : Nat} {x0 x1 x2 x3 x4 x5 : Value} (h : TB6 w n x0 x1 x2 x3 x4 x5) (h1 : w'.heap[n]? = w.heap[n]?) : TB6 w' n x0 x1 x2 x3 x4 x5 := by
  have hc : ∀ o, w'.cell? ⟨n, o, none⟩ = w.cell? ⟨n, o, none⟩ := fun o => World.cell?_of_block (w := w) h1
  have hf : ∀ o, w'.frozen? ⟨n, o, none⟩ = w.frozen? ⟨n, o, none⟩ := fun o => World.frozen?_of_block (w := w) h1
  obtain ⟨⟨a0, a1, a2, a3, a4, a5⟩, b0, b1, b2, b3, b4, b5⟩ := h
  exact ⟨⟨by rw [hc]; exact a0, by rw [hc]; exact a1, by rw [hc]; exact a2, by rw [hc]; exact a3, by rw [hc]; exact a4, by rw [hc]; exact a5⟩, by rw [hf]; exact b0, by rw [hf]; exact b1, by rw [hf]; exact b2, by rw [hf]; exact b3, by rw [hf]; exact b4, by rw [hf]; exact b5⟩
theorem TB6.kept {w w' : World} {b n : Nat} {x0 x1 x2 x3 x4 x5 : Value} (h : TB6 w n x0 x1 x2 x3 x4 x5) (hk : K1 b w w') (hn : n ≠ b) : TB6 w' n x0 x1 x2 x3 x4 x5 := h.of_block (hk.block n h.lt hn)
theorem TB6.new (w : World) (x0 x1 x2 x3 x4 x5 : Value) (t : TypeId) : TB6 (w.alloc (.cells #[x0, x1, x2, x3, x4, x5] t)) w.heap.size x0 x1 x2 x3 x4 x5 := by
  have hc : ∀ o, (w.alloc (.cells #[x0, x1, x2, x3, x4, x5] t)).cell? ⟨w.heap.size, o, none⟩ = (#[x0, x1, x2, x3, x4, x5] : Array Value)[o]? := fun o => World.cell?_alloc_new _ _ _ _
  have hf : ∀ o, (w.alloc (.cells #[x0, x1, x2, x3, x4, x5] t)).frozen? ⟨w.heap.size, o, none⟩ = false := fun o => World.frozen?_alloc_new ..
  exact ⟨⟨hc 0, hc 1, hc 2, hc 3, hc 4, hc 5⟩, hf 0, hf 1, hf 2, hf 3, hf 4, hf 5⟩
theorem TB6.alloc {w : World} {n : Nat} {x0 x1 x2 x3 x4 x5 : Value} (h : TB6 w n x0 x1 x2 x3 x4 x5) (o : Obj) : TB6 (w.alloc o) n x0 x1 x2 x3 x4 x5 := h.of_block (Below.heap_alloc w o n h.lt)
theorem TB6.far {w : World} {n : Nat} {x0 x1 x2 x3 x4 x5 : Value} (h : TB6 w n x0 x1 x2 x3 x4 x5) {j : Nat} (hj : n ≠ j) (o : Nat) (u : Value) : TB6 (w.setCell ⟨j, o, none⟩ u) n x0 x1 x2 x3 x4 x5 := h.of_block (Below.heap_setCell _ _ _ _ hj)
theorem cell_far {w : World} {n i j : Nat} {u v : Value} (hij : i ≠ j) (h : w.cell? ⟨n, j, none⟩ = some v) : (w.setCell ⟨n, i, none⟩ u).cell? ⟨n, j, none⟩ = some v := by
  have hne : (⟨n, i, none⟩ : Addr) ≠ ⟨n, j, none⟩ := fun e => hij (Addr.mk.inj e).2.1
  rw [World.cell?_setCell_other (h := hne)]; exact h
theorem cell_own {w : World} {n i : Nat} {u v : Value} (h : w.cell? ⟨n, i, none⟩ = some v) : (w.setCell ⟨n, i, none⟩ u).cell? ⟨n, i, none⟩ = some u := World.cell?_setCell_same _ _ _ h
theorem froz_far {w : World} {n i j : Nat} {u : Value} {x : Bool} (h : w.frozen? ⟨n, j, none⟩ = x) : (w.setCell ⟨n, i, none⟩ u).frozen? ⟨n, j, none⟩ = x := by rw [World.frozen?_setCell]; exact h
theorem TB6.set0 {w : World} {n : Nat} {x0 x1 x2 x3 x4 x5 : Value} (h : TB6 w n x0 x1 x2 x3 x4 x5) (y : Value) : TB6 (w.setCell ⟨n, 0, none⟩ y) n y x1 x2 x3 x4 x5 := by
  obtain ⟨⟨a0, a1, a2, a3, a4, a5⟩, b0, b1, b2, b3, b4, b5⟩ := h
  exact ⟨⟨cell_own a0, cell_far (by decide) a1, cell_far (by decide) a2, cell_far (by decide) a3, cell_far (by decide) a4, cell_far (by decide) a5⟩, froz_far b0, froz_far b1, froz_far b2, froz_far b3, froz_far b4, froz_far b5⟩
theorem TB6.set1 {w : World} {n : Nat} {x0 x1 x2 x3 x4 x5 : Value} (h : TB6 w n x0 x1 x2 x3 x4 x5) (y : Value) : TB6 (w.setCell ⟨n, 1, none⟩ y) n x0 y x2 x3 x4 x5 := by
  obtain ⟨⟨a0, a1, a2, a3, a4, a5⟩, b0, b1, b2, b3, b4, b5⟩ := h
  exact ⟨⟨cell_far (by decide) a0, cell_own a1, cell_far (by decide) a2, cell_far (by decide) a3, cell_far (by decide) a4, cell_far (by decide) a5⟩, froz_far b0, froz_far b1, froz_far b2, froz_far b3, froz_far b4, froz_far b5⟩
theorem TB6.set2 {w : World} {n : Nat} {x0 x1 x2 x3 x4 x5 : Value} (h : TB6 w n x0 x1 x2 x3 x4 x5) (y : Value) : TB6 (w.setCell ⟨n, 2, none⟩ y) n x0 x1 y x3 x4 x5 := by
  obtain ⟨⟨a0, a1, a2, a3, a4, a5⟩, b0, b1, b2, b3, b4, b5⟩ := h
  exact ⟨⟨cell_far (by decide) a0, cell_far (by decide) a1, cell_own a2, cell_far (by decide) a3, cell_far (by decide) a4, cell_far (by decide) a5⟩, froz_far b0, froz_far b1, froz_far b2, froz_far b3, froz_far b4, froz_far b5⟩
theorem TB6.set3 {w : World} {n : Nat} {x0 x1 x2 x3 x4 x5 : Value} (h : TB6 w n x0 x1 x2 x3 x4 x5) (y : Value) : TB6 (w.setCell ⟨n, 3, none⟩ y) n x0 x1 x2 y x4 x5 := by
  obtain ⟨⟨a0, a1, a2, a3, a4, a5⟩, b0, b1, b2, b3, b4, b5⟩ := h
  exact ⟨⟨cell_far (by decide) a0, cell_far (by decide) a1, cell_far (by decide) a2, cell_own a3, cell_far (by decide) a4, cell_far (by decide) a5⟩, froz_far b0, froz_far b1, froz_far b2, froz_far b3, froz_far b4, froz_far b5⟩
theorem TB6.set4 {w : World} {n : Nat} {x0 x1 x2 x3 x4 x5 : Value} (h : TB6 w n x0 x1 x2 x3 x4 x5) (y : Value) : TB6 (w.setCell ⟨n, 4, none⟩ y) n x0 x1 x2 x3 y x5 := by
  obtain ⟨⟨a0, a1, a2, a3, a4, a5⟩, b0, b1, b2, b3, b4, b5⟩ := h
  exact ⟨⟨cell_far (by decide) a0, cell_far (by decide) a1, cell_far (by decide) a2, cell_far (by decide) a3, cell_own a4, cell_far (by decide) a5⟩, froz_far b0, froz_far b1, froz_far b2, froz_far b3, froz_far b4, froz_far b5⟩
theorem TB6.set5 {w : World} {n : Nat} {x0 x1 x2 x3 x4 x5 : Value} (h : TB6 w n x0 x1 x2 x3 x4 x5) (y : Value) : TB6 (w.setCell ⟨n, 5, none⟩ y) n x0 x1 x2 x3 x4 y := by
  obtain ⟨⟨a0, a1, a2, a3, a4, a5⟩, b0, b1, b2, b3, b4, b5⟩ := h
  exact ⟨⟨cell_far (by decide) a0, cell_far (by decide) a1, cell_far (by decide) a2, cell_far (by decide) a3, cell_far (by decide) a4, cell_own a5⟩, froz_far b0, froz_far b1, froz_far b2, froz_far b3, froz_far b4, froz_far b5⟩
theorem TB6.put {w : World} {n : Nat} {x0 x1 x2 x3 x4 x5 : Value} (h : TB6 w n x0 x1 x2 x3 x4 x5) (y0 y1 y2 y3 y4 y5 : Value) : TB6 (put6 w n y0 y1 y2 y3 y4 y5) n y0 y1 y2 y3 y4 y5 :=
  (((((h.set0 y0).set1 y1).set2 y2).set3 y3).set4 y4).set5 y5
end Go.Proofs.YtnpgjlhnlakgpaaDoor

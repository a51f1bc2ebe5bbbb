/- Small facts on worlds: what stays when a call only makes new memory. -/
import Derived.WalkKit
import Derived.WalkSpells
import Derived.WalkLawsBesides
import Derived.Lib.Hide
import Derived.Deep.RegionHeld3
namespace Go.Proofs.Ytidejjjedpdbeaa
open Go.RowKit

theorem held_drew {w : World} : Below w.heap.size w w.drew ∧ ∀ b o, b < w.heap.size → w.drew.cell? ⟨b, o, none⟩ = w.cell? ⟨b, o, none⟩ :=
  ⟨(Below.refl _ _).drew, fun _ _ _ => rfl⟩
theorem held_below {w0 w1 w2 : World} (h : Below w0.heap.size w0 w1 ∧ ∀ b o, b < w0.heap.size → w1.cell? ⟨b, o, none⟩ = w0.cell? ⟨b, o, none⟩) (hb : Below w1.heap.size w1 w2) :
    Below w0.heap.size w0 w2 ∧ ∀ b o, b < w0.heap.size → w2.cell? ⟨b, o, none⟩ = w0.cell? ⟨b, o, none⟩ := by
  have h2 : Below w0.heap.size w0 w2 := h.1.trans (hb.mono h.1.size)
  exact ⟨h2, fun b o hb' => h2.cell (p := ⟨b, o, none⟩) hb'⟩
theorem held_alloc {w0 w1 : World} {x : Obj} (h : Below w0.heap.size w0 w1 ∧ ∀ b o, b < w0.heap.size → w1.cell? ⟨b, o, none⟩ = w0.cell? ⟨b, o, none⟩) :
    Below w0.heap.size w0 (w1.alloc x) ∧ ∀ b o, b < w0.heap.size → (w1.alloc x).cell? ⟨b, o, none⟩ = w0.cell? ⟨b, o, none⟩ := by
  have h2 : Below w0.heap.size w0 (w1.alloc x) := h.1.alloc h.1.size _
  exact ⟨h2, fun b o hb' => h2.cell (p := ⟨b, o, none⟩) hb'⟩

/-- One, two, three new blocks: what they hold, and that all else is as it was. -/
theorem boxes1 (w : World) (x : Array Value) (t : TypeId) :
    Below w.heap.size w (w.alloc (.cells x t)) ∧ (w.alloc (.cells x t)).heap.size = w.heap.size + 1 ∧ (∀ i, (w.alloc (.cells x t)).cell? ⟨w.heap.size, i, none⟩ = x[i]?) := by
  refine ⟨(Below.refl _ _).alloc (Nat.le_refl _) _, by simp, fun i => ?_⟩
  exact World.cell?_alloc_new _ _ _ _
theorem boxes2 (w : World) (x y : Array Value) (t u : TypeId) :
    Below w.heap.size w ((w.alloc (.cells x t)).alloc (.cells y u)) ∧ ((w.alloc (.cells x t)).alloc (.cells y u)).heap.size = w.heap.size + 2 ∧
    (∀ i, ((w.alloc (.cells x t)).alloc (.cells y u)).cell? ⟨w.heap.size, i, none⟩ = x[i]?) ∧ (∀ i, ((w.alloc (.cells x t)).alloc (.cells y u)).cell? ⟨w.heap.size + 1, i, none⟩ = y[i]?) := by
  obtain ⟨h1, h2, h3⟩ := boxes1 w x t
  obtain ⟨k1, k2, k3⟩ := boxes1 (w.alloc (.cells x t)) y u
  rw [h2] at k1 k2 k3
  refine ⟨h1.trans (k1.mono (by omega)), k2, fun i => ?_, k3⟩
  rw [← h3 i]; exact k1.cell (p := ⟨w.heap.size, i, none⟩) (by simp)
theorem boxes3 (w : World) (x y z : Array Value) (t u v : TypeId) :
    Below w.heap.size w (((w.alloc (.cells x t)).alloc (.cells y u)).alloc (.cells z v)) ∧ (((w.alloc (.cells x t)).alloc (.cells y u)).alloc (.cells z v)).heap.size = w.heap.size + 3 ∧
    (∀ i, (((w.alloc (.cells x t)).alloc (.cells y u)).alloc (.cells z v)).cell? ⟨w.heap.size, i, none⟩ = x[i]?) ∧ (∀ i, (((w.alloc (.cells x t)).alloc (.cells y u)).alloc (.cells z v)).cell? ⟨w.heap.size + 1, i, none⟩ = y[i]?) ∧
    (∀ i, (((w.alloc (.cells x t)).alloc (.cells y u)).alloc (.cells z v)).cell? ⟨w.heap.size + 1 + 1, i, none⟩ = z[i]?) := by
  obtain ⟨h1, h2, h3, h4⟩ := boxes2 w x y t u
  obtain ⟨k1, k2, k3⟩ := boxes1 ((w.alloc (.cells x t)).alloc (.cells y u)) z v
  rw [h2] at k1 k2 k3
  refine ⟨h1.trans (k1.mono (by omega)), k2, fun i => ?_, fun i => ?_, k3⟩
  · rw [← h3 i]; exact k1.cell (p := ⟨w.heap.size, i, none⟩) (by simp)
  · rw [← h4 i]; exact k1.cell (p := ⟨w.heap.size + 1, i, none⟩) (by simp)
end Go.Proofs.Ytidejjjedpdbeaa

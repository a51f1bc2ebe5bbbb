/- Small facts on worlds: what stays when a call only makes new memory. -/
import Derived.WalkKit
import Derived.WalkSpells
import Derived.WalkLawsBesides
import Derived.Lib.Hide
import Derived.Deep.RegionHeld3
import Derived.BigQuiet
namespace Go.Proofs.YtnpgjlhnlakgpaaGreatDoor
open Go.RowKit

theorem below_drewN {w : World} (n : Nat) : Below w.heap.size w (w.drewN n) := ⟨rfl, rfl, rfl, Nat.le_refl _, fun _ _ => rfl⟩
theorem held_drew {w : World} : Below w.heap.size w w.drew ∧ ∀ b o, b < w.heap.size → w.drew.cell? ⟨b, o, none⟩ = w.cell? ⟨b, o, none⟩ :=
  ⟨(Below.refl _ _).drew, fun _ _ _ => rfl⟩
theorem held_below {w0 w1 w2 : World} (h : Below w0.heap.size w0 w1 ∧ ∀ b o, b < w0.heap.size → w1.cell? ⟨b, o, none⟩ = w0.cell? ⟨b, o, none⟩) (hb : Below w1.heap.size w1 w2) :
    Below w0.heap.size w0 w2 ∧ ∀ b o, b < w0.heap.size → w2.cell? ⟨b, o, none⟩ = w0.cell? ⟨b, o, none⟩ := by
  have h2 : Below w0.heap.size w0 w2 := h.1.trans (hb.mono h.1.size)
  exact ⟨h2, fun b o hb' => h2.cell (p := ⟨b, o, none⟩) hb'⟩
theorem held_alloc {w0 w1 : World} {x : Obj} (h : Below w0.heap.size w0 w1 ∧ ∀ b o, b < w0.heap.size → w1.cell? ⟨b, o, none⟩ = w0.cell? ⟨b, o, none⟩) :
    Below w0.heap.size w0 (w1.alloc x) ∧ ∀ b o, b < w0.heap.size → (w1.alloc x).cell? ⟨b, o, none⟩ = w0.cell? ⟨b, o, none⟩ := by
  have h2 : Below w0.heap.size w0 (w1.alloc x) := h.1.alloc h.1.size _
  exact ⟨h2, fun b o hb' => h2.cell (p := ⟨b, o, none⟩) hb'⟩

structure KwB (w0 w1 : World) : Prop where
  b : Below w0.heap.size w0 w1
theorem held_of {w0 w1 : World} (h : Below w0.heap.size w0 w1) : Below w0.heap.size w0 w1 ∧ ∀ b o, b < w0.heap.size → w1.cell? ⟨b, o, none⟩ = w0.cell? ⟨b, o, none⟩ :=
  ⟨h, fun b o hb' => h.cell (p := ⟨b, o, none⟩) hb'⟩
theorem held_set3 {w0 w1 : World} {n : Nat} {x y z : Value} (h : Below w0.heap.size w0 w1 ∧ ∀ b o, b < w0.heap.size → w1.cell? ⟨b, o, none⟩ = w0.cell? ⟨b, o, none⟩) (hn : w0.heap.size ≤ n) :
    Below w0.heap.size w0 (((w1.setCell ⟨n, 0, none⟩ x).setCell ⟨n, 1, none⟩ y).setCell ⟨n, 2, none⟩ z) ∧ ∀ b o, b < w0.heap.size → (((w1.setCell ⟨n, 0, none⟩ x).setCell ⟨n, 1, none⟩ y).setCell ⟨n, 2, none⟩ z).cell? ⟨b, o, none⟩ = w0.cell? ⟨b, o, none⟩ := by
  have h2 : Below w0.heap.size w0 (((w1.setCell ⟨n, 0, none⟩ x).setCell ⟨n, 1, none⟩ y).setCell ⟨n, 2, none⟩ z) := ((h.1.setCell hn _).setCell hn _).setCell hn _
  exact ⟨h2, fun b o hb' => h2.cell (p := ⟨b, o, none⟩) hb'⟩
theorem held_fin {w W0 wf : World} {p : Prop} (hB : Below w.heap.size w W0) (hs : w.heap.size < W0.heap.size) (h : Below W0.heap.size W0 wf ∧ p) : Below w.heap.size w wf := hB.trans (h.1.mono (by omega))
/-- What was there reads as it did, and its marks. -/
theorem bcell {w w1 : World} (hb : Below w.heap.size w w1) : (∀ b o, b < w.heap.size → w1.cell? ⟨b, o, none⟩ = w.cell? ⟨b, o, none⟩) ∧ (∀ b o, b < w.heap.size → w1.frozen? ⟨b, o, none⟩ = w.frozen? ⟨b, o, none⟩) :=
  ⟨fun b o h => hb.cell (p := ⟨b, o, none⟩) h, fun b o h => hb.frozen (p := ⟨b, o, none⟩) h⟩
/-- A world of which something holds. -/
structure GW (Inv : World → Prop) where
  w : World
  h : Inv w
theorem GW.ne {Inv : World → Prop} {w : World} (h : Inv w) : Nonempty (GW Inv) := ⟨⟨w, h⟩⟩
theorem below_next {w0 : World} (u : GW (fun w' => Below w0.heap.size w0 w')) {w1 : World} (hb : Below u.w.heap.size u.w w1) : ∃ u' : GW (fun w' => Below w0.heap.size w0 w'), w1 = u'.w :=
  ⟨⟨w1, u.h.trans (hb.mono u.h.size)⟩, rfl⟩
/-- A region that draws its order, whose operations read what every world of a class has, and whose callees lead from the class into it: one walk in the order of the text. -/
theorem wp_region_grow {P : Program} {id : Nat} {Q : Exit → Act → World → Prop} {a : Act} {w : World} {l : List Oper} (Inv : World → Prop) (hm : P.follows .mixedOrders = true) (hB : Region.lexB .any l.toArray = true) (hC : Inv w.drew)
    (h : wpQuiet P l.toArray (fun w' => ∃ u : GW Inv, w' = u.w) (fun a' => ∀ w', (∃ u : GW Inv, w' = u.w) → Q .normal a' w') l a) : (Code.region id l.toArray true).wp P Q a w :=
  wp_region_quiet (C := fun w' => ∃ u : GW Inv, w' = u.w) hm hB ⟨⟨_, hC⟩, rfl⟩ (by simpa using h)

/-- One, two, three new blocks: what they hold, and that all else is as it was. -/
theorem boxes1 (w : World) (x : Array Value) (t : TypeId) :
    Below w.heap.size w (w.alloc (.cells x t)) ∧ (w.alloc (.cells x t)).heap.size = w.heap.size + 1 ∧ (∀ i, (w.alloc (.cells x t)).cell? ⟨w.heap.size, i, none⟩ = x[i]?) := by
  refine ⟨(Below.refl _ _).alloc (Nat.le_refl _) _, by simp, fun i => ?_⟩
  exact World.cell?_alloc_new _ _ _ _
theorem boxes2 (w : World) (x y : Array Value) (t u : TypeId) :
    Below w.heap.size w ((w.alloc (.cells x t)).alloc (.cells y u)) ∧ ((w.alloc (.cells x t)).alloc (.cells y u)).heap.size = w.heap.size + 2 ∧
    (∀ i, ((w.alloc (.cells x t)).alloc (.cells y u)).cell? ⟨w.heap.size, i, none⟩ = x[i]?) ∧ (∀ i, ((w.alloc (.cells x t)).alloc (.cells y u)).cell? ⟨w.heap.size + 1, i, none⟩ = y[i]?) := by
  obtain ⟨h1, h2, h3⟩ := boxes1 w x t
  obtain ⟨k1, k2, k3⟩ := boxes1 (w.alloc (.cells x t)) y u
  rw [h2] at k1 k2 k3
  refine ⟨h1.trans (k1.mono (by omega)), k2, fun i => ?_, k3⟩
  rw [← h3 i]; exact k1.cell (p := ⟨w.heap.size, i, none⟩) (by simp)
theorem boxes3 (w : World) (x y z : Array Value) (t u v : TypeId) :
    Below w.heap.size w (((w.alloc (.cells x t)).alloc (.cells y u)).alloc (.cells z v)) ∧ (((w.alloc (.cells x t)).alloc (.cells y u)).alloc (.cells z v)).heap.size = w.heap.size + 3 ∧
    (∀ i, (((w.alloc (.cells x t)).alloc (.cells y u)).alloc (.cells z v)).cell? ⟨w.heap.size, i, none⟩ = x[i]?) ∧ (∀ i, (((w.alloc (.cells x t)).alloc (.cells y u)).alloc (.cells z v)).cell? ⟨w.heap.size + 1, i, none⟩ = y[i]?) ∧
    (∀ i, (((w.alloc (.cells x t)).alloc (.cells y u)).alloc (.cells z v)).cell? ⟨w.heap.size + 1 + 1, i, none⟩ = z[i]?) := by
  obtain ⟨h1, h2, h3, h4⟩ := boxes2 w x y t u
  obtain ⟨k1, k2, k3⟩ := boxes1 ((w.alloc (.cells x t)).alloc (.cells y u)) z v
  rw [h2] at k1 k2 k3
  refine ⟨h1.trans (k1.mono (by omega)), k2, fun i => ?_, fun i => ?_, k3⟩
  · rw [← h3 i]; exact k1.cell (p := ⟨w.heap.size, i, none⟩) (by simp)
  · rw [← h4 i]; exact k1.cell (p := ⟨w.heap.size + 1, i, none⟩) (by simp)

/-- Behind a call that makes new memory only: a struct of three cells in a block that was there stays, and can be written. -/
theorem box_kept {w1 w2 : World} (hb : Below w1.heap.size w1 w2) {n : Nat} (hn : n < w1.heap.size) {x y z : Value} (h0 : w1.cell? ⟨n, 0, none⟩ = some x) (h1 : w1.cell? ⟨n, 1, none⟩ = some y) (h2 : w1.cell? ⟨n, 2, none⟩ = some z)
    (hf : ∀ i, w1.frozen? ⟨n, i, none⟩ = false) :
    (w2.cell? ⟨n, 0, none⟩ = some x ∧ w2.cell? ⟨n, 1, none⟩ = some y ∧ w2.cell? ⟨n, 2, none⟩ = some z) ∧ (w2.frozen? ⟨n, 0, none⟩ = false ∧ w2.frozen? ⟨n, 1, none⟩ = false ∧ w2.frozen? ⟨n, 2, none⟩ = false) := by
  refine ⟨⟨?_, ?_, ?_⟩, ?_, ?_, ?_⟩
  · rw [hb.cell (p := ⟨n, 0, none⟩) hn]; exact h0
  · rw [hb.cell (p := ⟨n, 1, none⟩) hn]; exact h1
  · rw [hb.cell (p := ⟨n, 2, none⟩) hn]; exact h2
  · rw [hb.frozen (p := ⟨n, 0, none⟩) hn]; exact hf 0
  · rw [hb.frozen (p := ⟨n, 1, none⟩) hn]; exact hf 1
  · rw [hb.frozen (p := ⟨n, 2, none⟩) hn]; exact hf 2
/-- The same of a block that was just made. -/
theorem box_new {w w2 : World} {x y z : Value} {t : TypeId} (hb : Below (w.heap.size + 1) (w.alloc (.cells #[x, y, z] t)) w2) :
    (w2.cell? ⟨w.heap.size, 0, none⟩ = some x ∧ w2.cell? ⟨w.heap.size, 1, none⟩ = some y ∧ w2.cell? ⟨w.heap.size, 2, none⟩ = some z) ∧
    (w2.frozen? ⟨w.heap.size, 0, none⟩ = false ∧ w2.frozen? ⟨w.heap.size, 1, none⟩ = false ∧ w2.frozen? ⟨w.heap.size, 2, none⟩ = false) ∧ Below w.heap.size w w2 ∧ w.heap.size < w2.heap.size := by
  have hb' : Below (w.alloc (.cells #[x, y, z] t)).heap.size (w.alloc (.cells #[x, y, z] t)) w2 := by rw [World.size_alloc]; exact hb
  obtain ⟨h1, h2⟩ := box_kept hb' (n := w.heap.size) (by simp) (x := x) (y := y) (z := z) (by rw [World.cell?_alloc_new]; rfl) (by rw [World.cell?_alloc_new]; rfl) (by rw [World.cell?_alloc_new]; rfl) (fun i => World.frozen?_alloc_new ..)
  refine ⟨h1, h2, ((Below.refl w.heap.size w).alloc (Nat.le_refl _) (.cells #[x, y, z] t)).trans (hb.mono (by omega)), ?_⟩
  have := hb.size
  rw [World.size_alloc] at this
  omega

/-- A boxed parameter and a boxed result of three cells, behind a call that makes new memory only. -/
theorem boxes2_res {w w1 : World} {x : Array Value} {a b c : Value} {t u : TypeId} (hb : Below ((w.alloc (.cells x t)).alloc (.cells #[a, b, c] u)).heap.size ((w.alloc (.cells x t)).alloc (.cells #[a, b, c] u)) w1) :
    (w1.cell? ⟨w.heap.size + 1, 0, none⟩ = some a ∧ w1.cell? ⟨w.heap.size + 1, 1, none⟩ = some b ∧ w1.cell? ⟨w.heap.size + 1, 2, none⟩ = some c) ∧
    (w1.frozen? ⟨w.heap.size + 1, 0, none⟩ = false ∧ w1.frozen? ⟨w.heap.size + 1, 1, none⟩ = false ∧ w1.frozen? ⟨w.heap.size + 1, 2, none⟩ = false) ∧
    Below w.heap.size w w1 ∧ w.heap.size + 1 < w1.heap.size ∧ (∀ i, w1.cell? ⟨w.heap.size, i, none⟩ = x[i]?) := by
  obtain ⟨h1, h2, h3, h4⟩ := boxes2 w x #[a, b, c] t u
  have hz := hb.size
  obtain ⟨c1, c2⟩ := box_kept hb (n := w.heap.size + 1) (by omega) (x := a) (y := b) (z := c) (by rw [h4]; rfl) (by rw [h4]; rfl) (by rw [h4]; rfl) (fun i => World.frozen?_alloc_at _ _ _ _ (by simp))
  refine ⟨c1, c2, h1.trans (hb.mono (by omega)), by omega, fun i => ?_⟩
  rw [hb.cell (p := ⟨w.heap.size, i, none⟩) (by show w.heap.size < _; omega)]
  exact h3 i
end Go.Proofs.YtnpgjlhnlakgpaaGreatDoor

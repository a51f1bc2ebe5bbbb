/- A file's block of three cells through calls and stores; a disk behind draws. -/
import Derived.Test.YtnpgjlhnlakgpaaDoorVfsCreate
import Derived.BigQuiet
import Derived.Deep.QuietTactic
import Derived.StillTailTactics
namespace Go.Proofs.YtnpgjlhnlakgpaaDoor
open Go.RowKit Go.Maps

/-- A block of three cells that can be written. -/
structure Fx (W : World) (n : Nat) (x y z : Value) : Prop where
  c0 : W.cell? ⟨n, 0, none⟩ = some x
  c1 : W.cell? ⟨n, 1, none⟩ = some y
  c2 : W.cell? ⟨n, 2, none⟩ = some z
  f0 : W.frozen? ⟨n, 0, none⟩ = false
  f1 : W.frozen? ⟨n, 1, none⟩ = false
  f2 : W.frozen? ⟨n, 2, none⟩ = false
theorem Fx.lt {W : World} {n : Nat} {x y z : Value} (h : Fx W n x y z) : n < W.heap.size := World.block_lt_of_cell? W _ h.c0
theorem Fx.of_block {W W' : World} {n : Nat} {x y z : Value} (h : Fx W n x y z) (hb : W'.heap[n]? = W.heap[n]?) : Fx W' n x y z := by
  have hc : ∀ o, W'.cell? ⟨n, o, none⟩ = W.cell? ⟨n, o, none⟩ := fun o => World.cell?_of_block (w := W) hb
  have hf : ∀ o, W'.frozen? ⟨n, o, none⟩ = W.frozen? ⟨n, o, none⟩ := fun o => World.frozen?_of_block (w := W) hb
  exact ⟨by rw [hc]; exact h.c0, by rw [hc]; exact h.c1, by rw [hc]; exact h.c2, by rw [hf]; exact h.f0, by rw [hf]; exact h.f1, by rw [hf]; exact h.f2⟩
theorem Fx.below {W W' : World} {n : Nat} {x y z : Value} (h : Fx W n x y z) (hb : Below W.heap.size W W') : Fx W' n x y z := h.of_block (hb.block n h.lt)
theorem Fx.kept {W W' : World} {n b m : Nat} {x y z : Value} (h : Fx W n x y z) (hk : Kp b m W W') (h1 : n ≠ b) (h2 : n ≠ m) : Fx W' n x y z := h.of_block (hk.block n h.lt h1 h2)
theorem Fx.new (W : World) (x y z : Value) (t : TypeId) : Fx (W.alloc (.cells #[x, y, z] t)) W.heap.size x y z := by
  refine ⟨?_, ?_, ?_, ?_, ?_, ?_⟩
  · rw [World.cell?_alloc_new]; rfl
  · rw [World.cell?_alloc_new]; rfl
  · rw [World.cell?_alloc_new]; rfl
  · exact World.frozen?_alloc_new ..
  · exact World.frozen?_alloc_new ..
  · exact World.frozen?_alloc_new ..
theorem Fx.drewN {W : World} {n k : Nat} {x y z : Value} (h : Fx W n x y z) : Fx (W.drewN k) n x y z := h.of_block rfl
theorem Fx.far {W : World} {n j o : Nat} {x y z u : Value} (h : Fx W n x y z) (hj : n ≠ j) : Fx (W.setCell ⟨j, o, none⟩ u) n x y z := h.of_block (Below.heap_setCell _ _ _ _ hj)
theorem Fx.set0 {W : World} {n : Nat} {x y z : Value} (h : Fx W n x y z) (u : Value) : Fx (W.setCell ⟨n, 0, none⟩ u) n u y z :=
  ⟨sets h.c0, setc (by decide) h.c1, setc (by decide) h.c2, setf h.f0, setf h.f1, setf h.f2⟩
theorem Fx.set1 {W : World} {n : Nat} {x y z : Value} (h : Fx W n x y z) (u : Value) : Fx (W.setCell ⟨n, 1, none⟩ u) n x u z :=
  ⟨setc (by decide) h.c0, sets h.c1, setc (by decide) h.c2, setf h.f0, setf h.f1, setf h.f2⟩
theorem Fx.set2 {W : World} {n : Nat} {x y z : Value} (h : Fx W n x y z) (u : Value) : Fx (W.setCell ⟨n, 2, none⟩ u) n x y u :=
  ⟨setc (by decide) h.c0, setc (by decide) h.c1, sets h.c2, setf h.f0, setf h.f1, setf h.f2⟩
theorem DC.drewN {P : Program} {k : TypeId} {w : World} {b m n : Nat} {room used left steps : Int} {off armed : Bool} {L : List Fl} (h : DC P k w b m room used off armed left steps L) : DC P k (w.drewN n) b m room used off armed left steps L :=
  h.of_blocks rfl (.inr rfl)
theorem Kp.drewN {b m n : Nat} {w0 w : World} (h : Kp b m w0 w) : Kp b m w0 (w.drewN n) := ⟨h.os, h.tape, h.output, h.size, h.block⟩
/-- The parts of a file's value. -/
theorem run_file0 (n b : ByteArray) (s : Int) (w : World) : (Instr.field 117 (.agg #[.string n, .string b, .int .i64 s]) 0).run Tryd.prog w = .ok (.agg #[.string n, .string b, .int .i64 s]) w := by kernel_rfl
theorem run_File1 (n b : ByteArray) (s : Int) (w : World) : (Instr.field 71 (.agg #[.string n, .string b, .int .i64 s]) 1).run Tryd.prog w = .ok (.string b) w := by kernel_rfl
attribute [go_sem] run_file0 run_File1
end Go.Proofs.YtnpgjlhnlakgpaaDoor

/- A lexer in memory: its three cells; what stays of a world behind its calls. -/
import Derived.Test.YtnpgjlhnlakgpaaDoorProg
import Derived.Test.YtnpgjlhnlakgpaaDoorKeep
import Derived.Test.YtnpgjlhnlakgpaaDoorLexL
import Derived.Test.YtnpgjlhnlakgpaaDoorPrintF
import Derived.Maps.OwnOps
namespace Go.Proofs.YtnpgjlhnlakgpaaDoor
open Go.RowKit Go.Maps

/-- w' is w but for the block b, and new ones. -/
structure K1 (b : Nat) (w w' : World) : Prop where
  os : w'.os = w.os
  tape : w'.tape = w.tape
  output : w'.output = w.output
  size : w.heap.size ≤ w'.heap.size
  block : ∀ k, k < w.heap.size → k ≠ b → w'.heap[k]? = w.heap[k]?
theorem K1.refl (b : Nat) (w : World) : K1 b w w := ⟨rfl, rfl, rfl, Nat.le_refl _, fun _ _ _ => rfl⟩
theorem K1.trans {b : Nat} {x y z : World} (h : K1 b x y) (k : K1 b y z) : K1 b x z :=
  ⟨k.os.trans h.os, k.tape.trans h.tape, k.output.trans h.output, Nat.le_trans h.size k.size, fun i hi h1 => (k.block i (Nat.lt_of_lt_of_le hi h.size) h1).trans (h.block i hi h1)⟩
theorem K1.of_below {b : Nat} {w w' : World} (h : Below w.heap.size w w') : K1 b w w' := ⟨h.os, h.tape, h.output, h.size, fun k hk _ => h.block k hk⟩
theorem K1.below {b : Nat} {w0 w w' : World} (hB : Below w0.heap.size w0 w) (h : K1 b w w') (hb : w0.heap.size ≤ b) : Below w0.heap.size w0 w' :=
  hB.trans ⟨h.os, h.tape, h.output, h.size, fun k hk => h.block k (Nat.lt_of_lt_of_le hk hB.size) (by omega)⟩
theorem K1.setCell {b : Nat} {w0 w : World} (h : K1 b w0 w) (o : Nat) (u : Value) : K1 b w0 (w.setCell ⟨b, o, none⟩ u) :=
  h.trans ⟨rfl, rfl, rfl, by simp [World.setCell], fun k _ h1 => Below.heap_setCell _ _ _ _ h1⟩
theorem K1.setNew {b : Nat} {w0 w : World} (h : K1 b w0 w) {j : Nat} (hj : w0.heap.size ≤ j) (o : Nat) (u : Value) : K1 b w0 (w.setCell ⟨j, o, none⟩ u) :=
  ⟨h.os, h.tape, h.output, by simpa [World.setCell] using h.size, fun k hk h1 => (Below.heap_setCell _ _ _ _ (by show k ≠ j; omega)).trans (h.block k hk h1)⟩
theorem K1.alloc {b : Nat} {w0 w : World} (h : K1 b w0 w) (o : Obj) : K1 b w0 (w.alloc o) :=
  h.trans (K1.of_below ((Below.refl _ _).alloc (Nat.le_refl _) o))
theorem K1.drew {b : Nat} {w0 w : World} (h : K1 b w0 w) : K1 b w0 w.drew := h.trans (K1.of_below (Below.refl _ _).drew)
theorem K1.step {b : Nat} {w0 w w' : World} (h : K1 b w0 w) (hb : Below w.heap.size w w') : K1 b w0 w' := h.trans (K1.of_below hb)
theorem K1.cell {b : Nat} {w w' : World} (h : K1 b w w') {j : Nat} (hj : j < w.heap.size) (hb : j ≠ b) (o : Nat) : w'.cell? ⟨j, o, none⟩ = w.cell? ⟨j, o, none⟩ :=
  World.cell?_of_block (w := w) (h.block j hj hb)
theorem K1.frozen {b : Nat} {w w' : World} (h : K1 b w w') {j : Nat} (hj : j < w.heap.size) (hb : j ≠ b) (o : Nat) : w'.frozen? ⟨j, o, none⟩ = w.frozen? ⟨j, o, none⟩ :=
  World.frozen?_of_block (w := w) (h.block j hj hb)

/-- The three cells of a lexer in block b: its text, its place, its words. -/
structure LX (w : World) (b m : Nat) (s : ByteArray) (i : Nat) : Prop where
  c0 : w.cell? ⟨b, 0, none⟩ = some (.string s)
  c1 : w.cell? ⟨b, 1, none⟩ = some (.int .i64 (i : Int))
  c2 : w.cell? ⟨b, 2, none⟩ = some (.map (some m))
  f1 : w.frozen? ⟨b, 1, none⟩ = false
section
variable {w w' : World} {b m i : Nat} {s : ByteArray}
theorem LX.lt (h : LX w b m s i) : b < w.heap.size := World.block_lt_of_cell? w _ h.c0
theorem LX.of_block (h : LX w b m s i) (h1 : w'.heap[b]? = w.heap[b]?) : LX w' b m s i := by
  have hc : ∀ o, w'.cell? ⟨b, o, none⟩ = w.cell? ⟨b, o, none⟩ := fun o => World.cell?_of_block (w := w) h1
  have hf : ∀ o, w'.frozen? ⟨b, o, none⟩ = w.frozen? ⟨b, o, none⟩ := fun o => World.frozen?_of_block (w := w) h1
  exact ⟨by rw [hc]; exact h.c0, by rw [hc]; exact h.c1, by rw [hc]; exact h.c2, by rw [hf]; exact h.f1⟩
theorem LX.below (h : LX w b m s i) (hB : Below w.heap.size w w') : LX w' b m s i := h.of_block (hB.block b h.lt)
theorem LX.alloc (h : LX w b m s i) (o : Obj) : LX (w.alloc o) b m s i := h.below ((Below.refl _ _).alloc (Nat.le_refl _) o)
theorem LX.drew (h : LX w b m s i) : LX w.drew b m s i := h.below (Below.refl _ _).drew
theorem LX.far (h : LX w b m s i) {j : Nat} (h1 : b ≠ j) (o : Nat) (u : Value) : LX (w.setCell ⟨j, o, none⟩ u) b m s i := h.of_block (Below.heap_setCell _ _ _ _ h1)
theorem LX.put (h : LX w b m s i) (j : Nat) : LX (w.setCell ⟨b, 1, none⟩ (.int .i64 (j : Int))) b m s j := by
  have hne : ∀ o, o ≠ 1 → (⟨b, 1, none⟩ : Addr) ≠ ⟨b, o, none⟩ := fun o ho e => ho (Addr.mk.inj e).2.1.symm
  refine ⟨?_, World.cell?_setCell_same _ _ _ h.c1, ?_, by rw [World.frozen?_setCell]; exact h.f1⟩
  · rw [World.cell?_setCell_other (h := hne 0 (by decide))]; exact h.c0
  · rw [World.cell?_setCell_other (h := hne 2 (by decide))]; exact h.c2
end
theorem drN {B : Nat} {a w : World} (h : Below B a w) (n : Nat) : Below B a (w.drewN n) := h.trans ⟨rfl, rfl, rfl, Nat.le_refl _, fun _ _ => rfl⟩
/-- A token's block that was just made, behind calls that keep all but b: its cells, and that they can be written. -/
theorem tok_kept {b : Nat} {w w1 : World} {x0 x1 x2 x3 x4 x5 : Value} {t : TypeId} (h : K1 b (w.alloc (.cells #[x0, x1, x2, x3, x4, x5] t)) w1) (hb : b < w.heap.size) :
    (w1.frozen? ⟨w.heap.size, 0, none⟩ = false ∧ w1.frozen? ⟨w.heap.size, 1, none⟩ = false ∧ w1.frozen? ⟨w.heap.size, 2, none⟩ = false ∧ w1.frozen? ⟨w.heap.size, 3, none⟩ = false ∧ w1.frozen? ⟨w.heap.size, 4, none⟩ = false ∧ w1.frozen? ⟨w.heap.size, 5, none⟩ = false) ∧
    (w1.cell? ⟨w.heap.size, 0, none⟩ = some x0 ∧ w1.cell? ⟨w.heap.size, 1, none⟩ = some x1 ∧ w1.cell? ⟨w.heap.size, 2, none⟩ = some x2 ∧ w1.cell? ⟨w.heap.size, 3, none⟩ = some x3 ∧ w1.cell? ⟨w.heap.size, 4, none⟩ = some x4 ∧ w1.cell? ⟨w.heap.size, 5, none⟩ = some x5) := by
  have hc : ∀ o, w1.cell? ⟨w.heap.size, o, none⟩ = (#[x0, x1, x2, x3, x4, x5] : Array Value)[o]? := fun o => by
    rw [h.cell (by simp) (by omega), World.cell?_alloc_new]
  have hf : ∀ o, w1.frozen? ⟨w.heap.size, o, none⟩ = false := fun o => by
    rw [h.frozen (by simp) (by omega)]; exact World.frozen?_alloc_new ..
  exact ⟨⟨hf 0, hf 1, hf 2, hf 3, hf 4, hf 5⟩, hc 0, hc 1, hc 2, hc 3, hc 4, hc 5⟩
theorem K1.ofAlloc {b : Nat} {w w1 : World} {o : Obj} (h : K1 b (w.alloc o) w1) : K1 b w w1 := ((K1.refl b w).alloc o).trans h
/-- The text from a place on. -/
def fromS (s : ByteArray) (i : Nat) : List UInt8 := s.data.toList.drop i
theorem from_lt {s : ByteArray} {i : Nat} (h : i < s.size) : fromS s i = s[i] :: fromS s (i + 1) := by
  show s.data.toList.drop i = _
  rw [List.drop_eq_getElem_cons (by simpa using h)]
  rfl
theorem from_ge {s : ByteArray} {i : Nat} (h : s.size ≤ i) : fromS s i = [] := List.drop_eq_nil_of_le (by simpa using h)
theorem from_len (s : ByteArray) (i : Nat) : (fromS s i).length = s.size - i := by
  show (s.data.toList.drop i).length = _
  rw [List.length_drop]; rfl
theorem from_from (s : ByteArray) (i n : Nat) : (fromS s i).drop n = fromS s (i + n) := by
  show (s.data.toList.drop i).drop n = s.data.toList.drop (i + n)
  rw [List.drop_drop]
theorem ext_from (s : ByteArray) (i n : Nat) : s.extract i (i + n) = bs ((fromS s i).take n) := by
  apply ByteArray.ext
  rw [ByteArray.data_extract]
  show s.data.extract i (i + n) = ((s.data.toList.drop i).take n).toArray
  apply Array.ext'
  simp
end Go.Proofs.YtnpgjlhnlakgpaaDoor

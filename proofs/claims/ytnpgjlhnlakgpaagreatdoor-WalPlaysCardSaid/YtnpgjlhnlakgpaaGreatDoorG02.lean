/- A map of files in a block: to look up, to store, to delete, at the operation. A disk in memory: its seven cells and its map; what stays of it. -/
import Derived.Test.YtnpgjlhnlakgpaaGreatDoorG01
import Derived.Maps.RangeWalk
namespace Go.Proofs.YtnpgjlhnlakgpaaGreatDoor
open Go.RowKit Go.Maps
open Go.WideElems (Fit rd rg pl rd_val elemAt)

/-- The file of no name. -/
def Fl.zero : Fl := ⟨⟨#[]⟩, ⟨#[]⟩, 0⟩
section
variable {P : Program} {k : TypeId} {w : World} {b n : Nat} {L : List Fl}
theorem own_len (h : w.ownsMap P k flElem b n (dm L)) : w.ownsMap P k flElem b L.length (dm L) := by
  obtain ⟨es, clock, hb, F, hs, hD⟩ := h
  refine ⟨es, clock, hb, F, ?_, hD⟩
  have h1 := congrArg Maps.size hD
  rw [dm_size] at h1
  simp only [Maps.size, length_sorted] at h1
  simp at h1
  omega
theorem look_hit {t e : TypeId} (c : Bool) (h : w.ownsMap P k flElem b n (dm L)) (K : Keyed P k) (ht : P.underlying t = some (.map k e)) (hz : (zeroValue e).run P w = .ok Fl.zero.val w) {key : Value} {kl : List UInt8} (hkey : keyOf P k key = some (.string kl)) {f : Fl} (hf : findF kl L = some f) :
    (Instr.lookup t (.map (some b)) key c).run P w = .ok (if c then .tuple #[f.val, .bool true] else f.val) w := by
  obtain ⟨es, clock, hb, F, _, hD⟩ := h
  rcases Maps.fit_look c K ht hz hb F hkey with ⟨hrun, _, hat⟩ | ⟨e0, y, _, _, hrun, hRv, hat, _⟩
  · have := hat .nil
    rw [← hD, dm_at, hf] at this
    cases this
  · have := hat .nil
    rw [← hD, dm_at, hf] at this
    obtain ⟨g, hg, rfl⟩ := flElem_inv hRv
    have hfg : f = g := Fl.datum_inj this
    subst hfg
    rw [hg] at hrun
    exact hrun
theorem look_miss {t e : TypeId} (c : Bool) (h : w.ownsMap P k flElem b n (dm L)) (K : Keyed P k) (ht : P.underlying t = some (.map k e)) (hz : (zeroValue e).run P w = .ok Fl.zero.val w) {key : Value} {kl : List UInt8} (hkey : keyOf P k key = some (.string kl)) (hf : findF kl L = none) :
    (Instr.lookup t (.map (some b)) key c).run P w = .ok (if c then .tuple #[Fl.zero.val, .bool false] else Fl.zero.val) w := by
  obtain ⟨es, clock, hb, F, _, hD⟩ := h
  rcases Maps.fit_look c K ht hz hb F hkey with ⟨hrun, _, hat⟩ | ⟨e0, y, _, _, hrun, hRv, hat, _⟩
  · exact hrun
  · have h1 := hat .nil
    have h2 := hat (.lit (.bool true))
    rw [← hD, dm_at, hf] at h1 h2
    rw [← h1] at h2
    cases h2
end
section
variable {P : Program} (w : World) {ops : Array Oper} {rest : List Oper} {o : Oper} {a : Act} {Q : Exit → Act → World → Prop}
theorem wpList_look_ok_hit (hg : o.guard = none) (m x : Operand) (t : TypeId) (hop : o.op = Op.lookup t m x true) (k e : TypeId) (K : Keyed P k) (ht : P.underlying t = some (.map k e)) (hz : (zeroValue e).run P w = .ok Fl.zero.val w)
    (b n : Nat) (L : List Fl) (hm : a.eval m = .map (some b)) (hown : w.ownsMap P k flElem b n (dm L)) (key : Value) (kl : List UInt8) (hx : a.eval x = key) (hkey : keyOf P k key = some (.string kl)) (f : Fl) (hf : findF kl L = some f)
    (hK : wpList P ops Q rest (a.put o.dst (.tuple #[.agg #[.string f.name, .string f.bytes, .int .i64 (f.safe : Int)], .bool true])) w) : wpList P ops Q (o :: rest) a w := by
  refine wpList_plain hg fun K' hK' => ?_
  have hrun := look_hit true hown K ht hz hkey hf
  unfold Oper.wp
  simp [execOp, hop, hm, hx, hrun, Result.andThen]
  exact hK' _ _ hK
theorem wpList_look_ok_miss (hg : o.guard = none) (m x : Operand) (t : TypeId) (hop : o.op = Op.lookup t m x true) (k e : TypeId) (K : Keyed P k) (ht : P.underlying t = some (.map k e)) (hz : (zeroValue e).run P w = .ok Fl.zero.val w)
    (b n : Nat) (L : List Fl) (hm : a.eval m = .map (some b)) (hown : w.ownsMap P k flElem b n (dm L)) (key : Value) (kl : List UInt8) (hx : a.eval x = key) (hkey : keyOf P k key = some (.string kl)) (hf : findF kl L = none)
    (hK : wpList P ops Q rest (a.put o.dst (.tuple #[.agg #[.string ⟨#[]⟩, .string ⟨#[]⟩, .int .i64 0], .bool false])) w) : wpList P ops Q (o :: rest) a w := by
  refine wpList_plain hg fun K' hK' => ?_
  have hrun := look_miss true hown K ht hz hkey hf
  unfold Oper.wp
  simp [execOp, hop, hm, hx, hrun, Result.andThen]
  exact hK' _ _ hK
theorem wpList_look_hit (hg : o.guard = none) (m x : Operand) (t : TypeId) (hop : o.op = Op.lookup t m x false) (k e : TypeId) (K : Keyed P k) (ht : P.underlying t = some (.map k e)) (hz : (zeroValue e).run P w = .ok Fl.zero.val w)
    (b n : Nat) (L : List Fl) (hm : a.eval m = .map (some b)) (hown : w.ownsMap P k flElem b n (dm L)) (key : Value) (kl : List UInt8) (hx : a.eval x = key) (hkey : keyOf P k key = some (.string kl)) (f : Fl) (hf : findF kl L = some f)
    (hK : wpList P ops Q rest (a.put o.dst (.agg #[.string f.name, .string f.bytes, .int .i64 (f.safe : Int)])) w) : wpList P ops Q (o :: rest) a w := by
  refine wpList_plain hg fun K' hK' => ?_
  have hrun := look_hit false hown K ht hz hkey hf
  unfold Oper.wp
  simp [execOp, hop, hm, hx, hrun, Result.andThen]
  exact hK' _ _ hK
theorem wpList_look_miss (hg : o.guard = none) (m x : Operand) (t : TypeId) (hop : o.op = Op.lookup t m x false) (k e : TypeId) (K : Keyed P k) (ht : P.underlying t = some (.map k e)) (hz : (zeroValue e).run P w = .ok Fl.zero.val w)
    (b n : Nat) (L : List Fl) (hm : a.eval m = .map (some b)) (hown : w.ownsMap P k flElem b n (dm L)) (key : Value) (kl : List UInt8) (hx : a.eval x = key) (hkey : keyOf P k key = some (.string kl)) (hf : findF kl L = none)
    (hK : wpList P ops Q rest (a.put o.dst (.agg #[.string ⟨#[]⟩, .string ⟨#[]⟩, .int .i64 0])) w) : wpList P ops Q (o :: rest) a w := by
  refine wpList_plain hg fun K' hK' => ?_
  have hrun := look_miss false hown K ht hz hkey hf
  unfold Oper.wp
  simp [execOp, hop, hm, hx, hrun, Result.andThen]
  exact hK' _ _ hK
theorem wpList_store_fl (hg : o.guard = none) (m x v : Operand) (t : TypeId) (hop : o.op = Op.mapUpdate t m x v) (k e : TypeId) (K : Keyed P k) (ht : P.underlying t = some (.map k e))
    (b n : Nat) (L : List Fl) (hm : a.eval m = .map (some b)) (hown : w.ownsMap P k flElem b n (dm L)) (hn : n < maxLen) (f : Fl) (hx : a.eval x = .string f.name) (hv : a.eval v = .agg #[.string f.name, .string f.bytes, .int .i64 (f.safe : Int)]) (hkey : keyOf P k (.string f.name) = some (.string f.name.data.toList))
    (hK : ∀ w', w'.ownsMap P k flElem b (putF f L).length (dm (putF f L)) → w.grownBy w' (some b) → wpList P ops Q rest (a.put o.dst undef) w') : wpList P ops Q (o :: rest) a w :=
  wpList_mapUpdate_own w hg m x v t hop k e K ht flElem b n (dm L) hm hown hn (.string f.name) f.val (.string f.name.data.toList) hx hv hkey f.datum [] (flElem_val f) fun w' h1 h2 =>
    hK w' (by rw [dm_put f L] at h1; exact own_len h1) h2
theorem wpList_delete_fl (hg : o.guard = none) (m x : Operand) (t k : TypeId) (hop : o.op = Op.call { callee := Callee.builtin Builtin.delete, args := #[m, x], argTypes := #[t, k] }) (e : TypeId) (K : Keyed P k) (ht : P.underlying t = some (.map k e))
    (b n : Nat) (L : List Fl) (hm : a.eval m = .map (some b)) (hown : w.ownsMap P k flElem b n (dm L)) (key : Value) (kl : List UInt8) (hx : a.eval x = key) (hkey : keyOf P k key = some (.string kl))
    (hK : ∀ w', w'.ownsMap P k flElem b (delF kl L).length (dm (delF kl L)) → w.grownBy w' (some b) → wpList P ops Q rest (a.put o.dst (.tuple #[])) w') : wpList P ops Q (o :: rest) a w :=
  wpList_delete_own w hg m x t k hop e K ht flElem b n (dm L) hm hown key (.string kl) hx hkey fun w' h1 h2 =>
    hK w' (by rw [dm_del kl L] at h1; exact own_len h1) h2.grown
end
end Go.Proofs.YtnpgjlhnlakgpaaGreatDoor
namespace Go.Proofs.YtnpgjlhnlakgpaaGreatDoor
open Go.RowKit Go.Maps

/-- w' is w but for the blocks b and m, and new ones. -/
structure Kp (b m : Nat) (w w' : World) : Prop where
  os : w'.os = w.os
  tape : w'.tape = w.tape
  output : w'.output = w.output
  size : w.heap.size ≤ w'.heap.size
  block : ∀ k, k < w.heap.size → k ≠ b → k ≠ m → w'.heap[k]? = w.heap[k]?
theorem Kp.refl (b m : Nat) (w : World) : Kp b m w w := ⟨rfl, rfl, rfl, Nat.le_refl _, fun _ _ _ _ => rfl⟩
theorem Kp.trans {b m : Nat} {x y z : World} (h : Kp b m x y) (k : Kp b m y z) : Kp b m x z :=
  ⟨k.os.trans h.os, k.tape.trans h.tape, k.output.trans h.output, Nat.le_trans h.size k.size, fun i hi h1 h2 => (k.block i (Nat.lt_of_lt_of_le hi h.size) h1 h2).trans (h.block i hi h1 h2)⟩
theorem Kp.of_below {b m : Nat} {w w' : World} (h : Below w.heap.size w w') : Kp b m w w' := ⟨h.os, h.tape, h.output, h.size, fun k hk _ _ => h.block k hk⟩
theorem Kp.below {b m : Nat} {w0 w w' : World} (hB : Below w0.heap.size w0 w) (h : Kp b m w w') (hb : w0.heap.size ≤ b) (hm : w0.heap.size ≤ m) : Below w0.heap.size w0 w' :=
  hB.trans ⟨h.os, h.tape, h.output, h.size, fun k hk => h.block k (Nat.lt_of_lt_of_le hk hB.size) (by omega) (by omega)⟩
theorem Kp.belowN {B : Nat} {b m : Nat} {w0 w w' : World} (hB : Below B w0 w) (h : Kp b m w w') (hw : B ≤ w.heap.size) (hb : B ≤ b) (hm : B ≤ m) : Below B w0 w' :=
  hB.trans ⟨h.os, h.tape, h.output, h.size, fun k hk => h.block k (by omega) (by omega) (by omega)⟩
theorem Kp.setCell {b m : Nat} {w0 w : World} (h : Kp b m w0 w) (o : Nat) (u : Value) : Kp b m w0 (w.setCell ⟨b, o, none⟩ u) :=
  h.trans ⟨rfl, rfl, rfl, by simp [World.setCell], fun k _ h1 _ => Below.heap_setCell _ _ _ _ h1⟩
theorem Kp.setNew {b m : Nat} {w0 w : World} (h : Kp b m w0 w) {j : Nat} (hj : w0.heap.size ≤ j) (o : Nat) (u : Value) : Kp b m w0 (w.setCell ⟨j, o, none⟩ u) :=
  ⟨h.os, h.tape, h.output, by simpa [World.setCell] using h.size, fun k hk h1 h2 => (Below.heap_setCell _ _ _ _ (by show k ≠ j; omega)).trans (h.block k hk h1 h2)⟩
theorem Kp.alloc {b m : Nat} {w0 w : World} (h : Kp b m w0 w) (o : Obj) : Kp b m w0 (w.alloc o) :=
  h.trans (Kp.of_below ((Below.refl _ _).alloc (Nat.le_refl _) o))
theorem Kp.drew {b m : Nat} {w0 w : World} (h : Kp b m w0 w) : Kp b m w0 w.drew := h.trans (Kp.of_below (Below.refl _ _).drew)
theorem Kp.map {b m : Nat} {w0 w w' : World} (h : Kp b m w0 w) (hg : w.grownBy w' (some m)) : Kp b m w0 w' :=
  h.trans ⟨hg.os, hg.tape, hg.output, hg.size, fun k hk _ h2 => hg.block k hk (by simp; exact h2)⟩
theorem Kp.step {b m : Nat} {w0 w w' : World} (h : Kp b m w0 w) (hb : Below w.heap.size w w') : Kp b m w0 w' := h.trans (Kp.of_below hb)
theorem Kp.cell {b m : Nat} {w w' : World} (h : Kp b m w w') {j : Nat} (hj : j < w.heap.size) (hb : j ≠ b) (hm : j ≠ m) (o : Nat) : w'.cell? ⟨j, o, none⟩ = w.cell? ⟨j, o, none⟩ :=
  World.cell?_of_block (w := w) (h.block j hj hb hm)
theorem Kp.frozen {b m : Nat} {w w' : World} (h : Kp b m w w') {j : Nat} (hj : j < w.heap.size) (hb : j ≠ b) (hm : j ≠ m) (o : Nat) : w'.frozen? ⟨j, o, none⟩ = w.frozen? ⟨j, o, none⟩ :=
  World.frozen?_of_block (w := w) (h.block j hj hb hm)

/-- The seven cells of a disk in block b, and the map in block m. -/
structure DC (P : Program) (k : TypeId) (w : World) (b m : Nat) (room used : Int) (off armed : Bool) (left steps : Int) (L : List Fl) : Prop where
  c0 : w.cell? ⟨b, 0, none⟩ = some (.int .i64 room)
  c1 : w.cell? ⟨b, 1, none⟩ = some (.int .i64 used)
  c2 : w.cell? ⟨b, 2, none⟩ = some (.map (some m))
  c3 : w.cell? ⟨b, 3, none⟩ = some (.bool off)
  c4 : w.cell? ⟨b, 4, none⟩ = some (.bool armed)
  c5 : w.cell? ⟨b, 5, none⟩ = some (.int .i64 left)
  c6 : w.cell? ⟨b, 6, none⟩ = some (.int .i64 steps)
  f1 : w.frozen? ⟨b, 1, none⟩ = false
  f3 : w.frozen? ⟨b, 3, none⟩ = false
  f4 : w.frozen? ⟨b, 4, none⟩ = false
  f5 : w.frozen? ⟨b, 5, none⟩ = false
  f6 : w.frozen? ⟨b, 6, none⟩ = false
  ne : b ≠ m
  own : w.ownsMap P k flElem m L.length (dm L)
section
variable {P : Program} {k : TypeId} {w w' : World} {b m : Nat} {room used left steps : Int} {off armed : Bool} {L : List Fl}
theorem DC.lt (h : DC P k w b m room used off armed left steps L) : b < w.heap.size := World.block_lt_of_cell? w _ h.c0
theorem DC.ltm (h : DC P k w b m room used off armed left steps L) : m < w.heap.size := h.own.lt
theorem DC.of_blocks (h : DC P k w b m room used off armed left steps L) (h1 : w'.heap[b]? = w.heap[b]?) (h2 : w.grownBy w' none ∨ w'.heap[m]? = w.heap[m]?) : DC P k w' b m room used off armed left steps L := by
  have hc : ∀ o, w'.cell? ⟨b, o, none⟩ = w.cell? ⟨b, o, none⟩ := fun o => World.cell?_of_block (w := w) h1
  have hf : ∀ o, w'.frozen? ⟨b, o, none⟩ = w.frozen? ⟨b, o, none⟩ := fun o => World.frozen?_of_block (w := w) h1
  refine ⟨by rw [hc]; exact h.c0, by rw [hc]; exact h.c1, by rw [hc]; exact h.c2, by rw [hc]; exact h.c3, by rw [hc]; exact h.c4, by rw [hc]; exact h.c5, by rw [hc]; exact h.c6,
    by rw [hf]; exact h.f1, by rw [hf]; exact h.f3, by rw [hf]; exact h.f4, by rw [hf]; exact h.f5, by rw [hf]; exact h.f6, h.ne, ?_⟩
  rcases h2 with h2 | h2
  · exact h.own.kept h2 (by simp)
  · obtain ⟨es, clock, hb, r⟩ := h.own
    exact ⟨es, clock, by rw [h2]; exact hb, r⟩
theorem DC.below (h : DC P k w b m room used off armed left steps L) (hB : Below w.heap.size w w') : DC P k w' b m room used off armed left steps L :=
  h.of_blocks (hB.block b h.lt) (.inr (hB.block m h.ltm))
theorem DC.kept {b' m' : Nat} (h : DC P k w b m room used off armed left steps L) (hk : Kp b' m' w w') (h1 : b ≠ b') (h2 : b ≠ m') (h3 : m ≠ b') (h4 : m ≠ m') : DC P k w' b m room used off armed left steps L :=
  h.of_blocks (hk.block b h.lt h1 h2) (.inr (hk.block m h.ltm h3 h4))
theorem DC.alloc (h : DC P k w b m room used off armed left steps L) (o : Obj) : DC P k (w.alloc o) b m room used off armed left steps L := h.below ((Below.refl _ _).alloc (Nat.le_refl _) o)
theorem DC.drew (h : DC P k w b m room used off armed left steps L) : DC P k w.drew b m room used off armed left steps L := h.below (Below.refl _ _).drew
theorem DC.far (h : DC P k w b m room used off armed left steps L) {j : Nat} (h1 : b ≠ j) (h2 : m ≠ j) (o : Nat) (u : Value) : DC P k (w.setCell ⟨j, o, none⟩ u) b m room used off armed left steps L :=
  h.of_blocks (Below.heap_setCell _ _ _ _ h1) (.inr (Below.heap_setCell _ _ _ _ h2))
theorem DC.map (h : DC P k w b m room used off armed left steps L) {L' : List Fl} (hg : w.grownBy w' (some m)) (ho : w'.ownsMap P k flElem m L'.length (dm L')) : DC P k w' b m room used off armed left steps L' := by
  have h1 : w'.heap[b]? = w.heap[b]? := hg.block b h.lt (by simp; exact h.ne)
  have hc : ∀ o, w'.cell? ⟨b, o, none⟩ = w.cell? ⟨b, o, none⟩ := fun o => World.cell?_of_block (w := w) h1
  have hf : ∀ o, w'.frozen? ⟨b, o, none⟩ = w.frozen? ⟨b, o, none⟩ := fun o => World.frozen?_of_block (w := w) h1
  exact ⟨by rw [hc]; exact h.c0, by rw [hc]; exact h.c1, by rw [hc]; exact h.c2, by rw [hc]; exact h.c3, by rw [hc]; exact h.c4, by rw [hc]; exact h.c5, by rw [hc]; exact h.c6,
    by rw [hf]; exact h.f1, by rw [hf]; exact h.f3, by rw [hf]; exact h.f4, by rw [hf]; exact h.f5, by rw [hf]; exact h.f6, h.ne, ho⟩
theorem setc {i j : Nat} {u v : Value} (hij : i ≠ j) (h : w.cell? ⟨b, j, none⟩ = some v) : (w.setCell ⟨b, i, none⟩ u).cell? ⟨b, j, none⟩ = some v := by
  have hne : (⟨b, i, none⟩ : Addr) ≠ ⟨b, j, none⟩ := fun e => hij (Addr.mk.inj e).2.1
  rw [World.cell?_setCell_other (h := hne)]; exact h
theorem sets {i : Nat} {u v : Value} (h : w.cell? ⟨b, i, none⟩ = some v) : (w.setCell ⟨b, i, none⟩ u).cell? ⟨b, i, none⟩ = some u := World.cell?_setCell_same _ _ _ h
theorem setf {i j : Nat} {u : Value} {x : Bool} (h : w.frozen? ⟨b, j, none⟩ = x) : (w.setCell ⟨b, i, none⟩ u).frozen? ⟨b, j, none⟩ = x := by rw [World.frozen?_setCell]; exact h
theorem DC.set1 (h : DC P k w b m room used off armed left steps L) (x : Int) : DC P k (w.setCell ⟨b, 1, none⟩ (.int .i64 x)) b m room x off armed left steps L :=
  ⟨setc (by decide) h.c0, sets h.c1, setc (by decide) h.c2, setc (by decide) h.c3, setc (by decide) h.c4, setc (by decide) h.c5, setc (by decide) h.c6, setf h.f1, setf h.f3, setf h.f4, setf h.f5, setf h.f6, h.ne, h.own.setCell (a := ⟨b, 1, none⟩) (fun e => h.ne e.symm) _⟩
theorem DC.set3 (h : DC P k w b m room used off armed left steps L) (x : Bool) : DC P k (w.setCell ⟨b, 3, none⟩ (.bool x)) b m room used x armed left steps L :=
  ⟨setc (by decide) h.c0, setc (by decide) h.c1, setc (by decide) h.c2, sets h.c3, setc (by decide) h.c4, setc (by decide) h.c5, setc (by decide) h.c6, setf h.f1, setf h.f3, setf h.f4, setf h.f5, setf h.f6, h.ne, h.own.setCell (a := ⟨b, 3, none⟩) (fun e => h.ne e.symm) _⟩
theorem DC.set4 (h : DC P k w b m room used off armed left steps L) (x : Bool) : DC P k (w.setCell ⟨b, 4, none⟩ (.bool x)) b m room used off x left steps L :=
  ⟨setc (by decide) h.c0, setc (by decide) h.c1, setc (by decide) h.c2, setc (by decide) h.c3, sets h.c4, setc (by decide) h.c5, setc (by decide) h.c6, setf h.f1, setf h.f3, setf h.f4, setf h.f5, setf h.f6, h.ne, h.own.setCell (a := ⟨b, 4, none⟩) (fun e => h.ne e.symm) _⟩
theorem DC.set5 (h : DC P k w b m room used off armed left steps L) (x : Int) : DC P k (w.setCell ⟨b, 5, none⟩ (.int .i64 x)) b m room used off armed x steps L :=
  ⟨setc (by decide) h.c0, setc (by decide) h.c1, setc (by decide) h.c2, setc (by decide) h.c3, setc (by decide) h.c4, sets h.c5, setc (by decide) h.c6, setf h.f1, setf h.f3, setf h.f4, setf h.f5, setf h.f6, h.ne, h.own.setCell (a := ⟨b, 5, none⟩) (fun e => h.ne e.symm) _⟩
theorem DC.set6 (h : DC P k w b m room used off armed left steps L) (x : Int) : DC P k (w.setCell ⟨b, 6, none⟩ (.int .i64 x)) b m room used off armed left x L :=
  ⟨setc (by decide) h.c0, setc (by decide) h.c1, setc (by decide) h.c2, setc (by decide) h.c3, setc (by decide) h.c4, setc (by decide) h.c5, sets h.c6, setf h.f1, setf h.f3, setf h.f4, setf h.f5, setf h.f6, h.ne, h.own.setCell (a := ⟨b, 6, none⟩) (fun e => h.ne e.symm) _⟩
end
/-- The disk d stands in block b, its map in block m. -/
def DiskAt (P : Program) (k : TypeId) (w : World) (b m : Nat) (d : Dk) : Prop := DC P k w b m (d.room : Int) (usedF d.L : Int) d.off d.armed (d.left : Int) (d.steps : Int) d.L
end Go.Proofs.YtnpgjlhnlakgpaaGreatDoor

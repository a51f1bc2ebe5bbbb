/- Where the document's log lies in the world. A text put behind a log's others: one step of a region. -/
import Derived.Test.YtnpgjlhnlakgpaaGreatDoorG12
import Derived.Test.YtnpgjlhnlakgpaaGreatDoorG13
import Derived.Test.YtnpgjlhnlakgpaaGreatDoorG15
import Derived.Maps.AppendAt
namespace Go.Proofs.YtnpgjlhnlakgpaaGreatDoor
open Go.RowKit Go.Maps

/-- Texts that lie from o on in block g, in a row of one's own. -/
structure StrAt (w : World) (g o cap : Nat) (L : List (List UInt8)) : Prop where
  blk : ∃ x, w.heap[g]? = some x
  cells : ∀ (i : Nat) (s : List UInt8), L[i]? = some s → w.cell? ⟨g, o + i, none⟩ = some (.string (bs s))
  spare : ∀ i, i < cap → (w.cell? ⟨g, o + i, none⟩).isSome = true ∧ w.frozen? ⟨g, o + i, none⟩ = false
  le : L.length ≤ cap
  max : o + cap ≤ maxLen
theorem StrAt.lt {w : World} {g o cap : Nat} {L : List (List UInt8)} (h : StrAt w g o cap L) : g < w.heap.size := by
  obtain ⟨x, hc⟩ := h.blk
  exact (Array.getElem?_eq_some_iff.1 hc).1
theorem StrAt.of_block {w w' : World} {g o cap : Nat} {L : List (List UInt8)} (h : StrAt w g o cap L) (hb : w'.heap[g]? = w.heap[g]?) : StrAt w' g o cap L :=
  ⟨by rw [hb]; exact h.blk, fun i n hi => by rw [World.cell?_of_block (w := w) hb]; exact h.cells i n hi, fun i hi => by rw [World.cell?_of_block (w := w) hb, World.frozen?_of_block (w := w) hb]; exact h.spare i hi, h.le, h.max⟩
theorem StrAt.drop {w : World} {g o cap : Nat} {L : List (List UInt8)} (h : StrAt w g o cap L) (k : Nat) (hk : k ≤ L.length) : StrAt w g (o + k) (cap - k) (L.drop k) := by
  have := h.le
  exact ⟨h.blk, fun i n hi => by rw [List.getElem?_drop] at hi; have := h.cells (k + i) n hi; rwa [← Nat.add_assoc] at this, fun i hi => by have := h.spare (k + i) (by omega); rwa [← Nat.add_assoc] at this, by rw [List.length_drop]; omega, by have := h.max; omega⟩
/-- A log's texts: nil, or in block ga. -/
def AllW (w : World) (mb ga : Nat) (v : Value) (L : List (List UInt8)) : Prop :=
  (v = .slice none 0 0 ∧ L = [] ∧ ga = mb) ∨ (ga ≠ mb ∧ ∃ o cap, v = .slice (some ⟨ga, o, none⟩) L.length cap ∧ StrAt w ga o cap L)
theorem AllW.of_block {w w' : World} {mb ga : Nat} {v : Value} {L : List (List UInt8)} (h : AllW w mb ga v L) (hb : ga ≠ mb → w'.heap[ga]? = w.heap[ga]?) : AllW w' mb ga v L := by
  rcases h with h | ⟨h1, o, cap, h2, h3⟩
  · exact .inl h
  · exact .inr ⟨h1, o, cap, h2, h3.of_block (hb h1)⟩
theorem AllW.slice {w : World} {mb ga : Nat} {v : Value} {L : List (List UInt8)} (h : AllW w mb ga v L) : ∃ p cap, v = .slice p L.length cap ∧ L.length ≤ cap ∧ (p = none → L = [] ∧ cap = 0) := by
  rcases h with ⟨h1, h2, _⟩ | ⟨_, o, cap, h2, h3⟩
  · subst h2; exact ⟨none, 0, h1, Nat.le_refl _, fun _ => ⟨rfl, rfl⟩⟩
  · exact ⟨_, cap, h2, h3.le, fun e => by cases e⟩
theorem AllW.txt {w : World} {mb ga : Nat} {v : Value} {L : List (List UInt8)} (h : AllW w mb ga v L) : ∃ p cap, v = .slice p L.length cap ∧ L.length ≤ cap ∧ (L = [] ∨ ∃ o, p = some ⟨ga, o, none⟩ ∧ ∀ (i : Nat) (s : List UInt8), L[i]? = some s → w.cell? ⟨ga, o + i, none⟩ = some (.string (bs s))) := by
  rcases h with ⟨h1, h2, _⟩ | ⟨_, o, cap, h2, h3⟩
  · subst h2; exact ⟨none, 0, h1, Nat.le_refl _, .inl rfl⟩
  · exact ⟨_, cap, h2, h3.le, .inr ⟨o, rfl, h3.cells⟩⟩
/-- The document's log r lies in block mb, on the disk in block rb, its numbers in block g, its texts in block ga. -/
structure RgW (w : World) (B mb rb g ga : Nat) (r : Rg) : Prop where
  c0 : w.cell? ⟨mb, 0, none⟩ = some (.pointer (some ⟨rb, 0, none⟩))
  c1 : w.cell? ⟨mb, 1, none⟩ = some (.int .i64 (r.seg : Int))
  c2 : ∃ o cap, w.cell? ⟨mb, 2, none⟩ = some (.slice (some ⟨g, o, none⟩) r.nums.length cap) ∧ NumAt w g o cap r.nums
  c3 : ∃ v, w.cell? ⟨mb, 3, none⟩ = some v ∧ AllW w mb ga v r.all
  c4 : w.cell? ⟨mb, 4, none⟩ = some (.int .i64 (r.last : Int))
  f2 : w.frozen? ⟨mb, 2, none⟩ = false
  f3 : w.frozen? ⟨mb, 3, none⟩ = false
  f4 : w.frozen? ⟨mb, 4, none⟩ = false
  ne : g ≠ mb ∧ g ≠ ga
  bel : B ≤ mb ∧ B ≤ g ∧ B ≤ ga ∧ B ≤ w.heap.size
section
variable {w w' : World} {B mb rb rg g ga : Nat} {r : Rg} {d : Dk}
theorem RgW.lt (h : RgW w B mb rb g ga r) : mb < w.heap.size ∧ g < w.heap.size ∧ ga < w.heap.size := by
  obtain ⟨o, cap, _, hn⟩ := h.c2
  obtain ⟨v, _, hv⟩ := h.c3
  have h0 := World.block_lt_of_cell? w _ h.c0
  refine ⟨h0, hn.lt, ?_⟩
  rcases hv with ⟨_, _, e⟩ | ⟨_, o, cap, _, h3⟩
  · rw [e]; exact h0
  · exact h3.lt
theorem RgW.of (h : RgW w B mb rb g ga r) (h1 : w'.heap[mb]? = w.heap[mb]?) (h2 : w'.heap[g]? = w.heap[g]?) (h3 : w'.heap[ga]? = w.heap[ga]?) (hz : w.heap.size ≤ w'.heap.size) : RgW w' B mb rb g ga r := by
  have c := fun o => World.cell?_of_block (w := w) (w' := w') (a := ⟨mb, o, none⟩) h1
  have f := fun o => World.frozen?_of_block (w := w) (w' := w') (a := ⟨mb, o, none⟩) h1
  obtain ⟨o, cap, hc, hn⟩ := h.c2
  obtain ⟨v, hv, ha⟩ := h.c3
  obtain ⟨b1, b2, b3, b4⟩ := h.bel
  exact ⟨(c 0).trans h.c0, (c 1).trans h.c1, ⟨o, cap, (c 2).trans hc, hn.of_block h2⟩, ⟨v, (c 3).trans hv, ha.of_block fun _ => h3⟩, (c 4).trans h.c4, (f 2).trans h.f2, (f 3).trans h.f3, (f 4).trans h.f4, h.ne, ⟨b1, b2, b3, by omega⟩⟩
theorem RgW.setlast (h : RgW w B mb rb g ga r) (u : Nat) : RgW (w.setCell ⟨mb, 4, none⟩ (.int .i64 (u : Int))) B mb rb g ga { r with last := u } := by
  have c : ∀ o, o ≠ 4 → (w.setCell ⟨mb, 4, none⟩ (.int .i64 (u : Int))).cell? ⟨mb, o, none⟩ = w.cell? ⟨mb, o, none⟩ := fun o ho => World.cell?_setCell_other _ _ _ _ (fun e => ho (by cases e; rfl))
  have f : ∀ o, (w.setCell ⟨mb, 4, none⟩ (.int .i64 (u : Int))).frozen? ⟨mb, o, none⟩ = w.frozen? ⟨mb, o, none⟩ := fun o => World.frozen?_setCell ..
  obtain ⟨o, cap, hc, hn⟩ := h.c2
  obtain ⟨v, hv, ha⟩ := h.c3
  obtain ⟨b1, b2, b3, b4⟩ := h.bel
  exact ⟨(c 0 (by decide)).trans h.c0, (c 1 (by decide)).trans h.c1, ⟨o, cap, (c 2 (by decide)).trans hc, hn.of_block (Below.heap_setCell _ _ _ _ h.ne.1)⟩, ⟨v, (c 3 (by decide)).trans hv, ha.of_block fun e => Below.heap_setCell _ _ _ _ e⟩, World.cell?_setCell_same _ _ _ h.c4, (f 2).trans h.f2, (f 3).trans h.f3, (f 4).trans h.f4, h.ne, ⟨b1, b2, b3, by simpa using b4⟩⟩
theorem RgW.renum (h : RgW w B mb rb g ga r) {g' o cap : Nat} {nums : List Nat} (hn : NumAt w g' o cap nums) (h1 : g' ≠ mb) (h2 : g' ≠ ga) (h3 : B ≤ g') :
    RgW (w.setCell ⟨mb, 2, none⟩ (.slice (some ⟨g', o, none⟩) nums.length cap)) B mb rb g' ga { r with nums := nums } := by
  have c : ∀ j, j ≠ 2 → (w.setCell ⟨mb, 2, none⟩ (.slice (some ⟨g', o, none⟩) nums.length cap)).cell? ⟨mb, j, none⟩ = w.cell? ⟨mb, j, none⟩ := fun o ho => World.cell?_setCell_other _ _ _ _ (fun e => ho (by cases e; rfl))
  have f : ∀ j, (w.setCell ⟨mb, 2, none⟩ (.slice (some ⟨g', o, none⟩) nums.length cap)).frozen? ⟨mb, j, none⟩ = w.frozen? ⟨mb, j, none⟩ := fun o => World.frozen?_setCell ..
  obtain ⟨o0, cap0, hc, _⟩ := h.c2
  obtain ⟨v, hv, ha⟩ := h.c3
  obtain ⟨b1, b2, b3, b4⟩ := h.bel
  exact ⟨(c 0 (by decide)).trans h.c0, (c 1 (by decide)).trans h.c1, ⟨o, cap, World.cell?_setCell_same _ _ _ hc, hn.of_block (Below.heap_setCell _ _ _ _ h1)⟩, ⟨v, (c 3 (by decide)).trans hv, ha.of_block fun e => Below.heap_setCell _ _ _ _ e⟩, (c 4 (by decide)).trans h.c4, (f 2).trans h.f2, (f 3).trans h.f3, (f 4).trans h.f4, ⟨h1, h2⟩, ⟨b1, h3, b3, by simpa using b4⟩⟩
theorem RgW.reall (h : RgW w B mb rb g ga r) {ga' : Nat} {v : Value} {L : List (List UInt8)} (hn : AllW w mb ga' v L) (h1 : g ≠ ga') (h3 : B ≤ ga') :
    RgW (w.setCell ⟨mb, 3, none⟩ v) B mb rb g ga' { r with all := L } := by
  have c : ∀ j, j ≠ 3 → (w.setCell ⟨mb, 3, none⟩ v).cell? ⟨mb, j, none⟩ = w.cell? ⟨mb, j, none⟩ := fun o ho => World.cell?_setCell_other _ _ _ _ (fun e => ho (by cases e; rfl))
  have f : ∀ j, (w.setCell ⟨mb, 3, none⟩ v).frozen? ⟨mb, j, none⟩ = w.frozen? ⟨mb, j, none⟩ := fun o => World.frozen?_setCell ..
  obtain ⟨o0, cap0, hc, hnn⟩ := h.c2
  obtain ⟨v0, hv, ha⟩ := h.c3
  obtain ⟨b1, b2, b3, b4⟩ := h.bel
  exact ⟨(c 0 (by decide)).trans h.c0, (c 1 (by decide)).trans h.c1, ⟨o0, cap0, (c 2 (by decide)).trans hc, hnn.of_block (Below.heap_setCell _ _ _ _ h.ne.1)⟩, ⟨v, World.cell?_setCell_same _ _ _ hv, hn.of_block fun e => Below.heap_setCell _ _ _ _ e⟩, (c 4 (by decide)).trans h.c4, (f 2).trans h.f2, (f 3).trans h.f3, (f 4).trans h.f4, ⟨h.ne.1, h1⟩, ⟨b1, b2, h3, by simpa using b4⟩⟩
/-- All is kept but five blocks. -/
structure KR (mb rb rg g ga : Nat) (w w' : World) : Prop where
  os : w'.os = w.os
  tape : w'.tape = w.tape
  output : w'.output = w.output
  size : w.heap.size ≤ w'.heap.size
  block : ∀ k, k < w.heap.size → k ≠ mb → k ≠ rb → k ≠ rg → k ≠ g → k ≠ ga → w'.heap[k]? = w.heap[k]?
theorem KR.refl (mb rb rg g ga : Nat) (w : World) : KR mb rb rg g ga w w := ⟨rfl, rfl, rfl, Nat.le_refl _, fun _ _ _ _ _ _ _ => rfl⟩
theorem KR.trans {rg' g' ga' : Nat} {w0 : World} (h : KR mb rb rg g ga w0 w) (k : KR mb rb rg' g' ga' w w') (h1 : rg' = rg ∨ rg' = rb ∨ w0.heap.size ≤ rg') (h2 : g' = g ∨ w0.heap.size ≤ g') (h3 : ga' = ga ∨ w0.heap.size ≤ ga') : KR mb rb rg g ga w0 w' :=
  ⟨k.os.trans h.os, k.tape.trans h.tape, k.output.trans h.output, Nat.le_trans h.size k.size, fun j hj a1 a2 a3 a4 a5 =>
    (k.block j (Nat.lt_of_lt_of_le hj h.size) a1 a2 (by rcases h1 with e | e | e; exact e ▸ a3; exact e ▸ a2; omega) (by rcases h2 with e | e; exact e ▸ a4; omega) (by rcases h3 with e | e; exact e ▸ a5; omega)).trans (h.block j hj a1 a2 a3 a4 a5)⟩
theorem KR.of_kp (h : Kp rb rg w w') : KR mb rb rg g ga w w' := ⟨h.os, h.tape, h.output, h.size, fun k hk _ h2 h3 _ _ => h.block k hk h2 h3⟩
theorem KR.of_below (h : Below w.heap.size w w') : KR mb rb rg g ga w w' := KR.of_kp (Kp.of_below h)
theorem KR.below {w0 : World} (h : KR mb rb rg g ga w0 w) (k : Below w.heap.size w w') : KR mb rb rg g ga w0 w' := h.trans (KR.of_below (rg := rg) (g := g) (ga := ga) k) (.inl rfl) (.inl rfl) (.inl rfl)
theorem KR.set {w0 : World} (h : KR mb rb rg g ga w0 w) (o : Nat) (u : Value) : KR mb rb rg g ga w0 (w.setCell ⟨mb, o, none⟩ u) :=
  h.trans (rg' := rg) (g' := g) (ga' := ga) ⟨rfl, rfl, rfl, by simp, fun k _ h1 _ _ _ _ => Below.heap_setCell _ _ _ _ h1⟩ (.inl rfl) (.inl rfl) (.inl rfl)
theorem KR.grown {w0 : World} (h : KR mb rb rg g ga w0 w) {j : Nat} (hg : w.grownBy w' (some j)) (hj : j = g ∨ j = ga ∨ w0.heap.size ≤ j) : KR mb rb rg g ga w0 w' :=
  ⟨hg.os.trans h.os, hg.tape.trans h.tape, hg.output.trans h.output, Nat.le_trans h.size hg.size, fun k hk a1 a2 a3 a4 a5 =>
    (hg.block k (Nat.lt_of_lt_of_le hk h.size) (fun e => by have := Option.some.inj e; omega)).trans (h.block k hk a1 a2 a3 a4 a5)⟩
theorem KR.cell (h : KR mb rb rg g ga w w') {j : Nat} (hj : j < w.heap.size) (h1 : j ≠ mb) (h2 : j ≠ rb) (h3 : j ≠ rg) (h4 : j ≠ g) (h5 : j ≠ ga) (o : Nat) : w'.cell? ⟨j, o, none⟩ = w.cell? ⟨j, o, none⟩ :=
  World.cell?_of_block (h.block j hj h1 h2 h3 h4 h5)
theorem KR.belowN {w0 : World} (hb : Below B w0 w) (h : KR mb rb rg g ga w w') (h0 : B ≤ w.heap.size) (h1 : B ≤ mb) (h2 : B ≤ rb) (h3 : B ≤ rg) (h4 : B ≤ g) (h5 : B ≤ ga) : Below B w0 w' :=
  hb.trans ⟨h.os, h.tape, h.output, h.size, fun k hk => h.block k (by omega) (by omega) (by omega) (by omega) (by omega) (by omega)⟩
/-- The document's log r on its disk d. -/
structure RgS (w : World) (B mb rb rg g ga : Nat) (r : Rg) (d : Dk) : Prop where
  L : RgW w B mb rb g ga r
  D : RAt w rb rg d
  ne : mb ≠ rb ∧ mb ≠ rg ∧ g ≠ rb ∧ g ≠ rg ∧ ga ≠ rb ∧ ga ≠ rg
  b : B ≤ rb
theorem RgS.lt (h : RgS w B mb rb rg g ga r d) : mb < w.heap.size ∧ g < w.heap.size ∧ ga < w.heap.size ∧ rb < w.heap.size ∧ rg < w.heap.size ∧ rb ≤ rg := by
  obtain ⟨h1, h2, h3⟩ := h.L.lt
  exact ⟨h1, h2, h3, h.D.lt, h.D.ltg.1, h.D.ltg.2⟩
theorem RgS.of (h : RgS w B mb rb rg g ga r d) (h1 : w'.heap[mb]? = w.heap[mb]?) (h2 : w'.heap[g]? = w.heap[g]?) (h3 : w'.heap[ga]? = w.heap[ga]?) (h4 : w'.heap[rb]? = w.heap[rb]?) (h5 : w'.heap[rg]? = w.heap[rg]?) (hz : w.heap.size ≤ w'.heap.size) : RgS w' B mb rb rg g ga r d :=
  ⟨h.L.of h1 h2 h3 hz, h.D.of h4 h5, h.ne, h.b⟩
theorem RgS.below (h : RgS w B mb rb rg g ga r d) (hb : Below w.heap.size w w') : RgS w' B mb rb rg g ga r d := by
  obtain ⟨h1, h2, h3, h4, h5, _⟩ := h.lt
  exact h.of (hb.block _ h1) (hb.block _ h2) (hb.block _ h3) (hb.block _ h4) (hb.block _ h5) hb.size
theorem RgS.drew (h : RgS w B mb rb rg g ga r d) : RgS w.drew B mb rb rg g ga r d := h.below (Below.refl _ _).drew
theorem RgS.drewN {n : Nat} (h : RgS w B mb rb rg g ga r d) : RgS (w.drewN n) B mb rb rg g ga r d := h.of rfl rfl rfl rfl rfl (Nat.le_refl _)
theorem RgS.alloc (h : RgS w B mb rb rg g ga r d) (x : Obj) : RgS (w.alloc x) B mb rb rg g ga r d := h.below ((Below.refl _ _).alloc (Nat.le_refl _) x)
/-- Behind a call of the disk. -/
theorem RgS.rout {d' : Dk} (h : RgS w B mb rb rg g ga r d) (ho : ROut w w' rb rg d') : ∃ rg', RgS w' B mb rb rg' g ga r d' ∧ (rg' = rg ∨ rg' = rb ∨ w.heap.size ≤ rg') ∧ KR mb rb rg g ga w w' := by
  obtain ⟨⟨rg', h1, h2⟩, hk⟩ := ho
  obtain ⟨l1, l2, l3, l4, l5, l6⟩ := h.lt
  obtain ⟨n1, n2, n3, n4, n5, n6⟩ := h.ne
  refine ⟨rg', ⟨h.L.of (hk.block _ l1 n1 n2) (hk.block _ l2 n3 n4) (hk.block _ l3 n5 n6) hk.size, h1, ?_, h.b⟩, h2, KR.of_kp hk⟩
  rcases h2 with rfl | rfl | h2
  · exact ⟨n1, n2, n3, n4, n5, n6⟩
  · exact ⟨n1, n1, n3, n3, n5, n5⟩
  · exact ⟨n1, by omega, n3, by omega, n5, by omega⟩
theorem RAt.far {b : Nat} {j : Nat} (h : RAt w b rg d) (h1 : b ≠ j) (h2 : rg ≠ j) (o : Nat) (u : Value) : RAt (w.setCell ⟨j, o, none⟩ u) b rg d :=
  h.of (Below.heap_setCell _ _ _ _ h1) (Below.heap_setCell _ _ _ _ h2)
theorem RgS.setlast (h : RgS w B mb rb rg g ga r d) (u : Nat) : RgS (w.setCell ⟨mb, 4, none⟩ (.int .i64 (u : Int))) B mb rb rg g ga { r with last := u } d :=
  ⟨h.L.setlast u, h.D.far (fun e => h.ne.1 e.symm) (fun e => h.ne.2.1 e.symm) _ _, h.ne, h.b⟩
theorem RgS.renum (h : RgS w B mb rb rg g ga r d) {g' o cap : Nat} {nums : List Nat} (hn : NumAt w g' o cap nums) (h1 : g' ≠ mb) (h2 : g' ≠ ga) (h3 : B ≤ g') (h4 : g' ≠ rb) (h5 : g' ≠ rg) :
    RgS (w.setCell ⟨mb, 2, none⟩ (.slice (some ⟨g', o, none⟩) nums.length cap)) B mb rb rg g' ga { r with nums := nums } d := by
  obtain ⟨n1, n2, n3, n4, n5, n6⟩ := h.ne
  exact ⟨h.L.renum hn h1 h2 h3, h.D.far (fun e => n1 e.symm) (fun e => n2 e.symm) _ _, ⟨n1, n2, h4, h5, n5, n6⟩, h.b⟩
theorem RgS.reall (h : RgS w B mb rb rg g ga r d) {ga' : Nat} {v : Value} {L : List (List UInt8)} (hn : AllW w mb ga' v L) (h1 : g ≠ ga') (h3 : B ≤ ga') (h4 : ga' ≠ rb) (h5 : ga' ≠ rg) :
    RgS (w.setCell ⟨mb, 3, none⟩ v) B mb rb rg g ga' { r with all := L } d := by
  obtain ⟨n1, n2, n3, n4, n5, n6⟩ := h.ne
  exact ⟨h.L.reall hn h1 h3, h.D.far (fun e => n1 e.symm) (fun e => n2 e.symm) _ _, ⟨n1, n2, n3, n4, h4, h5⟩, h.b⟩
end
/-- What a call of the document's log leaves. -/
def RgOut (w w' : World) (B mb rb rg g ga : Nat) (r : Rg) (d : Dk) : Prop :=
  ∃ rg' g' ga', RgS w' B mb rb rg' g' ga' r d ∧ KR mb rb rg g ga w w' ∧ (rg' = rg ∨ rg' = rb ∨ w.heap.size ≤ rg') ∧ (g' = g ∨ w.heap.size ≤ g') ∧ (ga' = ga ∨ w.heap.size ≤ ga')
theorem RgOut.same {w w' : World} {B mb rb rg g ga : Nat} {r : Rg} {d : Dk} (h : RgS w' B mb rb rg g ga r d) (k : KR mb rb rg g ga w w') : RgOut w w' B mb rb rg g ga r d := ⟨rg, g, ga, h, k, .inl rfl, .inl rfl, .inl rfl⟩
theorem RgOut.trans {w w1 w' : World} {B mb rb rg g ga : Nat} {r r' : Rg} {d d' : Dk} (h : RgOut w w1 B mb rb rg g ga r d) (k : ∀ rg' g' ga', RgS w1 B mb rb rg' g' ga' r d → RgOut w1 w' B mb rb rg' g' ga' r' d') : RgOut w w' B mb rb rg g ga r' d' := by
  obtain ⟨rg1, g1, ga1, h1, h2, h3, h4, h5⟩ := h
  obtain ⟨rg2, g2, ga2, k1, k2, k3, k4, k5⟩ := k _ _ _ h1
  have hz := h2.size
  refine ⟨rg2, g2, ga2, k1, h2.trans k2 h3 h4 h5, ?_, ?_, ?_⟩
  · rcases k3 with rfl | rfl | k3
    · exact h3
    · exact .inr (.inl rfl)
    · exact .inr (.inr (by omega))
  · rcases k4 with rfl | k4
    · exact h4
    · exact .inr (by omega)
  · rcases k5 with rfl | k5
    · exact h5
    · exact .inr (by omega)
end Go.Proofs.YtnpgjlhnlakgpaaGreatDoor
namespace Go.Proofs.YtnpgjlhnlakgpaaGreatDoor
open Go.RowKit Go.Maps

theorem NumAt.allocQ {w : World} {g o cap : Nat} {nums : List Nat} (h : NumAt w g o cap nums) (x : Obj) : NumAt (w.alloc x) g o cap nums := h.of_block (heap_alloc_old w x h.lt)
theorem NumAt.drewQ {w : World} {g o cap : Nat} {nums : List Nat} (h : NumAt w g o cap nums) : NumAt w.drew g o cap nums := h.of_block rfl
theorem string_sizes : (Tryz.prog.info? 9).map (fun i => (i.zero, i.size, i.bytes)) = some (some (.string ⟨#[]⟩), 1, 16) := by kernel_rfl
/-- A row of one's own, from its beginning. -/
theorem StrAt.of_own {w : World} {B : Nat} {v : Value} {n : Nat} {L : List (List UInt8)} (h : w.ownsRow B 9 1 v n (recVals L)) (hn : n = L.length) (h0 : 0 < n) : ∃ g cap, v = .slice (some ⟨g, 0, none⟩) L.length cap ∧ StrAt w g 0 cap L ∧ B ≤ g := by
  subst hn
  rcases h.2 with ⟨_, h1⟩ | ⟨g, cap, cur, hv, hg, hh, hnc, hcm, hcs, ht⟩
  · omega
  rw [Nat.mul_one] at hcs ht
  refine ⟨g, cap, hv, ⟨⟨_, hh⟩, fun i s hi => ?_, fun i hi => ?_, hnc, by simpa using hcm⟩, hg⟩
  · rw [Nat.zero_add]
    have hil : i < L.length := (List.getElem?_eq_some_iff.1 hi).1
    unfold World.cell?
    rw [hh]
    show cur[i]? = _
    have h1 : cur.toList[i]? = (recVals L)[i]? := by rw [← ht, List.getElem?_take_of_lt hil]
    rw [← Array.getElem?_toList, h1]
    unfold recVals
    rw [List.getElem?_map, hi]
    rfl
  · rw [Nat.zero_add]
    refine ⟨?_, ?_⟩
    · unfold World.cell?
      rw [hh]
      show (cur[i]?).isSome = true
      rw [Array.getElem?_eq_getElem (by omega)]
      rfl
    · unfold World.frozen?
      rw [hh]
      simp
/-- Behind an append of a text. -/
structure AppS (w w' : World) (mb ga : Nat) (v : Value) (L : List (List UInt8)) (x : List UInt8) (ga' : Nat) (v' : Value) : Prop where
  all : AllW w' mb ga' v' (L ++ [x])
  old : ga ≠ mb → AllW w' mb ga v L
  g : ga' = ga ∨ w.heap.size ≤ ga'
  grown : w.grownBy w' (if ga = mb then none else some ga)
theorem AppS.mb {w w' : World} {mb ga : Nat} {v v' : Value} {L : List (List UInt8)} {x : List UInt8} {ga' : Nat} (h : AppS w w' mb ga v L x ga' v') (hm : mb < w.heap.size) : w'.heap[mb]? = w.heap[mb]? := h.grown.block mb hm (by
  by_cases e : ga = mb
  · rw [if_pos e]; simp
  · rw [if_neg e]; intro e2; exact e (Option.some.inj e2).symm)
theorem append_str (w : World) (ty : TypeId) {mb ga : Nat} {p : Option Addr} {cap : Nat} {L : List (List UInt8)} {x : List UInt8} (hmb : mb < w.heap.size) (hA : AllW w mb ga (.slice p L.length cap) L) (ad : Addr) (c : Nat) (hc : w.cell? ad = some (.string (bs x))) (hle : L.length + 1 ≤ 1000000000001) :
    ∃ ga' p' cap' w', (Builtin.append_ #[55, 55] ty #[.slice p L.length cap, .slice (some ad) 1 c]).run Tryz.prog w = .ok (.slice p' (L.length + 1) cap') w' ∧
      AppS w w' mb ga (.slice p L.length cap) L x ga' (.slice p' (L.length + 1) cap') := by
  obtain ⟨i0, hi0, hz0, hz1, hz2⟩ := info_parts string_sizes
  have hnews : ∀ (j : Nat) u, [Value.string (bs x)][j]? = some u → w.cell? (ad.add j) = some u := by
    intro j u hj
    match j, hj with
    | 0, hj =>
      have : ad.add 0 = ad := by cases ad; unfold Addr.add; split <;> simp_all
      rw [this, hc]
      simpa using hj
  rcases hA with ⟨e1, e2, e3⟩ | ⟨hne, o, cap2, e1, hN⟩
  · subst e2
    injection e1 with e4 e5 e6
    subst e4 e6
    obtain ⟨v', w', hrun, r1, r2, _⟩ := run_append_own (P := Tryz.prog) w w.heap.size 55 ty 9 i0 (.string ⟨#[]⟩) 1 16 Tryz.underlying55 hi0 hz0 hz1 hz2 rfl (by decide) (.slice none 0 0) 0 [] (World.ownsRow_nil _ _ _ _) ad 1 c [.string (bs x)] rfl hnews (by simp [Value.oneCell']) (by unfold maxLen; omega) (by omega) (Nat.le_refl _)
    obtain ⟨g', cap', rfl, hS, hg⟩ := StrAt.of_own (L := [x]) r1 rfl (by omega)
    have hlt := hS.lt
    have hg1 : g' ≠ mb := by omega
    exact ⟨g', _, cap', w', hrun, ⟨.inr ⟨hg1, 0, cap', rfl, hS⟩, fun h => absurd e3 h, .inr hg, by rw [if_pos e3]; exact r2⟩⟩
  · injection e1 with e4 e5 e6
    subst e4 e6
    have hm := hN.max
    have hl := hN.le
    unfold maxLen at hm
    by_cases hr : L.length + 1 ≤ cap
    · have hs := hN.spare L.length (by omega)
      have hrun := run_append_room_cells (P := Tryz.prog) w 55 ty 9 i0 Tryz.underlying55 hi0 ga o L.length cap ad 1 c [.string (bs x)] (by rw [hz1]; rfl) hnews (by simp [Value.oneCell']) hr
        (fun j hj => by rw [hz1, Nat.mul_one]; simp at hj; subst hj; exact hs.1) (fun j hj => by rw [hz1, Nat.mul_one]; simp at hj; subst hj; exact hs.2)
      rw [hz1, Nat.mul_one] at hrun
      obtain ⟨u0, hu0⟩ := Option.isSome_iff_exists.1 hs.1
      have cc : ∀ i, i ≠ L.length → (w.setCells ga (o + L.length) [.string (bs x)]).cell? ⟨ga, o + i, none⟩ = w.cell? ⟨ga, o + i, none⟩ := fun i hi => World.cell?_setCell_other _ _ _ _ (fun e => hi (by have := (Addr.mk.inj e).2.1; omega))
      have cs : (w.setCells ga (o + L.length) [.string (bs x)]).cell? ⟨ga, o + L.length, none⟩ = some (.string (bs x)) := World.cell?_setCell_same _ _ _ hu0
      have ff : ∀ i, (w.setCells ga (o + L.length) [.string (bs x)]).frozen? ⟨ga, o + i, none⟩ = w.frozen? ⟨ga, o + i, none⟩ := fun i => World.frozen?_setCells ..
      have hb : ∃ x', (w.setCells ga (o + L.length) [.string (bs x)]).heap[ga]? = some x' := by
        have := World.block_lt_of_cell? _ _ cs
        exact ⟨_, Array.getElem?_eq_getElem this⟩
      have hsp : ∀ i, i < cap → ((w.setCells ga (o + L.length) [.string (bs x)]).cell? ⟨ga, o + i, none⟩).isSome = true ∧ (w.setCells ga (o + L.length) [.string (bs x)]).frozen? ⟨ga, o + i, none⟩ = false := fun i hi => by
        refine ⟨?_, by rw [ff]; exact (hN.spare i hi).2⟩
        by_cases h : i = L.length
        · subst h; rw [cs]; rfl
        · rw [cc i h]; exact (hN.spare i hi).1
      have h1 : StrAt (w.setCells ga (o + L.length) [.string (bs x)]) ga o cap (L ++ [x]) := by
        refine ⟨hb, fun i n hi => ?_, hsp, by simpa using hr, hN.max⟩
        by_cases h : i = L.length
        · subst h
          rw [List.getElem?_append_right (Nat.le_refl _)] at hi
          simp at hi
          subst hi
          exact cs
        · have hlt : i < L.length := by
            have := (List.getElem?_eq_some_iff.1 hi).1
            simp at this
            omega
          rw [cc i h]
          rw [List.getElem?_append_left hlt] at hi
          exact hN.cells i n hi
      have h0 : StrAt (w.setCells ga (o + L.length) [.string (bs x)]) ga o cap L :=
        ⟨hb, fun i n hi => h1.cells i n (by rw [List.getElem?_append_left (List.getElem?_eq_some_iff.1 hi).1]; exact hi), hsp, hl, hN.max⟩
      refine ⟨ga, _, cap, _, hrun, ⟨.inr ⟨hne, o, cap, by rw [List.length_append]; rfl, h1⟩, fun _ => .inr ⟨hne, o, cap, rfl, h0⟩, .inl rfl, ?_⟩⟩
      rw [if_neg hne]
      exact ⟨rfl, rfl, rfl, by simp [World.setCells], fun k _ hk => Below.heap_setCell _ _ _ _ (fun e => hk (by rw [e]))⟩
    · have holds : ∀ (j : Nat) u, (recVals L)[j]? = some u → w.cell? ((⟨ga, o, none⟩ : Addr).add j) = some u := by
        intro j u hj
        rw [Addr.add_lit]
        unfold recVals at hj
        rw [List.getElem?_map] at hj
        obtain ⟨n, hn, rfl⟩ := Option.map_eq_some_iff.1 hj
        exact hN.cells j n hn
      obtain ⟨v', w', hrun, r1, r2⟩ := run_append_arg_grows (P := Tryz.prog) w 55 ty 9 i0 (.string ⟨#[]⟩) 1 16 Tryz.underlying55 hi0 hz0 hz1 hz2 rfl (by decide) ⟨ga, o, none⟩ L.length cap (recVals L) (by simp [recVals]) holds ad 1 c [.string (bs x)] rfl hnews (by omega) (by unfold maxLen; omega) (by omega)
      have e : recVals L ++ [.string (bs x)] = recVals (L ++ [x]) := by simp [recVals]
      rw [e] at r1
      obtain ⟨g', cap', rfl, hS, hg⟩ := StrAt.of_own (L := L ++ [x]) r1 (by simp) (by omega)
      rw [List.length_append] at hrun
      have hg1 : g' ≠ mb := by omega
      refine ⟨g', _, cap', w', hrun, ⟨.inr ⟨hg1, 0, cap', by rw [List.length_append]; rfl, hS⟩, fun _ => .inr ⟨hne, o, cap, rfl, hN.of_block (r2.block ga hN.lt (by simp))⟩, .inr hg, ?_⟩⟩
      rw [if_neg hne]
      exact ⟨r2.os, r2.tape, r2.output, r2.size, fun k hk _ => r2.block k hk (by simp)⟩
theorem step_append_str {ops : Array Oper} {op : Oper} {a : Act} {K : Act → World → Prop} {Q : Exit → Act → World → Prop} {E : Prop} {w : World} (hgd : op.guard = none) (s x : Operand)
    (ho : op.op = Op.call { callee := Callee.builtin Builtin.append, args := #[s, x], argTypes := #[55, 55] }) {mb ga : Nat} {p : Option Addr} {cap n : Nat} {L : List (List UInt8)} {q : List UInt8} (hn : L.length = n) (hs : a.eval s = .slice p n cap) (hmb : mb < w.heap.size) (hA : AllW w mb ga (.slice p n cap) L)
    (ad : Addr) (c : Nat) (hx : a.eval x = .slice (some ad) 1 c) (hc : w.cell? ad = some (.string (bs q))) (hle : n + 1 ≤ 1000000000001)
    (hK : ∀ ga' p' cap' w', AppS w w' mb ga (.slice p n cap) L q ga' (.slice p' (n + 1) cap') → K (a.put op.dst (.slice p' (n + 1) cap')) w') :
    if Region.wanted op (yielded ops a.tmps) = true then Oper.wp Tryz.prog op a w K Q else E := by
  have hw : Region.wanted op (yielded ops a.tmps) = true := by simp [Region.wanted, hgd]
  rw [if_pos hw]
  subst hn
  obtain ⟨ga', p', cap', w', hrun, h1⟩ := append_str w op.type hmb hA ad c hc hle
  unfold Oper.wp
  simp [execOp, ho, resolve, invoke, builtin, hs, hx, hrun, Result.andThen]
  exact hK ga' p' cap' w' h1
theorem wpList_app_str {w : World} {ops : Array Oper} {rest : List Oper} {o : Oper} {a : Act} {Q : Exit → Act → World → Prop} (hgd : o.guard = none) (s x : Operand)
    (ho : o.op = .call { callee := .builtin .append, args := #[s, x], argTypes := #[55, 55] }) {mb ga : Nat} {p : Option Addr} {cap n : Nat} {L : List (List UInt8)} {q : List UInt8} (hn : L.length = n) (hs : a.eval s = .slice p n cap) (hmb : mb < w.heap.size) (hA : AllW w mb ga (.slice p n cap) L)
    (ad : Addr) (c : Nat) (hx : a.eval x = .slice (some ad) 1 c) (hc : w.cell? ad = some (.string (bs q))) (hle : n + 1 ≤ 1000000000001)
    (h : ∀ ga' p' cap' w', AppS w w' mb ga (.slice p n cap) L q ga' (.slice p' (n + 1) cap') → wpList Tryz.prog ops Q rest (a.put o.dst (.slice p' (n + 1) cap')) w') : wpList Tryz.prog ops Q (o :: rest) a w := by
  refine wpList_plain hgd fun K hK => ?_
  subst hn
  obtain ⟨ga', p', cap', w', hrun, h1⟩ := append_str w o.type hmb hA ad c hc hle
  unfold Oper.wp
  simp [execOp, ho, resolve, invoke, builtin, hs, hx, hrun, Result.andThen]
  exact hK _ _ (h ga' p' cap' w' h1)
section
variable {w w' : World} {B mb rb rg g ga : Nat} {r : Rg} {d : Dk}
/-- The numbers' block alone grew. -/
theorem RgS.grownNum (h : RgS w B mb rb rg g ga r d) (hg : w.grownBy w' (some g)) {o cap : Nat} (hc : w.cell? ⟨mb, 2, none⟩ = some (.slice (some ⟨g, o, none⟩) r.nums.length cap)) (hN : NumAt w' g o cap r.nums) : RgS w' B mb rb rg g ga r d := by
  obtain ⟨l1, l2, l3, l4, l5, l6⟩ := h.lt
  obtain ⟨n1, n2, n3, n4, n5, n6⟩ := h.ne
  obtain ⟨b1, b2, b3, b4⟩ := h.L.bel
  have hb : w'.heap[mb]? = w.heap[mb]? := hg.block mb l1 (fun e => h.L.ne.1 (Option.some.inj e).symm)
  have c := fun o => World.cell?_of_block (a := ⟨mb, o, none⟩) hb
  have f := fun o => World.frozen?_of_block (a := ⟨mb, o, none⟩) hb
  obtain ⟨v, hv, ha⟩ := h.L.c3
  have hz := hg.size
  exact ⟨⟨(c 0).trans h.L.c0, (c 1).trans h.L.c1, ⟨o, cap, (c 2).trans hc, hN⟩, ⟨v, (c 3).trans hv, ha.of_block fun _ => hg.block ga l3 (fun e => h.L.ne.2 (Option.some.inj e).symm)⟩, (c 4).trans h.L.c4, (f 2).trans h.L.f2, (f 3).trans h.L.f3, (f 4).trans h.L.f4, h.L.ne, ⟨b1, b2, b3, by omega⟩⟩,
    h.D.of (hg.block rb l4 (fun e => n3 (Option.some.inj e).symm)) (hg.block rg l5 (fun e => n4 (Option.some.inj e).symm)), h.ne, h.b⟩
/-- Behind an append of a number, ahead of the store. -/
structure AppR (w0 w7 : World) (B mb rb rg g ga : Nat) (r : Rg) (d : Dk) (q g7 o7 cap7 : Nat) : Prop where
  num : NumAt w7 g7 o7 cap7 (r.nums ++ [q])
  st : RgS w7 B mb rb rg g ga r d
  gg : g7 = g ∨ w0.heap.size ≤ g7
  kr : KR mb rb rg g ga w0 w7
  far : g7 ≠ mb ∧ g7 ≠ ga ∧ g7 ≠ rb ∧ g7 ≠ rg ∧ B ≤ g7
theorem AppR.mk' {w0 wN W w7 : World} {o cap q g7 o7 cap7 : Nat} (hB : Below wN.heap.size wN W) (h : RgS wN B mb rb rg g ga r d) (hk : KR mb rb rg g ga w0 wN) (hc : wN.cell? ⟨mb, 2, none⟩ = some (.slice (some ⟨g, o, none⟩) r.nums.length cap))
    (hN : NumAt w7 g7 o7 cap7 (r.nums ++ [q])) (hN' : NumAt w7 g o cap r.nums) (hg : g7 = g ∨ W.heap.size ≤ g7) (hgr : W.grownBy w7 (some g)) : AppR w0 w7 B mb rb rg g ga r d q g7 o7 cap7 := by
  have hW := h.below hB
  obtain ⟨l1, l2, l3, l4, l5, l6⟩ := hW.lt
  obtain ⟨n1, n2, n3, n4, n5, n6⟩ := h.ne
  obtain ⟨b1, b2, b3, b4⟩ := hW.L.bel
  have hkz := hk.size
  have hBz := hB.size
  have hne := h.L.ne
  refine ⟨hN, hW.grownNum hgr ((hB.cell (p := ⟨mb, 2, none⟩) h.lt.1).trans hc) hN', hg.imp id (fun h => by omega), (hk.below hB).grown hgr (.inl rfl), ?_⟩
  rcases hg with rfl | hg
  · exact ⟨hne.1, hne.2, n3, n4, b2⟩
  · exact ⟨by omega, by omega, by omega, by omega, by omega⟩
theorem AppR.done {w0 w7 : World} {q g7 o7 cap7 n : Nat} (h : AppR w0 w7 B mb rb rg g ga r d q g7 o7 cap7) (hn : r.nums.length = n) :
    RgOut w0 (w7.setCell ⟨mb, 2, none⟩ (.slice (some ⟨g7, o7, none⟩) (n + 1) cap7)) B mb rb rg g ga { r with nums := r.nums ++ [q] } d := by
  have h1 := h.st.renum h.num h.far.1 h.far.2.1 h.far.2.2.2.2 h.far.2.2.1 h.far.2.2.2.1
  have e : (r.nums ++ [q]).length = n + 1 := by rw [List.length_append, hn]; rfl
  rw [e] at h1
  exact ⟨rg, g7, ga, h1, h.kr.set _ _, .inl rfl, h.gg, .inl rfl⟩
/-- Behind an append of a text, and its store. -/
theorem AppS.done {w0 W w7 : World} {v v' : Value} {x : List UInt8} {ga7 : Nat} (h : AppS W w7 mb ga v r.all x ga7 v') (hw : RgS w0 B mb rb rg g ga r d) (hB : Below w0.heap.size w0 W) (hc : w0.cell? ⟨mb, 3, none⟩ = some v) :
    RgOut w0 (w7.setCell ⟨mb, 3, none⟩ v') B mb rb rg g ga { r with all := r.all ++ [x] } d := by
  have hW := hw.below hB
  obtain ⟨l1, l2, l3, l4, l5, l6⟩ := hW.lt
  obtain ⟨n1, n2, n3, n4, n5, n6⟩ := hw.ne
  obtain ⟨b1, b2, b3, b4⟩ := hW.L.bel
  have hBz := hB.size
  have hne := hw.L.ne
  have hg := h.grown
  have hz := hg.size
  have blk : ∀ k, k < W.heap.size → k ≠ ga ∨ ga = mb → w7.heap[k]? = W.heap[k]? := fun k hk h1 => hg.block k hk (by
    by_cases e : ga = mb
    · rw [if_pos e]; simp
    · rw [if_neg e]
      intro e2
      have := Option.some.inj e2
      rcases h1 with h1 | h1
      · exact h1 this
      · exact e h1)
  have hmb : w7.heap[mb]? = W.heap[mb]? := blk mb l1 (by by_cases e : ga = mb; exact .inr e; exact .inl (fun q => e q.symm))
  have h7 : RgS w7 B mb rb rg g ga r d := by
    have c := fun o => World.cell?_of_block (a := ⟨mb, o, none⟩) hmb
    have f := fun o => World.frozen?_of_block (a := ⟨mb, o, none⟩) hmb
    obtain ⟨o, cap, hc2, hN⟩ := hW.L.c2
    have hv := (hB.cell (p := ⟨mb, 3, none⟩) hw.lt.1).trans hc
    refine ⟨⟨(c 0).trans hW.L.c0, (c 1).trans hW.L.c1, ⟨o, cap, (c 2).trans hc2, hN.of_block (blk g l2 (.inl hne.2))⟩, ⟨v, (c 3).trans hv, ?_⟩, (c 4).trans hW.L.c4, (f 2).trans hW.L.f2, (f 3).trans hW.L.f3, (f 4).trans hW.L.f4, hne, ⟨b1, b2, b3, by omega⟩⟩,
      hW.D.of (blk rb l4 (.inl (fun e => n5 e.symm))) (blk rg l5 (.inl (fun e => n6 e.symm))), hw.ne, hw.b⟩
    by_cases e : ga = mb
    · obtain ⟨v2, hv2, ha⟩ := hW.L.c3
      rw [hv] at hv2
      obtain rfl := Option.some.inj hv2
      rcases ha with ⟨q1, q2, q3⟩ | ⟨q1, _⟩
      · exact .inl ⟨q1, q2, q3⟩
      · exact absurd e q1
    · exact h.old e
  have hkr : KR mb rb rg g ga w0 w7 := ⟨hg.os.trans hB.os, hg.tape.trans hB.tape, hg.output.trans hB.output, Nat.le_trans hB.size hg.size, fun k hk _ _ _ _ a5 => (blk k (by omega) (.inl a5)).trans (hB.block k hk)⟩
  have hga : ga7 = ga ∨ w0.heap.size ≤ ga7 := h.g.imp id (fun q => by omega)
  have hfar : g ≠ ga7 ∧ B ≤ ga7 ∧ ga7 ≠ rb ∧ ga7 ≠ rg := by
    rcases h.g with rfl | q
    · exact ⟨hne.2, b3, n5, n6⟩
    · exact ⟨by omega, by omega, by omega, by omega⟩
  exact ⟨rg, g, ga7, h7.reall h.all hfar.1 hfar.2.1 hfar.2.2.1 hfar.2.2.2, hkr.set _ _, .inl rfl, .inl rfl, hga⟩
end
end Go.Proofs.YtnpgjlhnlakgpaaGreatDoor

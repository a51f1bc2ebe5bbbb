/- Small facts on worlds: what stays when a call only makes new memory. Contracts of datum.many, datum.truth, datum.of, datum.anyNull: what each call returns. The document's result: a number of a kind, or ErrEval. '==' and '!=' between two values of the program, as one Bool. Contracts of the document's small functions: Many, Bool, only, has. Contract of datum.logic: what NOT, AND, OR of values is. -/
import Derived.WalkKit
import Derived.WalkSpells
import Derived.WalkLawsBesides
import Derived.Lib.Hide
import Derived.Deep.RegionHeld3
import Derived.BigQuiet
import Derived.Test.YtokbdleokihdaaaGreatDoorProg
import Derived.Test.YtokbdleokihdaaaGreatDoorG01
namespace Go.Proofs.YtokbdleokihdaaaGreatDoor
open Go.RowKit

theorem below_drewN {w : World} (n : Nat) : Below w.heap.size w (w.drewN n) := ⟨rfl, rfl, rfl, Nat.le_refl _, fun _ _ => rfl⟩
theorem held_drew {w : World} : Below w.heap.size w w.drew ∧ ∀ b o, b < w.heap.size → w.drew.cell? ⟨b, o, none⟩ = w.cell? ⟨b, o, none⟩ :=
  ⟨(Below.refl _ _).drew, fun _ _ _ => rfl⟩
theorem held_below {w0 w1 w2 : World} (h : Below w0.heap.size w0 w1 ∧ ∀ b o, b < w0.heap.size → w1.cell? ⟨b, o, none⟩ = w0.cell? ⟨b, o, none⟩) (hb : Below w1.heap.size w1 w2) :
    Below w0.heap.size w0 w2 ∧ ∀ b o, b < w0.heap.size → w2.cell? ⟨b, o, none⟩ = w0.cell? ⟨b, o, none⟩ := by
  have h2 : Below w0.heap.size w0 w2 := h.1.trans (hb.mono h.1.size)
  exact ⟨h2, fun b o hb' => h2.cell (p := ⟨b, o, none⟩) hb'⟩
theorem held_alloc {w0 w1 : World} {x : Obj} (h : Below w0.heap.size w0 w1 ∧ ∀ b o, b < w0.heap.size → w1.cell? ⟨b, o, none⟩ = w0.cell? ⟨b, o, none⟩) :
    Below w0.heap.size w0 (w1.alloc x) ∧ ∀ b o, b < w0.heap.size → (w1.alloc x).cell? ⟨b, o, none⟩ = w0.cell? ⟨b, o, none⟩ := by
  have h2 : Below w0.heap.size w0 (w1.alloc x) := h.1.alloc h.1.size _
  exact ⟨h2, fun b o hb' => h2.cell (p := ⟨b, o, none⟩) hb'⟩

structure KwB (w0 w1 : World) : Prop where
  b : Below w0.heap.size w0 w1
theorem held_of {w0 w1 : World} (h : Below w0.heap.size w0 w1) : Below w0.heap.size w0 w1 ∧ ∀ b o, b < w0.heap.size → w1.cell? ⟨b, o, none⟩ = w0.cell? ⟨b, o, none⟩ :=
  ⟨h, fun b o hb' => h.cell (p := ⟨b, o, none⟩) hb'⟩
theorem held_set3 {w0 w1 : World} {n : Nat} {x y z : Value} (h : Below w0.heap.size w0 w1 ∧ ∀ b o, b < w0.heap.size → w1.cell? ⟨b, o, none⟩ = w0.cell? ⟨b, o, none⟩) (hn : w0.heap.size ≤ n) :
    Below w0.heap.size w0 (((w1.setCell ⟨n, 0, none⟩ x).setCell ⟨n, 1, none⟩ y).setCell ⟨n, 2, none⟩ z) ∧ ∀ b o, b < w0.heap.size → (((w1.setCell ⟨n, 0, none⟩ x).setCell ⟨n, 1, none⟩ y).setCell ⟨n, 2, none⟩ z).cell? ⟨b, o, none⟩ = w0.cell? ⟨b, o, none⟩ := by
  have h2 : Below w0.heap.size w0 (((w1.setCell ⟨n, 0, none⟩ x).setCell ⟨n, 1, none⟩ y).setCell ⟨n, 2, none⟩ z) := ((h.1.setCell hn _).setCell hn _).setCell hn _
  exact ⟨h2, fun b o hb' => h2.cell (p := ⟨b, o, none⟩) hb'⟩
theorem held_fin {w W0 wf : World} {p : Prop} (hB : Below w.heap.size w W0) (hs : w.heap.size < W0.heap.size) (h : Below W0.heap.size W0 wf ∧ p) : Below w.heap.size w wf := hB.trans (h.1.mono (by omega))
/-- What was there reads as it did, and its marks. -/
theorem bcell {w w1 : World} (hb : Below w.heap.size w w1) : (∀ b o, b < w.heap.size → w1.cell? ⟨b, o, none⟩ = w.cell? ⟨b, o, none⟩) ∧ (∀ b o, b < w.heap.size → w1.frozen? ⟨b, o, none⟩ = w.frozen? ⟨b, o, none⟩) :=
  ⟨fun b o h => hb.cell (p := ⟨b, o, none⟩) h, fun b o h => hb.frozen (p := ⟨b, o, none⟩) h⟩
/-- A world of which something holds. -/
structure GW (Inv : World → Prop) where
  w : World
  h : Inv w
theorem GW.ne {Inv : World → Prop} {w : World} (h : Inv w) : Nonempty (GW Inv) := ⟨⟨w, h⟩⟩
theorem below_next {w0 : World} (u : GW (fun w' => Below w0.heap.size w0 w')) {w1 : World} (hb : Below u.w.heap.size u.w w1) : ∃ u' : GW (fun w' => Below w0.heap.size w0 w'), w1 = u'.w :=
  ⟨⟨w1, u.h.trans (hb.mono u.h.size)⟩, rfl⟩
/-- A region that draws its order, whose operations read what every world of a class has, and whose callees lead from the class into it: one walk in the order of the text. -/
theorem wp_region_grow {P : Program} {id : Nat} {Q : Exit → Act → World → Prop} {a : Act} {w : World} {l : List Oper} (Inv : World → Prop) (hm : P.follows .mixedOrders = true) (hB : Region.lexB .any l.toArray = true) (hC : Inv w.drew)
    (h : wpQuiet P l.toArray (fun w' => ∃ u : GW Inv, w' = u.w) (fun a' => ∀ w', (∃ u : GW Inv, w' = u.w) → Q .normal a' w') l a) : (Code.region id l.toArray true).wp P Q a w :=
  wp_region_quiet (C := fun w' => ∃ u : GW Inv, w' = u.w) hm hB ⟨⟨_, hC⟩, rfl⟩ (by simpa using h)

/-- One, two, three new blocks: what they hold, and that all else is as it was. -/
theorem boxes1 (w : World) (x : Array Value) (t : TypeId) :
    Below w.heap.size w (w.alloc (.cells x t)) ∧ (w.alloc (.cells x t)).heap.size = w.heap.size + 1 ∧ (∀ i, (w.alloc (.cells x t)).cell? ⟨w.heap.size, i, none⟩ = x[i]?) := by
  refine ⟨(Below.refl _ _).alloc (Nat.le_refl _) _, by simp, fun i => ?_⟩
  exact World.cell?_alloc_new _ _ _ _
theorem boxes2 (w : World) (x y : Array Value) (t u : TypeId) :
    Below w.heap.size w ((w.alloc (.cells x t)).alloc (.cells y u)) ∧ ((w.alloc (.cells x t)).alloc (.cells y u)).heap.size = w.heap.size + 2 ∧
    (∀ i, ((w.alloc (.cells x t)).alloc (.cells y u)).cell? ⟨w.heap.size, i, none⟩ = x[i]?) ∧ (∀ i, ((w.alloc (.cells x t)).alloc (.cells y u)).cell? ⟨w.heap.size + 1, i, none⟩ = y[i]?) := by
  obtain ⟨h1, h2, h3⟩ := boxes1 w x t
  obtain ⟨k1, k2, k3⟩ := boxes1 (w.alloc (.cells x t)) y u
  rw [h2] at k1 k2 k3
  refine ⟨h1.trans (k1.mono (by omega)), k2, fun i => ?_, k3⟩
  rw [← h3 i]; exact k1.cell (p := ⟨w.heap.size, i, none⟩) (by simp)
theorem boxes3 (w : World) (x y z : Array Value) (t u v : TypeId) :
    Below w.heap.size w (((w.alloc (.cells x t)).alloc (.cells y u)).alloc (.cells z v)) ∧ (((w.alloc (.cells x t)).alloc (.cells y u)).alloc (.cells z v)).heap.size = w.heap.size + 3 ∧
    (∀ i, (((w.alloc (.cells x t)).alloc (.cells y u)).alloc (.cells z v)).cell? ⟨w.heap.size, i, none⟩ = x[i]?) ∧ (∀ i, (((w.alloc (.cells x t)).alloc (.cells y u)).alloc (.cells z v)).cell? ⟨w.heap.size + 1, i, none⟩ = y[i]?) ∧
    (∀ i, (((w.alloc (.cells x t)).alloc (.cells y u)).alloc (.cells z v)).cell? ⟨w.heap.size + 1 + 1, i, none⟩ = z[i]?) := by
  obtain ⟨h1, h2, h3, h4⟩ := boxes2 w x y t u
  obtain ⟨k1, k2, k3⟩ := boxes1 ((w.alloc (.cells x t)).alloc (.cells y u)) z v
  rw [h2] at k1 k2 k3
  refine ⟨h1.trans (k1.mono (by omega)), k2, fun i => ?_, fun i => ?_, k3⟩
  · rw [← h3 i]; exact k1.cell (p := ⟨w.heap.size, i, none⟩) (by simp)
  · rw [← h4 i]; exact k1.cell (p := ⟨w.heap.size + 1, i, none⟩) (by simp)

/-- Behind a call that makes new memory only: a struct of three cells in a block that was there stays, and can be written. -/
theorem box_kept {w1 w2 : World} (hb : Below w1.heap.size w1 w2) {n : Nat} (hn : n < w1.heap.size) {x y z : Value} (h0 : w1.cell? ⟨n, 0, none⟩ = some x) (h1 : w1.cell? ⟨n, 1, none⟩ = some y) (h2 : w1.cell? ⟨n, 2, none⟩ = some z)
    (hf : ∀ i, w1.frozen? ⟨n, i, none⟩ = false) :
    (w2.cell? ⟨n, 0, none⟩ = some x ∧ w2.cell? ⟨n, 1, none⟩ = some y ∧ w2.cell? ⟨n, 2, none⟩ = some z) ∧ (w2.frozen? ⟨n, 0, none⟩ = false ∧ w2.frozen? ⟨n, 1, none⟩ = false ∧ w2.frozen? ⟨n, 2, none⟩ = false) := by
  refine ⟨⟨?_, ?_, ?_⟩, ?_, ?_, ?_⟩
  · rw [hb.cell (p := ⟨n, 0, none⟩) hn]; exact h0
  · rw [hb.cell (p := ⟨n, 1, none⟩) hn]; exact h1
  · rw [hb.cell (p := ⟨n, 2, none⟩) hn]; exact h2
  · rw [hb.frozen (p := ⟨n, 0, none⟩) hn]; exact hf 0
  · rw [hb.frozen (p := ⟨n, 1, none⟩) hn]; exact hf 1
  · rw [hb.frozen (p := ⟨n, 2, none⟩) hn]; exact hf 2
/-- The same of a block that was just made. -/
theorem box_new {w w2 : World} {x y z : Value} {t : TypeId} (hb : Below (w.heap.size + 1) (w.alloc (.cells #[x, y, z] t)) w2) :
    (w2.cell? ⟨w.heap.size, 0, none⟩ = some x ∧ w2.cell? ⟨w.heap.size, 1, none⟩ = some y ∧ w2.cell? ⟨w.heap.size, 2, none⟩ = some z) ∧
    (w2.frozen? ⟨w.heap.size, 0, none⟩ = false ∧ w2.frozen? ⟨w.heap.size, 1, none⟩ = false ∧ w2.frozen? ⟨w.heap.size, 2, none⟩ = false) ∧ Below w.heap.size w w2 ∧ w.heap.size < w2.heap.size := by
  have hb' : Below (w.alloc (.cells #[x, y, z] t)).heap.size (w.alloc (.cells #[x, y, z] t)) w2 := by rw [World.size_alloc]; exact hb
  obtain ⟨h1, h2⟩ := box_kept hb' (n := w.heap.size) (by simp) (x := x) (y := y) (z := z) (by rw [World.cell?_alloc_new]; rfl) (by rw [World.cell?_alloc_new]; rfl) (by rw [World.cell?_alloc_new]; rfl) (fun i => World.frozen?_alloc_new ..)
  refine ⟨h1, h2, ((Below.refl w.heap.size w).alloc (Nat.le_refl _) (.cells #[x, y, z] t)).trans (hb.mono (by omega)), ?_⟩
  have := hb.size
  rw [World.size_alloc] at this
  omega

/-- A boxed parameter and a boxed result of three cells, behind a call that makes new memory only. -/
theorem boxes2_res {w w1 : World} {x : Array Value} {a b c : Value} {t u : TypeId} (hb : Below ((w.alloc (.cells x t)).alloc (.cells #[a, b, c] u)).heap.size ((w.alloc (.cells x t)).alloc (.cells #[a, b, c] u)) w1) :
    (w1.cell? ⟨w.heap.size + 1, 0, none⟩ = some a ∧ w1.cell? ⟨w.heap.size + 1, 1, none⟩ = some b ∧ w1.cell? ⟨w.heap.size + 1, 2, none⟩ = some c) ∧
    (w1.frozen? ⟨w.heap.size + 1, 0, none⟩ = false ∧ w1.frozen? ⟨w.heap.size + 1, 1, none⟩ = false ∧ w1.frozen? ⟨w.heap.size + 1, 2, none⟩ = false) ∧
    Below w.heap.size w w1 ∧ w.heap.size + 1 < w1.heap.size ∧ (∀ i, w1.cell? ⟨w.heap.size, i, none⟩ = x[i]?) := by
  obtain ⟨h1, h2, h3, h4⟩ := boxes2 w x #[a, b, c] t u
  have hz := hb.size
  obtain ⟨c1, c2⟩ := box_kept hb (n := w.heap.size + 1) (by omega) (x := a) (y := b) (z := c) (by rw [h4]; rfl) (by rw [h4]; rfl) (by rw [h4]; rfl) (fun i => World.frozen?_alloc_at _ _ _ _ (by simp))
  refine ⟨c1, c2, h1.trans (hb.mono (by omega)), by omega, fun i => ?_⟩
  rw [hb.cell (p := ⟨w.heap.size, i, none⟩) (by show w.heap.size < _; omega)]
  exact h3 i
end Go.Proofs.YtokbdleokihdaaaGreatDoor
namespace Go.Proofs.YtokbdleokihdaaaGreatDoor
open Go.RowKit

/-- The value of kind BOOL. -/
def truthD (b : Bool) : Dt := ⟨1, if b then 1 else 0, ⟨#[]⟩⟩
/-- The j-th of some values. -/
def dnth (ds : List Dt) (j : Nat) : Dt := ds.getD j Dt.zero
/-- The j-th of some numbers. -/
def inth (ks : List Int) (j : Nat) : Int := ks.getD j 0
/-- Cells of a block, from an offset on, hold values. -/
def DCells (w : World) (b o : Nat) (ds : List Dt) : Prop :=
  ∀ j, j < ds.length → w.cell? ⟨b, o + j * 3, none⟩ = some (.int .i64 (dnth ds j).k) ∧ w.cell? ⟨b, o + j * 3 + 1, none⟩ = some (.int .i64 (dnth ds j).i) ∧ w.cell? ⟨b, o + j * 3 + 2, none⟩ = some (.string (dnth ds j).s)

theorem DCells.at {w : World} {b o : Nat} {ds : List Dt} (h : DCells w b o ds) {w' : World} (hB : Below w.heap.size w w') (hb : b < w.heap.size) (j : Nat) (hj : j < ds.length) :
    w'.cell? ⟨b, o + j * 3, none⟩ = some (.int .i64 (dnth ds j).k) ∧ w'.cell? ⟨b, o + j * 3 + 1, none⟩ = some (.int .i64 (dnth ds j).i) ∧ w'.cell? ⟨b, o + j * 3 + 2, none⟩ = some (.string (dnth ds j).s) := by
  rw [hB.cell (p := ⟨b, o + j * 3, none⟩) hb, hB.cell (p := ⟨b, o + j * 3 + 1, none⟩) hb, hB.cell (p := ⟨b, o + j * 3 + 2, none⟩) hb]
  exact h j hj
theorem DCells.below {w : World} {b o : Nat} {ds : List Dt} (h : DCells w b o ds) {w' : World} (hB : Below w.heap.size w w') (hb : b < w.heap.size) : DCells w' b o ds :=
  fun j hj => h.at hB hb j hj

theorem dcells_new1 (W : World) (k i : Int) (s : ByteArray) (t : TypeId) : DCells (W.alloc (.cells #[.int .i64 k, .int .i64 i, .string s] t)) W.heap.size 0 [⟨k, i, s⟩] := by
  intro j hj
  obtain rfl : j = 0 := by simpa using hj
  refine ⟨?_, ?_, ?_⟩ <;> rw [World.cell?_alloc_new] <;> rfl
theorem dcells_new2 (W : World) (k i : Int) (s : ByteArray) (k' i' : Int) (s' : ByteArray) (t : TypeId) : DCells (W.alloc (.cells #[.int .i64 k, .int .i64 i, .string s, .int .i64 k', .int .i64 i', .string s'] t)) W.heap.size 0 [⟨k, i, s⟩, ⟨k', i', s'⟩] := by
  intro j hj
  have : j = 0 ∨ j = 1 := by simp at hj; omega
  rcases this with rfl | rfl <;> refine ⟨?_, ?_, ?_⟩ <;> rw [World.cell?_alloc_new] <;> rfl
theorem any_false {ds : List Dt} {p : Dt → Bool} (h : ∀ j, j < ds.length → p (dnth ds j) = false) : ds.any p = false := by
  rw [List.any_eq_false]
  intro x hx
  obtain ⟨j, hj, rfl⟩ := List.getElem_of_mem hx
  have := h j hj
  simpa [dnth, hj] using this
theorem any_true {ds : List Dt} {p : Dt → Bool} {j : Nat} (hj : j < ds.length) (h : p (dnth ds j) = true) : ds.any p = true := by
  rw [List.any_eq_true]
  exact ⟨ds[j], List.getElem_mem hj, by simpa [dnth, hj] using h⟩

set_option maxHeartbeats 400000 in
theorem anyNull_any (ds : List Dt) (b o cap : Nat) (w : World) (hn : ds.length ≤ 1000) (hbk : b < w.heap.size) (hc : DCells w b o ds) :
    Calls Tryz.prog 84 #[.slice (some ⟨b, o, none⟩) ds.length cap] w fun e w' => e = .returned (.bool (ds.any fun d => d.k == 0)) ∧ Below w.heap.size w w' := by
  have Hc := Lib.hid hc
  clear hc
  go_enter Tryz.func84, Tryz.ntmps84
  go_wp2
  go_loopw [4, 7] (fun _ i wr => ∃ k : Nat, k ≤ ds.length ∧ i = .int .i64 k ∧ Below w.heap.size w wr ∧ (∀ j, j < k → ((dnth ds j).k == 0) = false)) (fun _ i _ => ds.length - (intOf i).toNat)
  case atStart => exact ⟨0, Nat.zero_le _, rfl, Below.refl _ _, fun j hj => by omega⟩
  case round =>
    obtain ⟨k, hk, rfl, hb, hz⟩ := hrel
    have Hz := Lib.hid hz
    have Hb := Lib.hid hb
    have hzw := hb.size
    clear hz hb
    by_cases hlt : k < ds.length
    · have hzero : (0 : Int) ≤ k := by omega
      obtain ⟨hc0, hc1, hc2⟩ := Hc.out.at Hb.out hbk k hlt
      by_cases hx : (dnth ds k).k = 0
      · have hx2 : ((dnth ds k).k == 0) = true := by rw [hx]; rfl
        have HX := Lib.hid (any_true (p := fun d => d.k == 0) hlt hx2)
        clear hx
        go_wp2
        go_ret
        exact ⟨ret_bool HX.out.symm, Hb.out.alloc hzw _⟩
      · have hx2 : ((dnth ds k).k == 0) = false := by simpa using hx
        have HX := Lib.hid hx2
        clear hx
        go_wp2
        go_roundw
        case rel => exact ⟨k + 1, by omega, by go_num, Hb.out.alloc hzw _, fun j hj => by
          rcases Nat.lt_succ_iff_lt_or_eq.1 hj with h | h
          · exact Hz.out j h
          · rw [h]; exact HX.out⟩
        case measure => simp [intOf]; omega
    · have HE := Lib.hid (any_false (p := fun d => d.k == 0) (fun j hj => Hz.out j (by omega)))
      go_wp2
      go_ret
      exact ⟨ret_bool HE.out.symm, Hb.out⟩

theorem truth_any (c : Bool) (w : World) :
    Calls Tryz.prog 80 #[.bool c] w fun e w' => e = .returned (truthD c).v ∧ Below w.heap.size w w' := by
  cases c
  · go_enter Tryz.func80, Tryz.ntmps80
    go_wp2
    refine bodyPost_ret (v := (truthD false).v) (by simp [results, Tryz.results80, go_sem, truthD, Dt.v]) rfl ⟨rfl, ?_⟩
    exact (Below.refl _ _).alloc (Nat.le_refl _) _
  · go_enter Tryz.func80, Tryz.ntmps80
    go_wp2
    refine bodyPost_ret (v := (truthD true).v) (by simp [results, Tryz.results80, go_sem, truthD, Dt.v]) rfl ⟨rfl, ?_⟩
    exact (Below.refl _ _).alloc (Nat.le_refl _) _

/-- How many arguments an operator has. -/
def manyF (op : Int) : Int := if 3 ≤ op ∧ op ≤ 14 then 2 else if op = 1 ∨ op = 2 ∨ op = 15 ∨ (18 ≤ op ∧ op ≤ 20) then 1 else 0
theorem many_any (op : Int) (w : World) :
    Calls Tryz.prog 79 #[.int .i64 op] w fun e w' => e = .returned (.int .i64 (manyF op)) ∧ w = w' := by
  have hcase : op < 1 ∨ op = 1 ∨ op = 2 ∨ (3 ≤ op ∧ op ≤ 12) ∨ op = 13 ∨ op = 14 ∨ op = 15 ∨ op = 16 ∨ op = 17 ∨ (18 ≤ op ∧ op ≤ 20) ∨ 20 < op := by omega
  have HE : Hid (manyF op = if 3 ≤ op ∧ op ≤ 14 then 2 else if op = 1 ∨ op = 2 ∨ op = 15 ∨ (18 ≤ op ∧ op ≤ 20) then 1 else 0) := Lib.hid rfl
  rcases hcase with h | rfl | rfl | ⟨h, h'⟩ | rfl | rfl | rfl | rfl | rfl | ⟨h, h'⟩ | h
  all_goals
    go_enter Tryz.func79, Tryz.ntmps79
    go_wp2
    go_ret
    have hE := HE.out
    refine ⟨ret_int ?_, rfl⟩
    rw [hE]
    first | decide | (repeat' split <;> omega)

/-- Numbers in a block. -/
def ICells (w : World) (b o : Nat) (ks : List Int) : Prop := ∀ j, j < ks.length → w.cell? ⟨b, o + j, none⟩ = some (.int .i64 (inth ks j))
theorem all_true {ds : List Dt} {p : Dt → Bool} (h : ∀ j, j < ds.length → p (dnth ds j) = true) : ds.all p = true := by
  rw [List.all_eq_true]
  intro x hx
  obtain ⟨j, hj, rfl⟩ := List.getElem_of_mem hx
  have := h j hj
  simpa [dnth, hj] using this
theorem all_false {ds : List Dt} {p : Dt → Bool} {j : Nat} (hj : j < ds.length) (h : p (dnth ds j) = false) : ds.all p = false := by
  rw [List.all_eq_false]
  exact ⟨ds[j], List.getElem_mem hj, by simpa [dnth, hj] using h⟩
theorem kinds_new (w : World) (t : TypeId) (ks : List Int) {xs : Array Value} (h : xs = (ks.map fun k => Value.int .i64 k).toArray) : ICells (w.alloc (.cells xs t)) w.heap.size 0 ks := by
  intro j hj
  rw [World.cell?_alloc_new, h]
  simp [inth, hj]
theorem ICells.at {w : World} {b o : Nat} {ks : List Int} (h : ICells w b o ks) {w' : World} (hB : Below w.heap.size w w') (hb : b < w.heap.size) (j : Nat) (hj : j < ks.length) :
    w'.cell? ⟨b, o + j, none⟩ = some (.int .i64 (inth ks j)) := by
  rw [hB.cell (p := ⟨b, o + j, none⟩) hb]
  exact h j hj
theorem take_any (ks : List Int) (x : Int) (j : Nat) (hj : j < ks.length) : ((ks.take (j + 1)).any fun q => x == q) = (((ks.take j).any fun q => x == q) || x == inth ks j) := by
  rw [List.take_succ_eq_append_getElem hj, List.any_append]
  simp [inth, hj]
/-- Whether a value is NULL or of one of some kinds. -/
def isOf (ks : List Int) (d : Dt) : Bool := d.k == 0 || ks.any fun q => d.k == q

set_option maxHeartbeats 1000000 in
theorem of_any (ds : List Dt) (b o cap : Nat) (ks : List Int) (b2 cap2 : Nat) (w : World) (hn : ds.length ≤ 1000) (hbk : b < w.heap.size) (hc : DCells w b o ds) (hn2 : ks.length ≤ 1000) (hbk2 : b2 < w.heap.size) (hc2 : ICells w b2 0 ks) :
    Calls Tryz.prog 81 #[.slice (some ⟨b, o, none⟩) ds.length cap, .slice (some ⟨b2, 0, none⟩) ks.length cap2] w fun e w' => e = .returned (.bool (ds.all (isOf ks))) ∧ Below w.heap.size w w' := by
  have Hc := Lib.hid hc
  have Hc2 := Lib.hid hc2
  clear hc hc2
  go_enter Tryz.func81, Tryz.ntmps81
  go_wp2
  go_loopw [6, 7, 9, 12, 21] (fun _ _ _ i _ wr => ∃ k : Nat, k ≤ ds.length ∧ i = .int .i64 k ∧ Below w.heap.size w wr ∧ (∀ j, j < k → isOf ks (dnth ds j) = true)) (fun _ _ _ i _ _ => ds.length - (intOf i).toNat)
  case atStart => exact ⟨0, Nat.zero_le _, rfl, Below.refl _ _, fun j hj => by omega⟩
  case round =>
    obtain ⟨k, hk, rfl, hb, hz⟩ := hrel
    have Hz := Lib.hid hz
    have Hb := Lib.hid hb
    have hzw := hb.size
    clear hz hb
    by_cases hlt : k < ds.length
    · have hzero : (0 : Int) ≤ k := by omega
      obtain ⟨hc0, hc1, hc2⟩ := Hc.out.at Hb.out hbk k hlt
      have HI : Hid (isOf ks (dnth ds k) = (((dnth ds k).k == 0) || ks.any fun q => (dnth ds k).k == q)) := Lib.hid rfl
      generalize hdk : (dnth ds k).k = dk at *
      generalize (dnth ds k).i = di at *
      generalize (dnth ds k).s = dsx at *
      clear hdk
      go_wp2
      have Hb2 := Lib.hid (Hb.out.alloc hzw (.cells #[.int .i64 dk, .int .i64 di, .string dsx] 27))
      have hcell : (wr.alloc (.cells #[.int .i64 dk, .int .i64 di, .string dsx] 27)).cell? ⟨wr.heap.size, 0, none⟩ = some (.int .i64 dk) := by
        rw [World.cell?_alloc_new]; rfl
      generalize wr.alloc (.cells #[.int .i64 dk, .int .i64 di, .string dsx] 27) = wq at *
      go_loop [7, 9, 21] (fun q _ i => ∃ j : Nat, j ≤ ks.length ∧ i = .int .i64 j ∧ q = .bool ((dk == 0) || ((ks.take j).any fun q => dk == q))) (fun _ _ i => ks.length - (intOf i).toNat)
      case atStart => exact ⟨0, Nat.zero_le _, rfl, by simp⟩
      case round =>
        obtain ⟨j, hj, rfl, rfl⟩ := hrel
        by_cases hlt2 : j < ks.length
        · have hz2 : (0 : Int) ≤ j := by omega
          have hcj := Hc2.out.at Hb2.out hbk2 j hlt2
          have HT := Lib.hid (take_any ks dk j hlt2)
          generalize hacc : ((dk == 0) || ((ks.take j).any fun q => dk == q)) = acc at *
          have HA := Lib.hid hacc
          clear hacc
          simp only [Nat.zero_add] at hcj
          generalize inth ks j = q at *
          cases acc
          · go_wp2
            go_round
            case rel => exact ⟨j + 1, by omega, by go_num, by rw [HT.out, ← Bool.or_assoc, HA.out]; simp⟩
            case measure => simp [intOf]; omega
          · go_wp2
            go_round
            case rel => exact ⟨j + 1, by omega, by go_num, by rw [HT.out, ← Bool.or_assoc, HA.out]; simp⟩
            case measure => simp [intOf]; omega
        · have hjj : j = ks.length := by omega
          have HJ : Hid (((dk == 0) || ((ks.take j).any fun q => dk == q)) = isOf ks (dnth ds k)) := by rw [HI.out, hjj, List.take_length]; exact rfl
          generalize ((dk == 0) || ((ks.take j).any fun q => dk == q)) = acc at *
          clear hjj
          cases acc
          · go_wp2
            go_ret
            exact ⟨ret_bool (all_false hlt HJ.out.symm).symm, Hb2.out⟩
          · go_wp2
            go_roundw
            case rel => exact ⟨k + 1, by omega, by go_num, Hb2.out, fun j hj => by
              rcases Nat.lt_succ_iff_lt_or_eq.1 hj with h | h
              · exact Hz.out j h
              · rw [h]; exact HJ.out.symm⟩
            case measure => simp [intOf]; omega
    · have HE := Lib.hid (all_true (p := isOf ks) (fun j hj => Hz.out j (by omega)))
      go_wp2
      go_ret
      exact ⟨ret_bool HE.out.symm, Hb.out⟩
end Go.Proofs.YtokbdleokihdaaaGreatDoor
namespace Go.Proofs.YtokbdleokihdaaaGreatDoor
open Go.RowKit

set_option maxHeartbeats 1000000 in
theorem result_any (k i : Int) (ok : Bool) (w : World) :
    Calls Tryz.prog 37 #[.int .i64 k, .int .i64 i, .bool ok] w fun e w' => e = .returned (.tuple #[.agg #[.int .i64 (if ok then k else 0), .int .i64 (if ok then i else 0), .string ⟨#[]⟩], .int .i64 (if ok then 0 else 4)]) ∧ Below w.heap.size w w' := by
  obtain ⟨hB, hz, X1⟩ := boxes1 w #[.int .i64 0, .int .i64 0, .string ⟨#[]⟩] 27
  have HB := Lib.hid hB
  have x0 := X1 0
  have x1 := X1 1
  have x2 := X1 2
  have hf : ∀ j, (w.alloc (.cells #[.int .i64 0, .int .i64 0, .string ⟨#[]⟩] 27)).frozen? ⟨w.heap.size, j, none⟩ = false := fun j => World.frozen?_alloc_at _ _ _ _ rfl
  have f0 := hf 0
  have f1 := hf 1
  have f2 := hf 2
  clear hB X1 hf
  go_enter Tryz.func37, Tryz.ntmps37
  cases ok
  · go_wp2_with fail
    exact bodyPost_ret (v := .tuple #[.agg #[.int .i64 0, .int .i64 0, .string ⟨#[]⟩], .int .i64 4]) (by simp [results, Tryz.results37, go_sem]) rfl ⟨rfl, (boxes1 w #[.int .i64 0, .int .i64 0, .string ⟨#[]⟩] 27).1⟩
  · go_wp2_with fail
    exact bodyPost_ret (v := .tuple #[.agg #[.int .i64 k, .int .i64 i, .string ⟨#[]⟩], .int .i64 0]) (by simp [results, Tryz.results37, go_sem]) rfl ⟨rfl, (boxes1 w #[.int .i64 k, .int .i64 i, .string ⟨#[]⟩] 27).1⟩
end Go.Proofs.YtokbdleokihdaaaGreatDoor
namespace Go.Proofs.YtokbdleokihdaaaGreatDoor
open Go.RowKit

/-- Whether two values are the same. -/
def eqD (ak ai : Int) (sa : ByteArray) (bk bi : Int) (sb : ByteArray) : Bool := ak == bk && (ai == bi && sa.toList == sb.toList)
theorem eqD_iff {ak ai : Int} {sa : ByteArray} {bk bi : Int} {sb : ByteArray} : eqD ak ai sa bk bi sb = true ↔ ak = bk ∧ ai = bi ∧ sa = sb := by
  have hs : sa.toList = sb.toList ↔ sa = sb := by
    constructor
    · intro h
      have h2 : sa.data.toList = sb.data.toList := by rw [← ByteArray.toList_eq, ← ByteArray.toList_eq]; exact h
      cases sa; cases sb; congr 1; exact Array.toList_inj.1 h2
    · intro h; rw [h]
  simp [eqD, hs]
theorem run_eql_dat (w : World) (ak ai : Int) (sa : ByteArray) (bk bi : Int) (sb : ByteArray) :
    (Go.binOp .eql 27 (.agg #[.int .i64 ak, .int .i64 ai, .string sa]) (.agg #[.int .i64 bk, .int .i64 bi, .string sb])).run Tryz.prog w = .ok (.bool (eqD ak ai sa bk bi sb)) w := by
  unfold eqD
  go_simp
  by_cases h1 : ak = bk <;> by_cases h2 : ai = bi <;> by_cases h3 : sa.toList = sb.toList <;> simp [h1, h2, h3]
theorem run_neq_dat (w : World) (ak ai : Int) (sa : ByteArray) (bk bi : Int) (sb : ByteArray) :
    (Go.binOp .neq 27 (.agg #[.int .i64 ak, .int .i64 ai, .string sa]) (.agg #[.int .i64 bk, .int .i64 bi, .string sb])).run Tryz.prog w = .ok (.bool (!eqD ak ai sa bk bi sb)) w := by
  unfold eqD
  go_simp
  by_cases h1 : ak = bk <;> by_cases h2 : ai = bi <;> by_cases h3 : sa.toList = sb.toList <;> simp [h1, h2, h3]
attribute [go_sem ↓] run_eql_dat run_neq_dat
end Go.Proofs.YtokbdleokihdaaaGreatDoor
namespace Go.Proofs.YtokbdleokihdaaaGreatDoor
open Go.RowKit

theorem refmany_any (op : Int) (w : World) :
    Calls Tryz.prog 18 #[.int .i64 op] w fun e w' => e = .returned (.int .i64 (manyF op)) ∧ w = w' := by
  have hcase : (op < 1 ∧ manyF op = 0) ∨ (op = 1 ∧ manyF op = 1) ∨ (op = 2 ∧ manyF op = 1) ∨ ((3 ≤ op ∧ op ≤ 14) ∧ manyF op = 2) ∨ (op = 15 ∧ manyF op = 1) ∨ (op = 16 ∧ manyF op = 0) ∨ (op = 17 ∧ manyF op = 0) ∨ ((18 ≤ op ∧ op ≤ 20) ∧ manyF op = 1) ∨ (20 < op ∧ manyF op = 0) := by
    unfold manyF
    split
    · omega
    · split <;> omega
  rcases hcase with ⟨h, hm⟩ | ⟨rfl, hm⟩ | ⟨rfl, hm⟩ | ⟨h, hm⟩ | ⟨rfl, hm⟩ | ⟨rfl, hm⟩ | ⟨rfl, hm⟩ | ⟨h, hm⟩ | ⟨h, hm⟩
  all_goals
    rw [hm]
    clear hm
    go_enter Tryz.func18, Tryz.ntmps18
    go_wp2
    all_goals
      go_ret
      first | exact ⟨rfl, rfl⟩ | (exfalso; simp only [beq_iff_eq] at *; omega)
theorem refbool_any (c : Bool) (w : World) :
    Calls Tryz.prog 10 #[.bool c] w fun e w' => e = .returned (truthD c).v ∧ Below w.heap.size w w' := by
  cases c
  · go_enter Tryz.func10, Tryz.ntmps10
    go_wp2
    refine bodyPost_ret (v := (truthD false).v) (by simp [results, Tryz.results10, go_sem, truthD, Dt.v]) rfl ⟨rfl, ?_⟩
    exact (Below.refl _ _).alloc (Nat.le_refl _) _
  · go_enter Tryz.func10, Tryz.ntmps10
    go_wp2
    refine bodyPost_ret (v := (truthD true).v) (by simp [results, Tryz.results10, go_sem, truthD, Dt.v]) rfl ⟨rfl, ?_⟩
    exact (Below.refl _ _).alloc (Nat.le_refl _) _
/-- Is a value NULL, or of a kind from one on, up to another one? -/
def onlyF (f t : Int) (d : Dt) : Bool := d.k == 0 || (decide (f ≤ d.k) && decide (d.k ≤ t))

set_option maxHeartbeats 1000000 in
theorem refonly_any (ds : List Dt) (b o cap : Nat) (f t : Int) (w : World) (hn : ds.length ≤ 1000) (hbk : b < w.heap.size) (hc : DCells w b o ds) :
    Calls Tryz.prog 22 #[.slice (some ⟨b, o, none⟩) ds.length cap, .int .i64 f, .int .i64 t] w fun e w' => e = .returned (.bool (ds.all (onlyF f t))) ∧ Below w.heap.size w w' := by
  have Hc := Lib.hid hc
  clear hc
  go_enter Tryz.func22, Tryz.ntmps22
  go_wp2_with fail
  go_loopw [8, 11] (fun _ i wr => ∃ k : Nat, k ≤ ds.length ∧ i = .int .i64 k ∧ Below w.heap.size w wr ∧ (∀ j, j < k → onlyF f t (dnth ds j) = true)) (fun _ i _ => ds.length - (intOf i).toNat)
  case atStart => exact ⟨0, Nat.zero_le _, rfl, Below.refl _ _, fun j hj => by omega⟩
  case round =>
    obtain ⟨k, hk, rfl, hb, hz⟩ := hrel
    have Hz := Lib.hid hz
    have Hb := Lib.hid hb
    have hzw := hb.size
    clear hz hb
    by_cases hlt : k < ds.length
    · have hzero : (0 : Int) ≤ k := by omega
      obtain ⟨hc0, hc1, hc2⟩ := Hc.out.at Hb.out hbk k hlt
      have HF := Lib.hid (show onlyF f t (dnth ds k) = ((dnth ds k).k == 0 || (decide (f ≤ (dnth ds k).k) && decide ((dnth ds k).k ≤ t))) from rfl)
      have HNF := Lib.hid (fun h : onlyF f t (dnth ds k) = false => show ds.all (onlyF f t) = false from by
        rw [List.all_eq_false]
        exact ⟨dnth ds k, by unfold dnth; rw [List.getD_eq_getElem?_getD, List.getElem?_eq_getElem hlt]; exact List.getElem_mem hlt, by rw [h]; simp⟩)
      have HYF := Lib.hid (fun h : onlyF f t (dnth ds k) = true => show ∀ j, j < k + 1 → onlyF f t (dnth ds j) = true from fun j hj => by
        rcases Nat.lt_succ_iff_lt_or_eq.1 hj with h' | h'
        · exact Hz.out j h'
        · rw [h']; exact h)
      generalize onlyF f t (dnth ds k) = r at *
      generalize dnth ds k = dd at *
      obtain ⟨dk, di, dst⟩ := dd
      dsimp only at hc0 hc1 hc2 HF
      cases c0 : (dk == 0)
      · have c0' : (dk != 0) = true := by simpa using c0
        cases c1 : decide (dk < f)
        · cases c2 : decide (t < dk)
          · have HY := Lib.hid (HYF.out (by rw [HF.out, c0]; simp at c1 c2; simp [c1, c2]))
            clear HNF HYF HF
            go_wp2_with fail
            go_roundw
            case rel => exact ⟨k + 1, by omega, by go_num, Hb.out.alloc hzw _, HY.out⟩
            case measure => simp [intOf]; omega
          · have HN := Lib.hid (HNF.out (by rw [HF.out, c0]; simp at c1 c2; simp; omega))
            clear HNF HYF HF
            go_wp2_with fail
            go_ret
            exact ⟨ret_bool HN.out.symm, Hb.out.alloc hzw _⟩
        · have HN := Lib.hid (HNF.out (by rw [HF.out, c0]; simp at c1; simp; omega))
          clear HNF HYF HF
          go_wp2_with fail
          go_ret
          exact ⟨ret_bool HN.out.symm, Hb.out.alloc hzw _⟩
      · have c0' : (dk != 0) = false := by simpa using c0
        have HY := Lib.hid (HYF.out (by rw [HF.out, c0]; rfl))
        clear HNF HYF HF
        go_wp2_with fail
        go_roundw
        case rel => exact ⟨k + 1, by omega, by go_num, Hb.out.alloc hzw _, HY.out⟩
        case measure => simp [intOf]; omega
    · have HE : Hid (ds.all (onlyF f t) = true) := by
        show _ = _
        rw [List.all_eq_true]
        intro x hx
        obtain ⟨j, hj, rfl⟩ := List.getElem_of_mem hx
        have := Hz.out j (by omega)
        simpa [dnth, hj] using this
      go_wp2_with fail
      go_ret
      exact ⟨ret_bool HE.out.symm, Hb.out⟩

set_option maxHeartbeats 1000000 in
theorem refhas_any (ds : List Dt) (b o cap : Nat) (k0 i0 : Int) (s0 : ByteArray) (w : World) (hn : ds.length ≤ 1000) (hbk : b < w.heap.size) (hc : DCells w b o ds) :
    Calls Tryz.prog 32 #[.slice (some ⟨b, o, none⟩) ds.length cap, .agg #[.int .i64 k0, .int .i64 i0, .string s0]] w fun e w' => e = .returned (.bool (ds.any fun d => eqD d.k d.i d.s k0 i0 s0)) ∧ Below w.heap.size w w' := by
  have Hc := Lib.hid hc
  clear hc
  go_enter Tryz.func32, Tryz.ntmps32
  go_wp2_with fail
  have B1 := (Below.refl w.heap.size w).alloc (Nat.le_refl _) (.cells #[.int .i64 k0, .int .i64 i0, .string s0] 27)
  have X1 := boxes1 w #[.int .i64 k0, .int .i64 i0, .string s0] 27
  have HB1 := Lib.hid B1
  have HX1 := Lib.hid X1
  clear B1 X1
  generalize (w.alloc (.cells #[.int .i64 k0, .int .i64 i0, .string s0] 27)) = W1 at *
  have hw1 : w.heap.size < W1.heap.size := by have := HX1.out.2.1; omega
  go_loopw [6, 9] (fun _ i wr => ∃ k : Nat, k ≤ ds.length ∧ i = .int .i64 k ∧ Below W1.heap.size W1 wr ∧ (∀ j, j < k → eqD (dnth ds j).k (dnth ds j).i (dnth ds j).s k0 i0 s0 = false)) (fun _ i _ => ds.length - (intOf i).toNat)
  case atStart => exact ⟨0, Nat.zero_le _, rfl, Below.refl _ _, fun j hj => by omega⟩
  case round =>
    obtain ⟨k, hk, rfl, hb, hz⟩ := hrel
    have Hz := Lib.hid hz
    have Hb := Lib.hid hb
    have HbW := Lib.hid (HB1.out.trans (hb.mono (by omega)))
    have hzw := hb.size
    have g0 : wr.cell? ⟨w.heap.size, 0, none⟩ = some (.int .i64 k0) := by rw [hb.cell (p := ⟨w.heap.size, 0, none⟩) hw1, HX1.out.2.2 0]; rfl
    have g1 : wr.cell? ⟨w.heap.size, 1, none⟩ = some (.int .i64 i0) := by rw [hb.cell (p := ⟨w.heap.size, 1, none⟩) hw1, HX1.out.2.2 1]; rfl
    have g2 : wr.cell? ⟨w.heap.size, 2, none⟩ = some (.string s0) := by rw [hb.cell (p := ⟨w.heap.size, 2, none⟩) hw1, HX1.out.2.2 2]; rfl
    have hwr : w.heap.size < wr.heap.size := by omega
    clear hz hb
    by_cases hlt : k < ds.length
    · have hzero : (0 : Int) ≤ k := by omega
      obtain ⟨hc0, hc1, hc2⟩ := Hc.out.at HbW.out hbk k hlt
      cases hx : eqD (dnth ds k).k (dnth ds k).i (dnth ds k).s k0 i0 s0
      · have HX := Lib.hid hx
        go_wp2_with fail
        go_roundw
        case rel => exact ⟨k + 1, by omega, by go_num, Hb.out.alloc hzw _, fun j hj => by
          rcases Nat.lt_succ_iff_lt_or_eq.1 hj with h | h
          · exact Hz.out j h
          · rw [h]; exact HX.out⟩
        case measure => simp [intOf]; omega
      · have HX := Lib.hid (any_true (p := fun d => eqD d.k d.i d.s k0 i0 s0) hlt hx)
        go_wp2_with fail
        go_ret
        exact ⟨ret_bool HX.out.symm, HbW.out.alloc (by omega) _⟩
    · have HE := Lib.hid (any_false (p := fun d => eqD d.k d.i d.s k0 i0 s0) (fun j hj => Hz.out j (by omega)))
      go_wp2_with fail
      go_ret
      exact ⟨ret_bool HE.out.symm, HbW.out⟩
end Go.Proofs.YtokbdleokihdaaaGreatDoor
namespace Go.Proofs.YtokbdleokihdaaaGreatDoor
open Go.RowKit

/-- What decides: of OR the true, of AND the false. -/
def isSt (st : Int) (d : Dt) : Bool := d.k == 1 && d.i == st
/-- What AND (st = 0) and OR (st = 1) answer. -/
def andor (st : Int) (ds : List Dt) : Dt :=
  if ds.any (isSt st) then ⟨1, st, ⟨#[]⟩⟩ else if ds.any (fun d => d.k == 0) then Dt.zero else truthD (st == 0)
def notF (d : Dt) : Dt := if d.k = 0 then Dt.zero else truthD (d.i == 0)

set_option maxHeartbeats 400000 in
theorem logic_not (d : Dt) (b o cap : Nat) (w : World) (hbk : b < w.heap.size) (hc : DCells w b o [d]) :
    Calls Tryz.prog 82 #[.int .i64 2, .slice (some ⟨b, o, none⟩) 1 cap] w fun e w' => e = .returned (notF d).v ∧ Below w.heap.size w w' := by
  obtain ⟨h0, h1, h2⟩ := hc 0 (by simp)
  have e : dnth [d] 0 = d := rfl
  rw [e] at h0 h1 h2
  clear e hc
  simp only [Nat.zero_mul, Nat.add_zero] at h0 h1 h2
  have HN := Lib.hid (show notF d = if d.k = 0 then Dt.zero else truthD (d.i == 0) from rfl)
  by_cases hk : d.k = 0
  · have HE : Hid (notF d = Dt.zero) := by rw [HN.out, if_pos hk]; rfl
    rw [hk] at h0
    rw [HE.out]
    clear HN HE hk
    go_enter Tryz.func82, Tryz.ntmps82
    go_wp2
    refine bodyPost_ret (v := Dt.zero.v) (by simp [results, Tryz.results82, go_sem, Dt.zero, Dt.v]) rfl ⟨rfl, ?_⟩
    exact (Below.refl _ _).alloc (Nat.le_refl _) _
  · have HE : Hid (notF d = truthD (d.i == 0)) := by rw [HN.out, if_neg hk]; rfl
    rw [HE.out]
    have hk2 : (d.k == 0) = false := by simpa using hk
    clear HN HE hk
    generalize d.k = dk at *
    generalize d.i = di at *
    go_enter Tryz.func82, Tryz.ntmps82
    go_wp2_with fail
    refine (truth_any _ _).mono ?_
    rintro e w1 ⟨rfl, hb⟩
    rw [World.size_alloc] at hb
    obtain ⟨⟨b1, b2, b3⟩, ⟨f1, f2, f3⟩, hB, hz⟩ := box_new hb
    have HB := Lib.hid hB
    clear hb hB
    generalize hfin : truthD (di == 0) = tv
    have HF := Lib.hid hfin
    clear hfin
    obtain ⟨tk, ti, ts⟩ := tv
    go_wp2_with fail
    refine bodyPost_ret (v := .agg #[.int .i64 tk, .int .i64 ti, .string ts]) (by simp [results, Tryz.results82, go_sem, b1, b2, b3]) rfl ⟨by rw [HF.out], ?_⟩
    exact ((HB.out.setCell (Nat.le_refl _) _).setCell (Nat.le_refl _) _).setCell (Nat.le_refl _) _

set_option maxHeartbeats 1000000 in
theorem logic_and (ds : List Dt) (b o cap : Nat) (w : World) (hn : ds.length ≤ 1000) (hbk : b < w.heap.size) (hr : ∀ j, j < ds.length → (dnth ds j).k = 1 → (dnth ds j).s = ⟨#[]⟩) (hc : DCells w b o ds) :
    Calls Tryz.prog 82 #[.int .i64 13, .slice (some ⟨b, o, none⟩) ds.length cap] w fun e w' => e = .returned (andor 0 ds).v ∧ Below w.heap.size w w' := by
  have Hc := Lib.hid hc
  have Hr := Lib.hid hr
  clear hc hr
  have HA := Lib.hid (show andor 0 ds = if ds.any (isSt 0) then ⟨1, 0, ⟨#[]⟩⟩ else if ds.any (fun d => d.k == 0) then Dt.zero else truthD (0 == 0) from rfl)
  have HS := Lib.hid (fun d => show isSt 0 d = (d.k == 1 && d.i == 0) from rfl)
  go_enter Tryz.func82, Tryz.ntmps82
  go_wp2_with fail
  go_loopw [7, 26] (fun _ i wr => ∃ k : Nat, k ≤ ds.length ∧ i = .int .i64 k ∧ Below (w.heap.size + 1) (w.alloc (.cells #[.int .i64 0, .int .i64 0, .string ⟨#[]⟩] 27)) wr ∧ (∀ j, j < k → isSt 0 (dnth ds j) = false)) (fun _ i _ => ds.length - (intOf i).toNat)
  case atStart => exact ⟨0, Nat.zero_le _, rfl, Below.refl _ _, fun j hj => by omega⟩
  case round =>
    obtain ⟨k, hk, rfl, hb, hz⟩ := hrel
    have Hz := Lib.hid hz
    obtain ⟨⟨b1, b2, b3⟩, ⟨f1, f2, f3⟩, hB, hzw⟩ := box_new hb
    have HB := Lib.hid hB
    have Hb := Lib.hid hb
    clear hz hb hB
    by_cases hlt : k < ds.length
    · have hzero : (0 : Int) ≤ k := by omega
      obtain ⟨hc0, hc1, hc2⟩ := Hc.out.at HB.out hbk k hlt
      have Hrk := Lib.hid (Hr.out k hlt)
      have HSk := Lib.hid (HS.out (dnth ds k))
      generalize hdd : dnth ds k = dd at *
      have HD := Lib.hid hdd
      clear hdd
      obtain ⟨dk, di, dst⟩ := dd
      dsimp only at hc0 hc1 hc2
      by_cases hk1 : dk = 1
      · subst hk1
        by_cases hd1 : di = 0
        · subst hd1
          have hs1 : dst = ⟨#[]⟩ := Hrk.out rfl
          subst hs1
          have HE : Hid (andor 0 ds = ⟨1, 0, ⟨#[]⟩⟩) := by
            have h1 : ds.any (isSt 0) = true := any_true hlt (by rw [HD.out, HSk.out]; rfl)
            show andor 0 ds = _
            rw [HA.out, if_pos h1]
          go_wp2_with fail
          refine bodyPost_ret (v := .agg #[.int .i64 1, .int .i64 0, .string ⟨#[]⟩]) (by simp [results, Tryz.results82, go_sem, b1, b2, b3, World.cell?_alloc_past, hzw]) rfl ⟨by rw [HE.out], ?_⟩
          exact (((HB.out.setCell (Nat.le_refl _) _).setCell (Nat.le_refl _) _).setCell (Nat.le_refl _) _).alloc (by simp; omega) _
        · have hd2 : (di == 0) = false := by simpa using hd1
          clear hd1
          go_wp2_with fail
          go_roundw
          case rel => exact ⟨k + 1, by omega, by go_num, Hb.out.alloc (by omega) _, fun j hj => by
            rcases Nat.lt_succ_iff_lt_or_eq.1 hj with h | h
            · exact Hz.out j h
            · rw [h, HD.out, HSk.out]; simp [hd2]⟩
          case measure => simp [intOf]; omega
      · have hk2 : (dk == 1) = false := by simpa using hk1
        clear hk1
        go_wp2_with fail
        go_roundw
        case rel => exact ⟨k + 1, by omega, by go_num, Hb.out.alloc (by omega) _, fun j hj => by
          rcases Nat.lt_succ_iff_lt_or_eq.1 hj with h | h
          · exact Hz.out j h
          · rw [h, HD.out, HSk.out]; simp [hk2]⟩
        case measure => simp [intOf]; omega
    · have H1 : Hid (ds.any (isSt 0) = false) := any_false (p := isSt 0) (fun j hj => Hz.out j (by omega))
      have Hc2 : Hid (DCells wr b o ds) := Hc.out.below HB.out hbk
      go_wp2_with fail
      refine (anyNull_any ds b o cap _ hn (by omega) Hc2.out).mono ?_
      rintro e w2 ⟨rfl, hb2⟩
      obtain ⟨⟨c1, c2, c3⟩, ⟨g1, g2, g3⟩⟩ := box_kept hb2 (n := w.heap.size) (by omega) b1 b2 b3 (fun i => by rw [Hb.out.frozen (p := ⟨w.heap.size, i, none⟩) (by simp)]; exact World.frozen?_alloc_new ..)
      have HB2 := Lib.hid (HB.out.trans (hb2.mono (by omega)))
      have hz2 := hb2.size
      generalize hnul : (ds.any fun d => d.k == 0) = nul
      have HN := Lib.hid hnul
      clear hnul b1 b2 b3 f1 f2 f3
      cases nul
      · go_wp2_with fail
        refine (truth_any _ _).mono ?_
        rintro e w3 ⟨rfl, hb3⟩
        obtain ⟨⟨d1, d2, d3⟩, ⟨e1, e2, e3⟩⟩ := box_kept hb3 (n := w.heap.size) (by omega) c1 c2 c3 (fun i => by rw [hb2.frozen (p := ⟨w.heap.size, i, none⟩) (by show w.heap.size < _; omega), Hb.out.frozen (p := ⟨w.heap.size, i, none⟩) (by simp)]; exact World.frozen?_alloc_new ..)
        have HB3 := Lib.hid (HB2.out.trans (hb3.mono (by omega)))
        have HE : Hid (andor 0 ds = truthD true) := by
          show andor 0 ds = _
          rw [HA.out, if_neg (by rw [H1.out]; simp), if_neg (by rw [HN.out]; simp)]
          rfl
        clear hb2 hb3
        generalize hfin : truthD _ = tv
        have HF := Lib.hid hfin
        clear hfin
        obtain ⟨tk, ti, ts⟩ := tv
        go_wp2_with fail
        refine bodyPost_ret (v := .agg #[.int .i64 tk, .int .i64 ti, .string ts]) (by simp [results, Tryz.results82, go_sem, d1, d2, d3]) rfl ⟨by rw [HE.out, HF.out], ?_⟩
        exact ((HB3.out.setCell (Nat.le_refl _) _).setCell (Nat.le_refl _) _).setCell (Nat.le_refl _) _
      · have HE : Hid (andor 0 ds = Dt.zero) := by
          show andor 0 ds = _
          rw [HA.out, if_neg (by rw [H1.out]; simp), if_pos HN.out]
        clear hb2
        go_wp2_with fail
        refine bodyPost_ret (v := Dt.zero.v) (by simp [results, Tryz.results82, go_sem, c1, c2, c3, Dt.zero]) rfl ⟨by rw [HE.out], ?_⟩
        exact ((HB2.out.setCell (Nat.le_refl _) _).setCell (Nat.le_refl _) _).setCell (Nat.le_refl _) _
set_option maxHeartbeats 1000000 in
theorem logic_or (ds : List Dt) (b o cap : Nat) (w : World) (hn : ds.length ≤ 1000) (hbk : b < w.heap.size) (hr : ∀ j, j < ds.length → (dnth ds j).k = 1 → (dnth ds j).s = ⟨#[]⟩) (hc : DCells w b o ds) :
    Calls Tryz.prog 82 #[.int .i64 14, .slice (some ⟨b, o, none⟩) ds.length cap] w fun e w' => e = .returned (andor 1 ds).v ∧ Below w.heap.size w w' := by
  have Hc := Lib.hid hc
  have Hr := Lib.hid hr
  clear hc hr
  have HA := Lib.hid (show andor 1 ds = if ds.any (isSt 1) then ⟨1, 1, ⟨#[]⟩⟩ else if ds.any (fun d => d.k == 0) then Dt.zero else truthD (1 == 0) from rfl)
  have HS := Lib.hid (fun d => show isSt 1 d = (d.k == 1 && d.i == 1) from rfl)
  go_enter Tryz.func82, Tryz.ntmps82
  go_wp2_with fail
  go_loopw [7, 26] (fun _ i wr => ∃ k : Nat, k ≤ ds.length ∧ i = .int .i64 k ∧ Below (w.heap.size + 1) (w.alloc (.cells #[.int .i64 0, .int .i64 0, .string ⟨#[]⟩] 27)) wr ∧ (∀ j, j < k → isSt 1 (dnth ds j) = false)) (fun _ i _ => ds.length - (intOf i).toNat)
  case atStart => exact ⟨0, Nat.zero_le _, rfl, Below.refl _ _, fun j hj => by omega⟩
  case round =>
    obtain ⟨k, hk, rfl, hb, hz⟩ := hrel
    have Hz := Lib.hid hz
    obtain ⟨⟨b1, b2, b3⟩, ⟨f1, f2, f3⟩, hB, hzw⟩ := box_new hb
    have HB := Lib.hid hB
    have Hb := Lib.hid hb
    clear hz hb hB
    by_cases hlt : k < ds.length
    · have hzero : (0 : Int) ≤ k := by omega
      obtain ⟨hc0, hc1, hc2⟩ := Hc.out.at HB.out hbk k hlt
      have Hrk := Lib.hid (Hr.out k hlt)
      have HSk := Lib.hid (HS.out (dnth ds k))
      generalize hdd : dnth ds k = dd at *
      have HD := Lib.hid hdd
      clear hdd
      obtain ⟨dk, di, dst⟩ := dd
      dsimp only at hc0 hc1 hc2
      by_cases hk1 : dk = 1
      · subst hk1
        by_cases hd1 : di = 1
        · subst hd1
          have hs1 : dst = ⟨#[]⟩ := Hrk.out rfl
          subst hs1
          have HE : Hid (andor 1 ds = ⟨1, 1, ⟨#[]⟩⟩) := by
            have h1 : ds.any (isSt 1) = true := any_true hlt (by rw [HD.out, HSk.out]; rfl)
            show andor 1 ds = _
            rw [HA.out, if_pos h1]
          go_wp2_with fail
          refine bodyPost_ret (v := .agg #[.int .i64 1, .int .i64 1, .string ⟨#[]⟩]) (by simp [results, Tryz.results82, go_sem, b1, b2, b3, World.cell?_alloc_past, hzw]) rfl ⟨by rw [HE.out], ?_⟩
          exact (((HB.out.setCell (Nat.le_refl _) _).setCell (Nat.le_refl _) _).setCell (Nat.le_refl _) _).alloc (by simp; omega) _
        · have hd2 : (di == 1) = false := by simpa using hd1
          clear hd1
          go_wp2_with fail
          go_roundw
          case rel => exact ⟨k + 1, by omega, by go_num, Hb.out.alloc (by omega) _, fun j hj => by
            rcases Nat.lt_succ_iff_lt_or_eq.1 hj with h | h
            · exact Hz.out j h
            · rw [h, HD.out, HSk.out]; simp [hd2]⟩
          case measure => simp [intOf]; omega
      · have hk2 : (dk == 1) = false := by simpa using hk1
        clear hk1
        go_wp2_with fail
        go_roundw
        case rel => exact ⟨k + 1, by omega, by go_num, Hb.out.alloc (by omega) _, fun j hj => by
          rcases Nat.lt_succ_iff_lt_or_eq.1 hj with h | h
          · exact Hz.out j h
          · rw [h, HD.out, HSk.out]; simp [hk2]⟩
        case measure => simp [intOf]; omega
    · have H1 : Hid (ds.any (isSt 1) = false) := any_false (p := isSt 1) (fun j hj => Hz.out j (by omega))
      have Hc2 : Hid (DCells wr b o ds) := Hc.out.below HB.out hbk
      go_wp2_with fail
      refine (anyNull_any ds b o cap _ hn (by omega) Hc2.out).mono ?_
      rintro e w2 ⟨rfl, hb2⟩
      obtain ⟨⟨c1, c2, c3⟩, ⟨g1, g2, g3⟩⟩ := box_kept hb2 (n := w.heap.size) (by omega) b1 b2 b3 (fun i => by rw [Hb.out.frozen (p := ⟨w.heap.size, i, none⟩) (by simp)]; exact World.frozen?_alloc_new ..)
      have HB2 := Lib.hid (HB.out.trans (hb2.mono (by omega)))
      have hz2 := hb2.size
      generalize hnul : (ds.any fun d => d.k == 0) = nul
      have HN := Lib.hid hnul
      clear hnul b1 b2 b3 f1 f2 f3
      cases nul
      · go_wp2_with fail
        refine (truth_any _ _).mono ?_
        rintro e w3 ⟨rfl, hb3⟩
        obtain ⟨⟨d1, d2, d3⟩, ⟨e1, e2, e3⟩⟩ := box_kept hb3 (n := w.heap.size) (by omega) c1 c2 c3 (fun i => by rw [hb2.frozen (p := ⟨w.heap.size, i, none⟩) (by show w.heap.size < _; omega), Hb.out.frozen (p := ⟨w.heap.size, i, none⟩) (by simp)]; exact World.frozen?_alloc_new ..)
        have HB3 := Lib.hid (HB2.out.trans (hb3.mono (by omega)))
        have HE : Hid (andor 1 ds = truthD false) := by
          show andor 1 ds = _
          rw [HA.out, if_neg (by rw [H1.out]; simp), if_neg (by rw [HN.out]; simp)]
          rfl
        clear hb2 hb3
        generalize hfin : truthD _ = tv
        have HF := Lib.hid hfin
        clear hfin
        obtain ⟨tk, ti, ts⟩ := tv
        go_wp2_with fail
        refine bodyPost_ret (v := .agg #[.int .i64 tk, .int .i64 ti, .string ts]) (by simp [results, Tryz.results82, go_sem, d1, d2, d3]) rfl ⟨by rw [HE.out, HF.out], ?_⟩
        exact ((HB3.out.setCell (Nat.le_refl _) _).setCell (Nat.le_refl _) _).setCell (Nat.le_refl _) _
      · have HE : Hid (andor 1 ds = Dt.zero) := by
          show andor 1 ds = _
          rw [HA.out, if_neg (by rw [H1.out]; simp), if_pos HN.out]
        clear hb2
        go_wp2_with fail
        refine bodyPost_ret (v := Dt.zero.v) (by simp [results, Tryz.results82, go_sem, c1, c2, c3, Dt.zero]) rfl ⟨by rw [HE.out], ?_⟩
        exact ((HB2.out.setCell (Nat.le_refl _) _).setCell (Nat.le_refl _) _).setCell (Nat.le_refl _) _
end Go.Proofs.YtokbdleokihdaaaGreatDoor

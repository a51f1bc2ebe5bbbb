/- Small facts for the laws' walks: arguments' slices, boxes, struct comparisons, 'is'. -/
import Derived.Test.YtidejjjedpdbeaaDoorG09
import Derived.Test.YtidejjjedpdbeaaDoorDatApplyC
import Derived.Test.YtidejjjedpdbeaaDoorG01
namespace Go.Proofs.YtidejjjedpdbeaaDoor
open Go.RowKit

/-- Is it the truth TRUE, without an error? -/
def isD (d : Dt) (e : Int) : Bool := e == 0 && (d.k == 1 && d.i == 1)
theorem is_any (k i : Int) (s : ByteArray) (e : Int) (w : World) :
    Calls Tryd.prog 12 #[.agg #[.int .i64 k, .int .i64 i, .string s], .int .i64 e] w fun e' w' => e' = .returned (.bool (isD ⟨k, i, s⟩ e)) ∧ Below w.heap.size w w' := by
  go_enter Tryd.func12, Tryd.ntmps12
  go_wp2_with fail
  all_goals
    go_ret
    refine ⟨?_, (Below.refl _ _).alloc (Nat.le_refl _) _⟩
    simp [isD, *]
theorem Bx.at (W : World) (n : Nat) (hn : n = W.heap.size) (x y z : Value) (t : TypeId) : Bx (W.alloc (.cells #[x, y, z] t)) n x y z := by subst hn; exact Bx.new W x y z t
theorem args1 (W : World) (n : Nat) (hn : n = W.heap.size) (k i : Int) (s : ByteArray) (t : TypeId) : DCells (W.alloc (.cells #[.int .i64 k, .int .i64 i, .string s] t)) n 0 [⟨k, i, s⟩] := by subst hn; exact dcells_new1 W k i s t
theorem args2 (W : World) (n : Nat) (hn : n = W.heap.size) (k i : Int) (s : ByteArray) (k' i' : Int) (s' : ByteArray) (t : TypeId) : DCells (W.alloc (.cells #[.int .i64 k, .int .i64 i, .string s, .int .i64 k', .int .i64 i', .string s'] t)) n 0 [⟨k, i, s⟩, ⟨k', i', s'⟩] := by subst hn; exact dcells_new2 W k i s k' i' s' t
/-- What a law's walk keeps of the world: the tables, and all that was there. -/
structure Gd (w W : World) : Prop where
  t : Tabs W
  b : Below w.heap.size w W
theorem Gd.alloc {w W : World} (h : Gd w W) (o : Obj) : Gd w (W.alloc o) := ⟨h.t.below ((Below.refl _ _).alloc (Nat.le_refl _) o), h.b.alloc h.b.size o⟩
theorem Gd.drew {w W : World} (h : Gd w W) : Gd w W.drew := ⟨h.t.below (Below.refl _ _).drew, h.b.drew⟩
theorem Gd.step {w W W' : World} (h : Gd w W) (hb : Below W.heap.size W W') : Gd w W' := ⟨h.t.below hb, h.b.trans (hb.mono h.b.size)⟩
theorem Gd.refl {w : World} (h : Tabs w) : Gd w w := ⟨h, Below.refl _ _⟩
theorem eqD_same (k i : Int) (s : ByteArray) : eqD k i s k i s = true := eqD_iff.2 ⟨rfl, rfl, rfl⟩
attribute [go_sem] eqD_same
end Go.Proofs.YtidejjjedpdbeaaDoor

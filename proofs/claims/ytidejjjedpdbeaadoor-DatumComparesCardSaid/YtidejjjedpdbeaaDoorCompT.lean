/- Plain laws of comparisons, and a block of six truths. -/
import Derived.Test.YtidejjjedpdbeaaDoorLawKit
import Derived.Test.YtidejjjedpdbeaaDoorRefRight
namespace Go.Proofs.YtidejjjedpdbeaaDoor
open Go.RowKit

theorem cmpR_null (op : Int) (d d' : Dt) (h : d.k = 0 ∨ d'.k = 0) : cmpR op d d' = (⟨0, 0, ⟨#[]⟩⟩, 0) := by
  have hn : [d, d'].any (fun d => d.k == 0) = true := by
    rcases h with h | h <;> simp [h]
  unfold cmpR
  rw [if_neg (by rw [hn]; simp)]
  unfold comparedF
  rw [if_pos hn]; rfl
/-- May two values be held against each other: both numbers, or of one kind. -/
def agree (k k' : Int) : Bool := (k == k') || ((k == 2 || k == 3) && (k' == 2 || k' == 3))
theorem all_nums (d d' : Dt) (h : d.k ≠ 0) (h' : d'.k ≠ 0) : [d, d'].all (isOf [2, 3]) = ((d.k == 2 || d.k == 3) && (d'.k == 2 || d'.k == 3)) := by
  have e : ∀ x : Dt, x.k ≠ 0 → isOf [2, 3] x = (x.k == 2 || x.k == 3) := fun x hx => by
    unfold isOf
    rw [show (x.k == 0) = false by simpa using hx]
    simp
  simp [e d h, e d' h']
theorem any_null (d d' : Dt) (h : d.k ≠ 0) (h' : d'.k ≠ 0) : [d, d'].any (fun d => d.k == 0) = false := by
  simp [h, h']
theorem cmpR_none (op : Int) (d d' : Dt) (h : d.k ≠ 0) (h' : d'.k ≠ 0) (ha : agree d.k d'.k = false) : cmpR op d d' = (⟨0, 0, ⟨#[]⟩⟩, 5) := by
  unfold agree at ha
  rw [Bool.or_eq_false_iff] at ha
  unfold cmpR
  rw [if_pos ⟨by rw [all_nums d d' h h']; exact ha.2, any_null d d' h h', by simpa using ha.1⟩]; rfl
theorem cmpR_some (op : Int) (d d' : Dt) (h : d.k ≠ 0) (h' : d'.k ≠ 0) (ha : agree d.k d'.k = true) : cmpR op d d' = (truthD (cmpOp op (ordD d d')), 0) := by
  unfold agree at ha
  unfold cmpR
  rw [if_neg (fun hq => by
    obtain ⟨h1, h2, h3⟩ := hq
    rw [all_nums d d' h h'] at h1
    rw [h1] at ha
    simp at ha
    exact h3 ha)]
  unfold comparedF
  rw [if_neg (by rw [any_null d d' h h']; simp)]
theorem ord_same (d d' : Dt) (h : d.k = d'.k) : ordD d d' = dco d.k d.i d.s d'.k d'.i d'.s := by
  unfold ordD
  split
  · unfold ordN; rw [if_pos h]
  · rfl
theorem isD_truth (b : Bool) : isD ⟨1, if b = true then 1 else 0, ⟨#[]⟩⟩ 0 = b := by cases b <;> rfl
/-- A block of six truths that can be written. -/
structure Gt (W : World) (n : Nat) (g : Nat → Bool) : Prop where
  c : ∀ j, j < 6 → W.cell? ⟨n, j, none⟩ = some (.bool (g j))
  f : ∀ j, W.frozen? ⟨n, j, none⟩ = false
  lt : n < W.heap.size
theorem Gt.new (W : World) (t : TypeId) : Gt (W.alloc (.cells #[.bool false, .bool false, .bool false, .bool false, .bool false, .bool false] t)) W.heap.size (fun _ => false) := by
  refine ⟨fun j hj => ?_, fun j => World.frozen?_alloc_new .., by simp⟩
  rcases (by omega : j = 0 ∨ j = 1 ∨ j = 2 ∨ j = 3 ∨ j = 4 ∨ j = 5) with rfl | rfl | rfl | rfl | rfl | rfl <;> (rw [World.cell?_alloc_new]; rfl)
theorem Gt.below {W W' : World} {n : Nat} {g : Nat → Bool} (h : Gt W n g) (hb : Below W.heap.size W W') : Gt W' n g :=
  ⟨fun j hj => by rw [hb.cell (p := ⟨n, j, none⟩) h.lt]; exact h.c j hj, fun j => by rw [hb.frozen (p := ⟨n, j, none⟩) h.lt]; exact h.f j, by have := hb.size; have := h.lt; omega⟩
theorem Gt.alloc {W : World} {n : Nat} {g : Nat → Bool} (h : Gt W n g) (o : Obj) : Gt (W.alloc o) n g := h.below ((Below.refl _ _).alloc (Nat.le_refl _) o)
theorem Gt.set {W : World} {n : Nat} {g : Nat → Bool} (h : Gt W n g) (k : Nat) (hk : k < 6) (b : Bool) : Gt (W.setCell ⟨n, k, none⟩ (.bool b)) n (fun j => if j = k then b else g j) := by
  refine ⟨fun j hj => ?_, fun j => by rw [World.frozen?_setCell]; exact h.f j, by simp only [World.size_setCell]; exact h.lt⟩
  by_cases hjk : j = k
  · subst hjk
    rw [if_pos rfl]
    exact World.cell?_setCell_same _ _ _ (h.c j hj)
  · rw [if_neg hjk, World.cell?_setCell_other (h := fun e => hjk (by injection e with _ e2 _; exact e2.symm))]
    exact h.c j hj
theorem Bx.one_far {W : World} {n m k : Nat} {x y z : Value} (h : Bx W n x y z) (hm : m ≠ n) (v : Value) : Bx (W.setCell ⟨m, k, none⟩ v) n x y z := by
  refine ⟨?_, ?_, ?_, ?_, ?_, ?_, ?_⟩
  · rw [World.cell?_setCell_far _ _ _ _ hm]; exact h.c0
  · rw [World.cell?_setCell_far _ _ _ _ hm]; exact h.c1
  · rw [World.cell?_setCell_far _ _ _ _ hm]; exact h.c2
  · simp only [World.frozen?_setCell]; exact h.f0
  · simp only [World.frozen?_setCell]; exact h.f1
  · simp only [World.frozen?_setCell]; exact h.f2
  · simp only [World.size_setCell]; exact h.lt
theorem Gd.set {w W : World} (h : Gd w W) {n k : Nat} (hn : w.heap.size ≤ n) (v : Value) (ht : Tabs w) : Gd w (W.setCell ⟨n, k, none⟩ v) := ⟨ht.below (h.b.setCell (p := ⟨n, k, none⟩) hn v), h.b.setCell (p := ⟨n, k, none⟩) hn v⟩
theorem cmpOp_neg (n : Int) (h : n < 0) : cmpOp 7 n = false ∧ cmpOp 8 n = true ∧ cmpOp 9 n = true ∧ cmpOp 10 n = true ∧ cmpOp 11 n = false ∧ cmpOp 12 n = false := by
  refine ⟨?_, ?_, ?_, ?_, ?_, ?_⟩ <;> simp [cmpOp] <;> omega
theorem cmpOp_pos (n : Int) (h : 0 < n) : cmpOp 7 n = false ∧ cmpOp 8 n = true ∧ cmpOp 9 n = false ∧ cmpOp 10 n = false ∧ cmpOp 11 n = true ∧ cmpOp 12 n = true := by
  refine ⟨?_, ?_, ?_, ?_, ?_, ?_⟩ <;> simp [cmpOp] <;> omega
theorem cmpOp_zero : cmpOp 7 0 = true ∧ cmpOp 8 0 = false ∧ cmpOp 9 0 = false ∧ cmpOp 10 0 = true ∧ cmpOp 11 0 = false ∧ cmpOp 12 0 = true := by
  refine ⟨rfl, rfl, rfl, rfl, rfl, rfl⟩
theorem Gt.vals {W : World} {n : Nat} {g : Nat → Bool} {c : Bool} {nn : Int} (h : Gt W n (fun j => if j = 5 then c else g j)) (hg : ∀ j : Nat, j < 5 → g j = cmpOp (7 + j) nn) (hc : cmpOp (7 + (5 : Nat)) nn = c) (j : Nat) (hj : j < 6) (o : Int) (ho : o = 7 + j) (b : Bool) (hb : cmpOp o nn = b) : W.cell? ⟨n, j, none⟩ = some (.bool b) := by
  have h0 := h.c j hj
  by_cases h5 : j = 5
  · subst h5
    rw [if_pos rfl, ← hc, ← ho, hb] at h0
    exact h0
  · rw [if_neg h5, hg j (by omega), ← ho, hb] at h0
    exact h0
end Go.Proofs.YtidejjjedpdbeaaDoor

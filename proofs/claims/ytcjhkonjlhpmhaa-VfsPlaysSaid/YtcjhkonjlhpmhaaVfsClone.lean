/- The contract of Clone: another disk that stands alike, in blocks of its own. -/
import Derived.Test.YtcjhkonjlhpmhaaVfsSmall
import Derived.Test.YtcjhkonjlhpmhaaShelf
namespace Go.Proofs.Ytcjhkonjlhpmhaa
open Go.RowKit Go.Maps

set_option maxRecDepth 100000 in
set_option maxHeartbeats 4000000 in
theorem clone_any {d : Dk} {w : World} {b m : Nat} (h : DAt w b m d) :
    Calls Try.prog 28 #[.pointer (some ⟨b, 0, none⟩)] w fun e w' => e = .returned (.pointer (some ⟨w.heap.size, 0, none⟩)) ∧ DAt w' w.heap.size (w.heap.size + 1) d ∧ Below w.heap.size w w' ∧ w.heap.size + 1 < w'.heap.size := by
  have c0 := h.c0
  have c1 := h.c1
  have c2 := h.c2
  have c3 := h.c3
  have c4 := h.c4
  have c5 := h.c5
  have c6 := h.c6
  have hlt := h.lt
  have H := Lib.hid h
  clear h
  go_enter Try.func28, Try.ntmps28
  go_wp2_with fail
  have hown := (H.out.alloc (.cells #[.int .i64 (d.room : Int), .int .i64 (usedF d.L : Int), .map (some m), .bool d.off, .bool d.armed, .int .i64 (d.left : Int), .int .i64 (d.steps : Int)] 67)).own
  have hB := (Below.refl w.heap.size w).alloc (Nat.le_refl _) (.cells #[.int .i64 (d.room : Int), .int .i64 (usedF d.L : Int), .map (some m), .bool d.off, .bool d.armed, .int .i64 (d.left : Int), .int .i64 (d.steps : Int)] 67)
  have hsz : (w.alloc (.cells #[.int .i64 (d.room : Int), .int .i64 (usedF d.L : Int), .map (some m), .bool d.off, .bool d.armed, .int .i64 (d.left : Int), .int .i64 (d.steps : Int)] 67)).heap.size = w.heap.size + 1 := by simp
  have hblk : (w.alloc (.cells #[.int .i64 (d.room : Int), .int .i64 (usedF d.L : Int), .map (some m), .bool d.off, .bool d.armed, .int .i64 (d.left : Int), .int .i64 (d.steps : Int)] 67)).heap[w.heap.size]? = some (.cells #[.int .i64 (d.room : Int), .int .i64 (usedF d.L : Int), .map (some m), .bool d.off, .bool d.armed, .int .i64 (d.left : Int), .int .i64 (d.steps : Int)] 67 (0, 0)) := by simp only [World.alloc, Array.getElem?_push_size]
  generalize w.alloc (.cells #[.int .i64 (d.room : Int), .int .i64 (usedF d.L : Int), .map (some m), .bool d.off, .bool d.armed, .int .i64 (d.left : Int), .int .i64 (d.steps : Int)] 67) = w1 at *
  have hcl := Try.maps_Clone_owns _ _ _ _ _ _ hown
  rw [hsz] at hcl
  refine hcl.mono ?_
  rintro e w2 ⟨rfl, ho2, -, hB2⟩
  have hb2 : w2.heap[w.heap.size]? = _ := (hB2.block w.heap.size (by omega)).trans hblk
  have d0 : w2.cell? ⟨w.heap.size, 0, none⟩ = some (.int .i64 (d.room : Int)) := by simp [World.cell?, hb2]
  have d1 : w2.cell? ⟨w.heap.size, 1, none⟩ = some (.int .i64 (usedF d.L : Int)) := by simp [World.cell?, hb2]
  have d2 : w2.cell? ⟨w.heap.size, 2, none⟩ = some (.map (some m)) := by simp [World.cell?, hb2]
  have d3 : w2.cell? ⟨w.heap.size, 3, none⟩ = some (.bool d.off) := by simp [World.cell?, hb2]
  have d4 : w2.cell? ⟨w.heap.size, 4, none⟩ = some (.bool d.armed) := by simp [World.cell?, hb2]
  have d5 : w2.cell? ⟨w.heap.size, 5, none⟩ = some (.int .i64 (d.left : Int)) := by simp [World.cell?, hb2]
  have d6 : w2.cell? ⟨w.heap.size, 6, none⟩ = some (.int .i64 (d.steps : Int)) := by simp [World.cell?, hb2]
  have hf : ∀ j, w2.frozen? ⟨w.heap.size, j, none⟩ = false := fun j => by simp [World.frozen?, hb2]
  have z2 : w2.frozen? ⟨w.heap.size, 2, none⟩ = false := hf 2
  have hlt2 := ho2.lt
  have HF := Lib.hid (show DAt (w2.setCell ⟨w.heap.size, 2, none⟩ (.map (some (w.heap.size + 1)))) w.heap.size (w.heap.size + 1) d from
    ⟨setc (by decide) d0, setc (by decide) d1, sets d2, setc (by decide) d3, setc (by decide) d4, setc (by decide) d5, setc (by decide) d6, setf (hf 1), setf (hf 3), setf (hf 4), setf (hf 5), setf (hf 6), by omega, ho2.setCell (a := ⟨w.heap.size, 2, none⟩) (by show w.heap.size + 1 ≠ w.heap.size; omega) _⟩)
  have HBB := Lib.hid (hB.trans (hB2.mono (by omega)))
  clear hown hB hblk hcl ho2 hB2 hb2 hf d0 d1 d3 d4 d5 d6 c0 c1 c2 c3 c4 c5 c6
  go_wp2_with fail
  go_ret
  exact ⟨rfl, HF.out, HBB.out.setCell (p := ⟨w.heap.size, 2, none⟩) (Nat.le_refl _) _, by simpa using hlt2⟩
end Go.Proofs.Ytcjhkonjlhpmhaa

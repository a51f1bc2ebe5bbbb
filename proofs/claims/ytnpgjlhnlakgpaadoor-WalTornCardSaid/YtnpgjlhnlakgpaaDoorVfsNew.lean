/- The contract of New (a disk of a room that may be). *copy of XVfsSmall's*. -/
import Derived.Test.YtnpgjlhnlakgpaaDoorVfsFx
namespace Go.Proofs.YtnpgjlhnlakgpaaDoor
open Go.RowKit Go.Maps

set_option maxHeartbeats 1000000 in
theorem new_ok (r : Nat) (w : World) (h : r ≤ 4194304) : Calls Tryd.prog 35 #[.int .i64 (r : Int)] w fun e w' => e = .returned (.tuple #[.pointer (some ⟨w.heap.size + 1, 0, none⟩), .int .i64 0]) ∧ DAt w' (w.heap.size + 1) w.heap.size (Dk.new r) ∧ Below w.heap.size w w' ∧ w.heap.size + 1 < w'.heap.size := by
  have hmm := @run_makeMap Tryd.prog
  go_enter Tryd.func35, Tryd.ntmps35
  go_wp2_with fail
  go_ret2
  refine ⟨rfl, ?_, ?_, ?_⟩
  · have hown : (w.alloc (.map #[] 0)).ownsMap Tryd.prog 9 flElem w.heap.size 0 (.map []) := World.ownsMap_made _ _ _ _
    have hz : (w.alloc (.map #[] 0)).heap.size = w.heap.size + 1 := by simp
    have hc : ∀ o, ((w.alloc (.map #[] 0)).alloc (.cells #[.int .i64 (r : Int), .int .i64 0, .map (some w.heap.size), .bool false, .bool false, .int .i64 0, .int .i64 0] 109)).cell? ⟨w.heap.size + 1, o, none⟩ = (#[.int .i64 (r : Int), .int .i64 0, .map (some w.heap.size), .bool false, .bool false, .int .i64 0, .int .i64 0] : Array Value)[o]? := fun o => by
      rw [← hz]; exact World.cell?_alloc_new _ _ _ _
    have hf : ∀ o, ((w.alloc (.map #[] 0)).alloc (.cells #[.int .i64 (r : Int), .int .i64 0, .map (some w.heap.size), .bool false, .bool false, .int .i64 0, .int .i64 0] 109)).frozen? ⟨w.heap.size + 1, o, none⟩ = false := fun o => by
      rw [← hz]; exact World.frozen?_alloc_new ..
    refine ⟨by rw [hc]; rfl, by rw [hc]; rfl, by rw [hc]; rfl, by rw [hc]; rfl, by rw [hc]; rfl, by rw [hc]; rfl, by rw [hc]; rfl, hf 1, hf 3, hf 4, hf 5, hf 6, by omega, ?_⟩
    exact hown.alloc _
  · exact ((Below.refl _ _).alloc (Nat.le_refl _) _).alloc (by simp) _
  · simp
end Go.Proofs.YtnpgjlhnlakgpaaDoor

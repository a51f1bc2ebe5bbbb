/- The calls that a log's laws are given: where they lie; cut. -/
import Derived.Test.YtnpgjlhnlakgpaaGreatDoorProg
import Derived.Test.YtnpgjlhnlakgpaaGreatDoorG04
import Derived.Deep.DeepCutAuto
namespace Go.Proofs.YtnpgjlhnlakgpaaGreatDoor
open Go.RowKit Go.Maps

/-- A call, and the two slices of its crash as they lie. -/
structure WOp where
  kind : Int
  n : Int
  name : ByteArray
  data : ByteArray
  kp : Option Addr
  kn : Nat
  kc : Nat
  tp : Option Addr
  tn : Nat
  tc : Nat
def WOp.cells (x : WOp) : List Value := [.int .i64 x.kind, .int .i64 x.n, .string x.name, .string x.data, .slice x.kp x.kn x.kc, .slice x.tp x.tn x.tc]
/-- Where calls lie. -/
def OpW (w : World) (v : Value) (es : List WOp) : Prop :=
  ∃ p cap, v = .slice p es.length cap ∧ es.length ≤ cap ∧ (es = [] ∨ ∃ g off, p = some ⟨g, off, none⟩ ∧ ∀ (i : Nat) (x : WOp), es[i]? = some x → ∀ (j : Nat) (u : Value), x.cells[j]? = some u → w.cell? ⟨g, off + i * 6 + j, none⟩ = some u)
theorem OpW.below {w w' : World} {v : Value} {es : List WOp} (h : OpW w v es) (hB : Below w.heap.size w w') : OpW w' v es := by
  obtain ⟨p, cap, hv, hc, h⟩ := h
  refine ⟨p, cap, hv, hc, h.imp id ?_⟩
  rintro ⟨g, off, hp, hcc⟩
  refine ⟨g, off, hp, fun i x hi j u hj => ?_⟩
  have := hcc i x hi j u hj
  exact (hB.cell (p := ⟨g, off + i * 6 + j, none⟩) (World.block_lt_of_cell? w _ this)).trans this
theorem OpW.take {w : World} {p : Option Addr} {n cap : Nat} {es : List WOp} (h : OpW w (.slice p n cap) es) (k : Nat) : OpW w (.slice p (min k n) cap) (es.take k) := by
  obtain ⟨p', cap', hv, hc, h⟩ := h
  cases hv
  refine ⟨p, cap, by rw [List.length_take], by rw [List.length_take]; omega, ?_⟩
  rcases h with h | ⟨g, off, hp, h⟩
  · exact .inl (by rw [h]; simp)
  · refine .inr ⟨g, off, hp, fun i x hi => h i x ?_⟩
    rw [List.getElem?_take] at hi
    split at hi
    · exact hi
    · cases hi
theorem OpW.get {w : World} {p : Option Addr} {n cap : Nat} {es : List WOp} (h : OpW w (.slice p n cap) es) {i : Nat} {x : WOp} (hi : es[i]? = some x) : ∃ g off, p = some ⟨g, off, none⟩ ∧ w.cell? ⟨g, off + i * 6, none⟩ = some (.int .i64 x.kind) ∧ w.cell? ⟨g, off + i * 6 + 1, none⟩ = some (.int .i64 x.n) ∧
    w.cell? ⟨g, off + i * 6 + 2, none⟩ = some (.string x.name) ∧ w.cell? ⟨g, off + i * 6 + 3, none⟩ = some (.string x.data) ∧ w.cell? ⟨g, off + i * 6 + 4, none⟩ = some (.slice x.kp x.kn x.kc) ∧ w.cell? ⟨g, off + i * 6 + 5, none⟩ = some (.slice x.tp x.tn x.tc) := by
  obtain ⟨p', cap', hv, hc, h⟩ := h
  cases hv
  rcases h with h | ⟨g, off, hp, h⟩
  · rw [h] at hi; simp at hi
  · have := h i x hi
    exact ⟨g, off, hp, this 0 _ rfl, this 1 _ rfl, this 2 _ rfl, this 3 _ rfl, this 4 _ rfl, this 5 _ rfl⟩
set_option maxHeartbeats 1000000 in
theorem cutw_any {w : World} {p : Option Addr} {n c : Nat} {es : List WOp} (h : OpW w (.slice p n c) es) (k : Nat) (hk : k ≤ 1000) :
    Calls Tryz.prog 8 #[.slice p n c, .int .i64 (k : Int)] w fun e w' => e = .returned (.slice p (min k n) c) ∧ w' = w := by
  obtain ⟨p', c', hv, hc, h3⟩ := h
  cases hv
  rcases h3 with rfl | ⟨g, o, rfl, _⟩
  · have hm : min k ([] : List WOp).length = 0 := by simp
    rw [hm]
    have hlt : ¬ k < 0 := by omega
    clear hm
    simp only [List.length_nil] at *
    go_enter Tryz.func8, Tryz.ntmps8
    go_wp2_with fail
    go_ret
    exact ⟨rfl, rfl⟩
  · by_cases hlt : k < es.length
    · have hm : min k es.length = k := by omega
      rw [hm]
      generalize es.length = n at *
      clear hm
      go_enter Tryz.func8, Tryz.ntmps8
      go_wp2_with fail
      go_ret
      exact ⟨rfl, rfl⟩
    · have hm : min k es.length = es.length := by omega
      rw [hm]
      generalize es.length = n at *
      clear hm
      go_enter Tryz.func8, Tryz.ntmps8
      go_wp2_with fail
      go_ret
      exact ⟨rfl, rfl⟩
end Go.Proofs.YtnpgjlhnlakgpaaGreatDoor

/- Opening the arguments of a disk's laws: what a crash leaves. -/
import Derived.Test.YtcjhkonjlhpmhaaVfsStays
import Derived.ProofKit
import Derived.Lib.SmallJoins
import Derived.OpenShut
import Derived.ShutString
namespace Go.Proofs.Ytcjhkonjlhpmhaa
open Go.ChangeShapes Go.WideShapes Go.ChangeAt Go.RowKit Go.Joins
open Go.ChangeMaps (open_string shut_string)

theorem own : ownKnob Try.prog.godebug = none := by kernel_rfl
theorem laidOut : laidOutB Try.prog = true := by kernel_rfl

theorem open_numbers {H : Type} {enc : TypeId × Value → H} {W : World} {n : Nat} {v : Value} {y : DataW H × List MemPlace} (h : DataW.trod enc Try.prog W 0 (fun _ => true) true n 22 [v] = some y) :
    ∃ xs : List Int, (∀ b m, W.heap.size ≤ b → W.heap.size ≤ m → IntsAt b m W v xs) ∧ (∀ x ∈ xs, x ≤ 9223372036854775807) := by
  rcases open_ints Try.underlying22 Try.underlying3 (by kernel_rfl) h with ⟨hcs, _⟩ | ⟨a, len, cap, zs, hcs, _, hl, hm, hz, _, hc, hw⟩
  · simp only [List.cons.injEq, and_true] at hcs
    subst hcs
    exact ⟨[], fun _ _ _ _ => ⟨none, 0, rfl, by simp, .inl rfl⟩, by simp⟩
  · simp only [List.cons.injEq, and_true] at hcs
    subst hcs
    simp only [if_true] at hz
    unfold maxLen at hm
    have hlen : (zs.take len).length = len := by rw [List.length_take]; omega
    refine ⟨zs.take len, fun b m hb hm' => ⟨some a, cap, by rw [hlen], by omega, ?_⟩, fun x hx => (bounds_i64 (hw x (List.mem_of_mem_take hx))).2⟩
    by_cases h0 : len = 0
    · subst h0; exact .inl (by simp)
    · right
      have hc0 := hc 0 (by omega)
      have hspot := World.cell?_spot hc0
      obtain ⟨g, o, sp⟩ := a
      have hsp : sp = none := by simpa [Addr.add] using hspot
      subst hsp
      have hadd : ∀ j, (⟨g, o, none⟩ : Addr).add j = ⟨g, o + j, none⟩ := fun j => by unfold Addr.add; split <;> simp_all
      have hg := World.block_lt_of_cell? W _ hc0
      rw [hadd] at hg
      have hg' : g < W.heap.size := hg
      refine ⟨g, o, rfl, by omega, by omega, fun j hj => ?_⟩
      rw [hlen] at hj
      have := hc j (by omega)
      rw [hadd] at this
      rw [this]
      simp [List.getD_eq_getElem?_getD, List.getElem?_take_of_lt hj]
set_option maxRecDepth 100000 in
theorem open_crash {H : Type} {enc : TypeId × Value → H} {W : World} {b0 : Nat} {v : Value} {d : DataW H} {p : List MemPlace}
    (hv : Value.okWide Try.prog W .any b0 24 v) (h : DataW.Trod enc Try.prog W 0 (fun _ => true) true 24 v d p) :
    ∃ (kv tv : Value) (keep turn : List Int), v = .agg #[kv, tv] ∧ (∀ b m, W.heap.size ≤ b → W.heap.size ≤ m → IntsAt b m W kv keep) ∧ (∀ b m, W.heap.size ≤ b → W.heap.size ≤ m → IntsAt b m W tv turn) ∧ (∀ x ∈ keep, x ≤ 9223372036854775807) ∧ (∀ x ∈ turn, x ≤ 9223372036854775807) := by
  obtain ⟨c0, c1, y0, y1, m, rfl, rfl, rfl, hy0, hy1⟩ := open_agg2 Try.underlying24 (by kernel_rfl) (by kernel_rfl) hv h
  obtain ⟨xs, h1, h2⟩ := open_numbers hy0
  obtain ⟨ys, h3, h4⟩ := open_numbers hy1
  exact ⟨_, _, xs, ys, rfl, h1, h3, h2, h4⟩
end Go.Proofs.Ytcjhkonjlhpmhaa

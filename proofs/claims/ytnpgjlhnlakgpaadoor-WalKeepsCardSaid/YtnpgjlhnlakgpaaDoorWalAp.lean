/- A segment's number put behind the others: one step of a region. -/
import Derived.Test.YtnpgjlhnlakgpaaDoorG13
import Derived.Deep.RegionLaw
import Derived.Deep.RegionHeld3
import Derived.ArgAppend
import Derived.OwnWalk
namespace Go.Proofs.YtnpgjlhnlakgpaaDoor
open Go.RowKit Go.Maps

theorem i64cell : (Tryd.prog.info? 3).map (fun i => (i.zero, i.size, i.bytes)) = some (some (.int .i64 0), 1, 8) := by kernel_rfl
def numVals (l : List Nat) : List Value := l.map fun (n : Nat) => Value.int .i64 (n : Int)
theorem append_num (w : World) (ty : TypeId) {g o cap : Nat} {nums : List Nat} {q : Nat} (hN : NumAt w g o cap nums) (ad : Addr) (c : Nat) (hc : w.cell? ad = some (.int .i64 (q : Int))) (hle : nums.length + 1 ≤ 1000000000000) :
    ∃ g' o' cap' w', (Builtin.append_ #[36, 36] ty #[.slice (some ⟨g, o, none⟩) nums.length cap, .slice (some ad) 1 c]).run Tryd.prog w = .ok (.slice (some ⟨g', o', none⟩) (nums.length + 1) cap') w' ∧
      NumAt w' g' o' cap' (nums ++ [q]) ∧ NumAt w' g o cap nums ∧ (g' = g ∨ w.heap.size ≤ g') ∧ w.grownBy w' (some g) := by
  obtain ⟨i0, hi0, hz0, hz1, hz2⟩ := info_parts i64cell
  have hnews : ∀ (j : Nat) u, [Value.int .i64 (q : Int)][j]? = some u → w.cell? (ad.add j) = some u := by
    intro j u hj
    match j, hj with
    | 0, hj =>
      have : ad.add 0 = ad := by cases ad; unfold Addr.add; split <;> simp_all
      rw [this, hc]
      simpa using hj
  have hm := hN.max
  have hl := hN.le
  unfold maxLen at hm
  by_cases hr : nums.length + 1 ≤ cap
  · have hs := hN.spare nums.length (by omega)
    have hrun := run_append_room_cells (P := Tryd.prog) w 36 ty 3 i0 Tryd.underlying36 hi0 g o nums.length cap ad 1 c [.int .i64 (q : Int)] (by rw [hz1]; rfl) hnews (by simp [Value.oneCell']) hr
      (fun j hj => by rw [hz1, Nat.mul_one]; simp at hj; subst hj; exact hs.1) (fun j hj => by rw [hz1, Nat.mul_one]; simp at hj; subst hj; exact hs.2)
    rw [hz1, Nat.mul_one] at hrun
    obtain ⟨u0, hu0⟩ := Option.isSome_iff_exists.1 hs.1
    have cc : ∀ i, i ≠ nums.length → (w.setCells g (o + nums.length) [.int .i64 (q : Int)]).cell? ⟨g, o + i, none⟩ = w.cell? ⟨g, o + i, none⟩ := fun i hi => World.cell?_setCell_other _ _ _ _ (fun e => hi (by have := (Addr.mk.inj e).2.1; omega))
    have cs : (w.setCells g (o + nums.length) [.int .i64 (q : Int)]).cell? ⟨g, o + nums.length, none⟩ = some (.int .i64 (q : Int)) := World.cell?_setCell_same _ _ _ hu0
    have ff : ∀ i, (w.setCells g (o + nums.length) [.int .i64 (q : Int)]).frozen? ⟨g, o + i, none⟩ = w.frozen? ⟨g, o + i, none⟩ := fun i => World.frozen?_setCells ..
    have hb : ∃ x, (w.setCells g (o + nums.length) [.int .i64 (q : Int)]).heap[g]? = some x := by
      have := World.block_lt_of_cell? _ _ cs
      exact ⟨_, Array.getElem?_eq_getElem this⟩
    have hsp : ∀ i, i < cap → ((w.setCells g (o + nums.length) [.int .i64 (q : Int)]).cell? ⟨g, o + i, none⟩).isSome = true ∧ (w.setCells g (o + nums.length) [.int .i64 (q : Int)]).frozen? ⟨g, o + i, none⟩ = false := fun i hi => by
      refine ⟨?_, by rw [ff]; exact (hN.spare i hi).2⟩
      by_cases h : i = nums.length
      · subst h; rw [cs]; rfl
      · rw [cc i h]; exact (hN.spare i hi).1
    have h1 : NumAt (w.setCells g (o + nums.length) [.int .i64 (q : Int)]) g o cap (nums ++ [q]) := by
      refine ⟨hb, fun i n hi => ?_, hsp, by simpa using hr, hN.max⟩
      by_cases h : i = nums.length
      · subst h
        rw [List.getElem?_append_right (Nat.le_refl _)] at hi
        simp at hi
        subst hi
        exact cs
      · have hlt : i < nums.length := by
          have := (List.getElem?_eq_some_iff.1 hi).1
          simp at this
          omega
        rw [cc i h]
        rw [List.getElem?_append_left hlt] at hi
        exact hN.cells i n hi
    exact ⟨g, o, cap, _, hrun, h1, h1.init, .inl rfl, ⟨rfl, rfl, rfl, by simp [World.setCells], fun k _ hk => Below.heap_setCell _ _ _ _ (fun e => hk (by rw [e]))⟩⟩
  · have holds : ∀ (j : Nat) u, (numVals nums)[j]? = some u → w.cell? ((⟨g, o, none⟩ : Addr).add j) = some u := by
      intro j u hj
      rw [Addr.add_lit]
      unfold numVals at hj
      rw [List.getElem?_map] at hj
      obtain ⟨n, hn, rfl⟩ := Option.map_eq_some_iff.1 hj
      exact hN.cells j n hn
    obtain ⟨v', w', hrun, r1, r2⟩ := run_append_arg_grows (P := Tryd.prog) w 36 ty 3 i0 (.int .i64 0) 1 8 Tryd.underlying36 hi0 hz0 hz1 hz2 rfl (by decide) ⟨g, o, none⟩ nums.length cap (numVals nums) (by simp [numVals]) holds ad 1 c [.int .i64 (q : Int)] rfl hnews (by omega) (by unfold maxLen; omega) (by omega)
    rcases id r1.2 with ⟨_, h0⟩ | ⟨g', cap', cur, rfl, hg, hh, hnc, hcm, hcs, ht⟩
    · omega
    rw [Nat.mul_one] at hcs ht
    refine ⟨g', 0, cap', w', hrun, ⟨⟨_, hh⟩, fun i n hi => ?_, fun i hi => ?_, by simpa using hnc, by simpa using hcm⟩, hN.of_block (r2.block g hN.lt (by simp)), .inr hg, ⟨r2.os, r2.tape, r2.output, r2.size, fun k hk _ => r2.block k hk (by simp)⟩⟩
    · rw [Nat.zero_add]
      have hil : i < nums.length + 1 := by have := (List.getElem?_eq_some_iff.1 hi).1; simpa using this
      unfold World.cell?
      rw [hh]
      show cur[i]? = _
      have h1 : cur.toList[i]? = (numVals nums ++ [.int .i64 (q : Int)])[i]? := by rw [← ht, List.getElem?_take_of_lt hil]
      rw [← Array.getElem?_toList, h1]
      have : numVals nums ++ [.int .i64 (q : Int)] = numVals (nums ++ [q]) := by simp [numVals]
      rw [this]
      unfold numVals
      rw [List.getElem?_map, hi]
      rfl
    · rw [Nat.zero_add]
      refine ⟨?_, ?_⟩
      · unfold World.cell?
        rw [hh]
        show (cur[i]?).isSome = true
        rw [Array.getElem?_eq_getElem (by omega)]
        rfl
      · unfold World.frozen?
        rw [hh]
        simp
theorem step_append_num {ops : Array Oper} {op : Oper} {a : Act} {K : Act → World → Prop} {Q : Exit → Act → World → Prop} {E : Prop} {w : World} (hgd : op.guard = none) (s x : Operand)
    (ho : op.op = Op.call { callee := Callee.builtin Builtin.append, args := #[s, x], argTypes := #[36, 36] }) {g o cap : Nat} {nums : List Nat} {n q : Nat} (hn : nums.length = n) (hs : a.eval s = .slice (some ⟨g, o, none⟩) n cap) (hN : NumAt w g o cap nums)
    (ad : Addr) (c : Nat) (hx : a.eval x = .slice (some ad) 1 c) (hc : w.cell? ad = some (.int .i64 (q : Int))) (hle : n + 1 ≤ 1000000000000)
    (hK : ∀ g' o' cap' w', NumAt w' g' o' cap' (nums ++ [q]) → NumAt w' g o cap nums → (g' = g ∨ w.heap.size ≤ g') → w.grownBy w' (some g) → K (a.put op.dst (.slice (some ⟨g', o', none⟩) (n + 1) cap')) w') :
    if Region.wanted op (yielded ops a.tmps) = true then Oper.wp Tryd.prog op a w K Q else E := by
  have hw : Region.wanted op (yielded ops a.tmps) = true := by simp [Region.wanted, hgd]
  rw [if_pos hw]
  subst hn
  obtain ⟨g', o', cap', w', hrun, h1, h2, h3, h4⟩ := append_num w op.type hN ad c hc hle
  unfold Oper.wp
  simp [execOp, ho, resolve, invoke, builtin, hs, hx, hrun, Result.andThen]
  exact hK g' o' cap' w' h1 h2 h3 h4
end Go.Proofs.YtnpgjlhnlakgpaaDoor

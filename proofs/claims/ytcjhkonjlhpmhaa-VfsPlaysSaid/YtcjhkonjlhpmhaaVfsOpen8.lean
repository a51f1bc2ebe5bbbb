/- Opening a slice of calls, with the reach of the lists in it. -/
import Derived.Test.YtcjhkonjlhpmhaaVfsOpenOps
import Derived.Test.YtcjhkonjlhpmhaaVfsPlays
import Derived.SizedLaws
namespace Go.Proofs.Ytcjhkonjlhpmhaa
open Go.ChangeShapes Go.WideShapes Go.ChangeAt Go.RowKit Go.Joins Go.Deep
open Go.ChangeMaps (open_string shut_string)

theorem weights_mem_all {H : Type} {P : Program} {e : TypeId} : ∀ {ds : List (DataW H)} {d : DataW H} {z : Nat}, d ∈ ds → z ∈ d.weights P e → z ∈ DataW.weightsAll P e ds
  | [], _, _, h, _ => by cases h
  | a :: r, d, z, h, hz => by
    simp only [DataW.weightsAll, List.mem_append]
    rcases List.mem_cons.1 h with rfl | h
    · exact .inl hz
    · exact .inr (weights_mem_all h hz)
theorem open_numbers8 {H : Type} {enc : TypeId × Value → H} {W : World} {n : Nat} {v : Value} {y : DataW H × List MemPlace} (h : DataW.trod enc Try.prog W 0 (fun _ => true) true n 22 [v] = some y) :
    ∃ xs : List Int, (∀ b m, W.heap.size ≤ b → W.heap.size ≤ m → IntsAt b m W v xs) ∧ (∀ x ∈ xs, x ≤ 9223372036854775807) ∧ ((∀ z ∈ y.1.weights Try.prog 22, z ≤ reachBytes) → xs.length * 8 ≤ 140737488351232) := by
  rcases open_ints Try.underlying22 Try.underlying3 (by kernel_rfl) h with ⟨hcs, hy⟩ | ⟨a, len, cap, zs, hcs, _, hl, hm, hz, hy, hc, hw⟩
  · simp only [List.cons.injEq, and_true] at hcs
    subst hcs
    exact ⟨[], fun _ _ _ _ => ⟨none, 0, rfl, by simp, .inl rfl⟩, by simp, fun _ => by simp⟩
  · simp only [List.cons.injEq, and_true] at hcs
    subst hcs
    simp only [if_true] at hz
    unfold maxLen at hm
    have hlen : (zs.take len).length = len := by rw [List.length_take]; omega
    refine ⟨zs.take len, fun b m hb hm' => ⟨some a, cap, by rw [hlen], by omega, ?_⟩, fun x hx => (bounds_i64 (hw x (List.mem_of_mem_take hx))).2, fun hall => ?_⟩
    rotate_left
    · subst hy
      have hb8 : Try.prog.bytesOf 3 = 8 := by kernel_rfl
      have h9 := hall ((zs.take len).length * 8 + (zs.drop len).length * 8) (by
        simp only [DataW.weights, Try.underlying22, hb8]
        simp [lits]
        left; omega)
      simp only [reachBytes] at h9
      omega
    by_cases h0 : len = 0
    · subst h0; exact .inl (by simp)
    · right
      have hc0 := hc 0 (by omega)
      have hspot := World.cell?_spot hc0
      obtain ⟨g, o, sp⟩ := a
      have hsp : sp = none := by simpa [Addr.add] using hspot
      subst hsp
      have hadd : ∀ j, (⟨g, o, none⟩ : Addr).add j = ⟨g, o + j, none⟩ := fun j => by unfold Addr.add; split <;> simp_all
      have hg := World.block_lt_of_cell? W _ hc0
      rw [hadd] at hg
      have hg' : g < W.heap.size := hg
      refine ⟨g, o, rfl, by omega, by omega, fun j hj => ?_⟩
      rw [hlen] at hj
      have := hc j (by omega)
      rw [hadd] at this
      rw [this]
      simp [List.getD_eq_getElem?_getD, List.getElem?_take_of_lt hj]
set_option maxRecDepth 100000 in
theorem open_op8 {H : Type} {enc : TypeId × Value → H} {W : World} {n : Nat} {cs : List Value} {y : DataW H × List MemPlace} (h : DataW.trod enc Try.prog W 0 (fun _ => true) true n 49 cs = some y) :
    ∃ x : OpE, cs = x.cells ∧ x.Ok ∧ OpInts W x ∧ ((∀ z ∈ y.1.weights Try.prog 49, z ≤ reachBytes) → OpsBig x) := by
  obtain ⟨ys, m, _, hyx, hl, hyl, hf⟩ := DataW.trod_struct Try.underlying49 h
  have hl7 : cs.length = 7 := hl.trans (by kernel_rfl)
  match cs, hl7 with
  | [c0, c1, c2, c3, c4, c5, c6], _ =>
    match ys, hyl with
    | [y0, y1, y2, y3, y4, y5], _ =>
      have w1 : Try.prog.cellsOf 3 = 1 := by kernel_rfl
      have w2 : Try.prog.cellsOf 9 = 1 := by kernel_rfl
      have w3 : Try.prog.cellsOf 24 = 2 := by kernel_rfl
      have h0 : DataW.trod enc Try.prog W 0 (fun _ => true) true m 3 (([c0, c1, c2, c3, c4, c5, c6].drop 0).take (Try.prog.cellsOf 3)) = some y0 := hf 0 _ rfl
      have h1 : DataW.trod enc Try.prog W 0 (fun _ => true) true m 3 (([c0, c1, c2, c3, c4, c5, c6].drop 1).take (Try.prog.cellsOf 3)) = some y1 := hf 1 _ rfl
      have h2 : DataW.trod enc Try.prog W 0 (fun _ => true) true m 3 (([c0, c1, c2, c3, c4, c5, c6].drop 2).take (Try.prog.cellsOf 3)) = some y2 := hf 2 _ rfl
      have h3 : DataW.trod enc Try.prog W 0 (fun _ => true) true m 9 (([c0, c1, c2, c3, c4, c5, c6].drop 3).take (Try.prog.cellsOf 9)) = some y3 := hf 3 _ rfl
      have h4 : DataW.trod enc Try.prog W 0 (fun _ => true) true m 9 (([c0, c1, c2, c3, c4, c5, c6].drop 4).take (Try.prog.cellsOf 9)) = some y4 := hf 4 _ rfl
      have h5 : DataW.trod enc Try.prog W 0 (fun _ => true) true m 24 (([c0, c1, c2, c3, c4, c5, c6].drop 5).take (Try.prog.cellsOf 24)) = some y5 := hf 5 _ rfl
      rw [w1] at h0
      rw [w1] at h1
      rw [w1] at h2
      rw [w2] at h3
      rw [w2] at h4
      rw [w3] at h5
      obtain ⟨n0, e0, -, k0⟩ := DataW.trod_int Try.underlying3 h0
      obtain ⟨n1, e1, -, k1⟩ := DataW.trod_int Try.underlying3 h1
      obtain ⟨n2, e2, -, k2⟩ := DataW.trod_int Try.underlying3 h2
      obtain ⟨s3, e3, -, k3⟩ := DataW.trod_string Try.underlying9 h3
      obtain ⟨s4, e4, -, k4⟩ := DataW.trod_string Try.underlying9 h4
      obtain ⟨zs, m', -, hzx, _, hzl, hzf⟩ := DataW.trod_struct Try.underlying24 h5
      match zs, hzl with
      | [z0, z1], _ =>
        have v1 : Try.prog.cellsOf 22 = 1 := by kernel_rfl
        have g0 : DataW.trod enc Try.prog W 0 (fun _ => true) true m' 22 ((((([c0, c1, c2, c3, c4, c5, c6].drop 5).take 2)).drop 0).take (Try.prog.cellsOf 22)) = some z0 := hzf 0 _ rfl
        have g1 : DataW.trod enc Try.prog W 0 (fun _ => true) true m' 22 ((((([c0, c1, c2, c3, c4, c5, c6].drop 5).take 2)).drop 1).take (Try.prog.cellsOf 22)) = some z1 := hzf 1 _ rfl
        rw [v1] at g0 g1
        obtain ⟨xs, i1, b1, w8⟩ := open_numbers8 (v := c5) g0
        obtain ⟨xt, i2, b2, w9⟩ := open_numbers8 (v := c6) g1
        have q0 : c0 = .int .i64 n0 := by simpa using e0
        have q1 : c1 = .int .i64 n1 := by simpa using e1
        have q2 : c2 = .int .i64 n2 := by simpa using e2
        have q3 : c3 = .string s3 := by simpa using e3
        have q4 : c4 = .string s4 := by simpa using e4
        subst q0 q1 q2 q3 q4
        refine ⟨⟨⟨n0, n1, n2, s3, s4, xs, xt⟩, c5, c6⟩, rfl, ⟨k3, k4, (bounds_i64 k2).2, (bounds_i64 k1).1, (bounds_i64 k1).2, b1, b2, (i1 _ _ (Nat.le_refl _) (Nat.le_refl _)).slice, (i2 _ _ (Nat.le_refl _) (Nat.le_refl _)).slice⟩, fun b m hb hm => ⟨i1 b m hb hm, i2 b m hb hm⟩, fun hall => ?_⟩
        subst hyx
        have hw5 : ∀ z ∈ y5.1.weights Try.prog 24, z ≤ reachBytes := fun z hz => hall z (by
          simp only [DataW.weights, Try.underlying49]
          exact DataW.weights_mem_each (j := 5) (t := 24) (d := y5.1) rfl rfl z hz)
        subst hzx
        have hw6 : ∀ z ∈ z0.1.weights Try.prog 22, z ≤ reachBytes := fun z hz => hw5 z (by
          simp only [DataW.weights, Try.underlying24]
          exact DataW.weights_mem_each (j := 0) (t := 22) (d := z0.1) rfl rfl z hz)
        have hw7 : ∀ z ∈ z1.1.weights Try.prog 22, z ≤ reachBytes := fun z hz => hw5 z (by
          simp only [DataW.weights, Try.underlying24]
          exact DataW.weights_mem_each (j := 1) (t := 22) (d := z1.1) rfl rfl z hz)
        exact ⟨w8 hw6, w9 hw7⟩
set_option maxRecDepth 100000 in
theorem open_ops8 {H : Type} {enc : TypeId × Value → H} {W : World} {b0 : Nat} {v : Value} {d : DataW H} {p : List MemPlace}
    (hv : Value.okWide Try.prog W .any b0 38 v) (h : DataW.Trod enc Try.prog W 0 (fun _ => true) true 38 v d p) :
    ∃ es : List OpE, OpsAt W.heap.size W v es ∧ (∀ x ∈ es, OpInts W x) ∧ ((∀ z ∈ d.weights Try.prog 38, z ≤ reachBytes) → ∀ x ∈ es, OpsBig x) := by
  obtain ⟨q, ln, cp, rfl⟩ := okWide_slice Try.underlying38 hv
  obtain ⟨fuel, hf⟩ := h
  rcases open_slice Try.underlying38 hf with ⟨hcs, _⟩ | ⟨a, len, cap, m, n, D, Pl, hcs, _, hl, hm, hmm, hdx, hi⟩
  · simp [Value.cells] at hcs
    obtain ⟨rfl, rfl, rfl⟩ := hcs
    exact ⟨[], ⟨none, 0, rfl, Nat.le_refl _, by omega, .inl rfl, by simp⟩, by simp, fun _ => by simp⟩
  · simp [Value.cells] at hcs
    obtain ⟨rfl, rfl, rfl⟩ := hcs
    simp only [if_true] at hmm
    unfold maxLen at hm
    have hC : Try.prog.cellsOf 49 = 7 := by kernel_rfl
    rw [hC] at hi
    have each : ∀ i, i < ln → ∃ x : OpE, W.cells? 0 (a.add (i * 7)) 7 = some x.cells ∧ x.Ok ∧ OpInts W x ∧ ((∀ z ∈ (D i).weights Try.prog 49, z ≤ reachBytes) → OpsBig x) := fun i hil => by
      obtain ⟨cs, h1, h2⟩ := hi i (by omega)
      obtain ⟨x, hx, h3, h4, h5⟩ := open_op8 h2
      exact ⟨x, by rw [h1, hx], h3, h4, h5⟩
    haveI : Inhabited OpE := ⟨⟨⟨0, 0, 0, ByteArray.empty, ByteArray.empty, [], []⟩, .bool false, .bool false⟩⟩
    obtain ⟨F, hF⟩ := choose_lt each
    refine ⟨(List.range ln).map F, ⟨some a, cp, by simp, by simpa using hl, by omega, ?_, ?_⟩, ?_, ?_⟩
    · by_cases h0 : ln = 0
      · subst h0; exact .inl (by simp)
      · right
        obtain ⟨hx0, _⟩ := hF 0 (by omega)
        obtain ⟨_, _, hat⟩ := World.cells?_some hx0
        have hc0 := hat 0 (by omega)
        have e0 : (a.add (0 * 7)).add 0 = a := by simp [Addr.add]
        rw [e0] at hc0
        have hspot := World.cell?_spot (hc0.trans (by rfl : (F 0).cells[0]? = some (.int .i64 (F 0).o.kind)))
        obtain ⟨g, o, sp⟩ := a
        have hsp : sp = none := hspot
        subst hsp
        have hadd : ∀ j, (⟨g, o, none⟩ : Addr).add j = ⟨g, o + j, none⟩ := fun j => by unfold Addr.add; split <;> simp_all
        have hg := World.block_lt_of_cell? W _ (hc0.trans (by rfl : (F 0).cells[0]? = some (.int .i64 (F 0).o.kind)))
        refine ⟨g, o, rfl, hg, fun i x hx j u hu => ?_⟩
        have hil : i < ln := by
          have := (List.getElem?_eq_some_iff.1 hx).1
          simpa using this
        have hxe : x = F i := by
          rw [List.getElem?_map, List.getElem?_range hil] at hx
          simpa using hx.symm
        subst hxe
        obtain ⟨hxi, _⟩ := hF i hil
        obtain ⟨_, _, hat⟩ := World.cells?_some hxi
        have hj : j < 7 := (List.getElem?_eq_some_iff.1 hu).1
        have := hat j hj
        rw [Go.Deep.add_add, hadd] at this
        rw [this]; exact hu
    · intro x hx
      obtain ⟨i, hi2, rfl⟩ := List.mem_map.1 hx
      exact (hF i (by simpa using hi2)).2.1
    · intro x hx
      obtain ⟨i, hi2, rfl⟩ := List.mem_map.1 hx
      exact (hF i (by simpa using hi2)).2.2.1
    · intro hall x hx
      obtain ⟨i, hi2, rfl⟩ := List.mem_map.1 hx
      have hil : i < ln := by simpa using hi2
      refine (hF i hil).2.2.2 fun z hz => hall z ?_
      have hd := congrArg Prod.fst hdx
      simp only at hd
      rw [hd]
      simp only [DataW.weights, Try.underlying38]
      exact List.mem_cons_of_mem _ (List.mem_append_left _ (weights_mem_all (List.mem_map.2 ⟨i, hi2, rfl⟩) hz))
end Go.Proofs.Ytcjhkonjlhpmhaa

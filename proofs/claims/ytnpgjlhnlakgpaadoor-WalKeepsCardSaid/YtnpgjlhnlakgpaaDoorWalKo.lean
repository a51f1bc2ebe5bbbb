/- Opening the crashes that WalKeeps is given. -/
import Derived.Test.YtnpgjlhnlakgpaaDoorWalOo
import Derived.Test.YtnpgjlhnlakgpaaDoorG15
namespace Go.Proofs.YtnpgjlhnlakgpaaDoor
open Go.ChangeShapes Go.WideShapes Go.ChangeAt Go.RowKit Go.Joins Go.Deep
open Go.ChangeMaps (open_string shut_string)

theorem open_fnums {H : Type} {enc : TypeId × Value → H} {W : World} {n : Nat} {v : Value} {y : DataW H × List MemPlace} (h : DataW.trod enc Tryd.prog W 0 (fun _ => true) true n 36 [v] = some y) :
    ∃ xs : List Int, (∀ b m, W.heap.size ≤ b → W.heap.size ≤ m → IntsAt b m W v xs) ∧ (∀ x ∈ xs, x ≤ 9223372036854775807) := by
  rcases open_ints Tryd.underlying36 Tryd.underlying3 (by kernel_rfl) h with ⟨hcs, _⟩ | ⟨a, len, cap, zs, hcs, _, hl, hm, hz, _, hc, hw⟩
  · simp only [List.cons.injEq, and_true] at hcs
    subst hcs
    exact ⟨[], fun _ _ _ _ => ⟨none, 0, rfl, by simp, .inl rfl⟩, by simp⟩
  · simp only [List.cons.injEq, and_true] at hcs
    subst hcs
    simp only [if_true] at hz
    unfold maxLen at hm
    have hlen : (zs.take len).length = len := by rw [List.length_take]; omega
    refine ⟨zs.take len, fun b m hb hm' => ⟨some a, cap, by rw [hlen], by omega, ?_⟩, fun x hx => (bounds_i64 (hw x (List.mem_of_mem_take hx))).2⟩
    by_cases h0 : len = 0
    · subst h0; exact .inl (by simp)
    · right
      have hc0 := hc 0 (by omega)
      have hspot := World.cell?_spot hc0
      obtain ⟨g, o, sp⟩ := a
      have hsp : sp = none := by simpa [Addr.add] using hspot
      subst hsp
      have hadd : ∀ j, (⟨g, o, none⟩ : Addr).add j = ⟨g, o + j, none⟩ := fun j => by unfold Addr.add; split <;> simp_all
      have hg := World.block_lt_of_cell? W _ hc0
      rw [hadd] at hg
      have hg' : g < W.heap.size := hg
      refine ⟨g, o, rfl, by omega, by omega, fun j hj => ?_⟩
      rw [hlen] at hj
      have := hc j (by omega)
      rw [hadd] at this
      rw [this]
      simp [List.getD_eq_getElem?_getD, List.getElem?_take_of_lt hj]
set_option maxRecDepth 100000 in
theorem open_wopsv {H : Type} {enc : TypeId × Value → H} {W : World} {n : Nat} {v : Value} {y : DataW H × List MemPlace}
    (hf : DataW.trod enc Tryd.prog W 0 (fun _ => true) true n 52 [v] = some y) :
    ∃ (es : List WOp) (p : Option Addr) (l c : Nat), v = .slice p l c ∧ OpW W v es := by
  rcases open_slice Tryd.underlying52 hf with ⟨hcs, _⟩ | ⟨a, ln, cp, m, n, D, Pl, hcs, _, hl, hm, hmm, hdx, hi⟩
  · simp only [List.cons.injEq, and_true] at hcs
    subst hcs
    exact ⟨[], _, _, _, rfl, none, 0, rfl, Nat.le_refl _, .inl rfl⟩
  · simp only [List.cons.injEq, and_true] at hcs
    subst hcs
    simp only [if_true] at hmm
    unfold maxLen at hm
    have hC : Tryd.prog.cellsOf 63 = 6 := by kernel_rfl
    rw [hC] at hi
    have each : ∀ i, i < ln → ∃ x : WOp, W.cells? 0 (a.add (i * 6)) 6 = some x.cells := fun i hil => by
      obtain ⟨cs, h1, h2⟩ := hi i (by omega)
      obtain ⟨x, hx⟩ := open_wop h2
      exact ⟨x, by rw [h1, hx]⟩
    haveI : Inhabited WOp := ⟨⟨0, 0, ByteArray.empty, ByteArray.empty, none, 0, 0, none, 0, 0⟩⟩
    obtain ⟨F, hF⟩ := choose_lt each
    refine ⟨(List.range ln).map F, _, _, _, rfl, some a, cp, by simp, by simpa using hl, ?_⟩
    by_cases h0 : ln = 0
    · subst h0; exact .inl (by simp)
    · right
      have hx0 := hF 0 (by omega)
      obtain ⟨_, _, hat⟩ := World.cells?_some hx0
      have hc0 := hat 0 (by omega)
      have e0 : (a.add (0 * 6)).add 0 = a := by simp [Addr.add]
      rw [e0] at hc0
      have hspot := World.cell?_spot (hc0.trans (by rfl : (F 0).cells[0]? = some (.int .i64 (F 0).kind)))
      obtain ⟨g, o, sp⟩ := a
      have hsp : sp = none := hspot
      subst hsp
      have hadd : ∀ j, (⟨g, o, none⟩ : Addr).add j = ⟨g, o + j, none⟩ := fun j => by unfold Addr.add; split <;> simp_all
      refine ⟨g, o, rfl, fun i x hx j u hu => ?_⟩
      have hil : i < ln := by
        have := (List.getElem?_eq_some_iff.1 hx).1
        simpa using this
      have hxe : x = F i := by
        rw [List.getElem?_map, List.getElem?_range hil] at hx
        simpa using hx.symm
      subst hxe
      have hxi := hF i hil
      obtain ⟨_, _, hat⟩ := World.cells?_some hxi
      have hj : j < 6 := (List.getElem?_eq_some_iff.1 hu).1
      have := hat j hj
      rw [Go.Deep.add_add, hadd] at this
      rw [Nat.add_assoc, this]; exact hu
set_option maxRecDepth 100000 in
theorem open_fall {H : Type} {enc : TypeId × Value → H} {W : World} {n : Nat} {cs : List Value} {y : DataW H × List MemPlace} (h : DataW.trod enc Tryd.prog W 0 (fun _ => true) true n 79 cs = some y) :
    ∃ x : WFall, cs = x.cells ∧ x.Good W := by
  obtain ⟨ys, m, _, hyx, hl, hyl, hf⟩ := DataW.trod_struct Tryd.underlying79 h
  have hl5 : cs.length = 5 := hl.trans (by kernel_rfl)
  match cs, hl5 with
  | [c0, c1, c2, c3, c4], _ =>
    match ys, hyl with
    | [y0, y1, y2, y3], _ =>
      have w1 : Tryd.prog.cellsOf 3 = 1 := by kernel_rfl
      have w2 : Tryd.prog.cellsOf 61 = 2 := by kernel_rfl
      have w3 : Tryd.prog.cellsOf 36 = 1 := by kernel_rfl
      have w4 : Tryd.prog.cellsOf 52 = 1 := by kernel_rfl
      have h0 : DataW.trod enc Tryd.prog W 0 (fun _ => true) true m 3 (([c0, c1, c2, c3, c4].drop 0).take (Tryd.prog.cellsOf 3)) = some y0 := hf 0 _ rfl
      have h1 : DataW.trod enc Tryd.prog W 0 (fun _ => true) true m 61 (([c0, c1, c2, c3, c4].drop 1).take (Tryd.prog.cellsOf 61)) = some y1 := hf 1 _ rfl
      have h2 : DataW.trod enc Tryd.prog W 0 (fun _ => true) true m 36 (([c0, c1, c2, c3, c4].drop 3).take (Tryd.prog.cellsOf 36)) = some y2 := hf 2 _ rfl
      have h3 : DataW.trod enc Tryd.prog W 0 (fun _ => true) true m 52 (([c0, c1, c2, c3, c4].drop 4).take (Tryd.prog.cellsOf 52)) = some y3 := hf 3 _ rfl
      rw [w1] at h0
      rw [w2] at h1
      rw [w3] at h2
      rw [w4] at h3
      obtain ⟨n0, e0, -, b0⟩ := DataW.trod_int Tryd.underlying3 h0
      obtain ⟨zs, m', -, hzx, _, hzl, hzf⟩ := DataW.trod_struct Tryd.underlying61 h1
      match zs, hzl with
      | [z0, z1], _ =>
        have g0 : DataW.trod enc Tryd.prog W 0 (fun _ => true) true m' 36 ((((([c0, c1, c2, c3, c4].drop 1).take 2)).drop 0).take (Tryd.prog.cellsOf 36)) = some z0 := hzf 0 _ rfl
        have g1 : DataW.trod enc Tryd.prog W 0 (fun _ => true) true m' 36 ((((([c0, c1, c2, c3, c4].drop 1).take 2)).drop 1).take (Tryd.prog.cellsOf 36)) = some z1 := hzf 1 _ rfl
        rw [w3] at g0 g1
        obtain ⟨kp, kn, kc, q1⟩ := open_slicev (v := c1) g0
        obtain ⟨tp, tn, tc, q2⟩ := open_slicev (v := c2) g1
        obtain ⟨ap, an, ac, q3⟩ := open_slicev (v := c3) h2
        obtain ⟨ks, ks1, ks2⟩ := open_fnums (v := c1) g0
        obtain ⟨ts, ts1, ts2⟩ := open_fnums (v := c2) g1
        obtain ⟨gs, gs1, gs2⟩ := open_fnums (v := c3) h2
        obtain ⟨es, sp, sn, sc, q4, es1⟩ := open_wopsv (v := c4) h3
        have q0 : c0 = .int .i64 n0 := by simpa using e0
        subst q0 q1 q2 q3 q4
        exact ⟨⟨n0, kp, kn, kc, tp, tn, tc, ap, an, ac, sp, sn, sc, ks, ts, gs, es⟩, rfl, ⟨(bounds_i64 b0).2, ks1, ts1, gs1, ks2, ts2, gs2, es1⟩⟩
set_option maxRecDepth 100000 in
theorem open_falls {H : Type} {enc : TypeId × Value → H} {W : World} {b0 : Nat} {v : Value} {d : DataW H} {p : List MemPlace}
    (hv : Value.okWide Tryd.prog W .any b0 77 v) (h : DataW.Trod enc Tryd.prog W 0 (fun _ => true) true 77 v d p) :
    ∃ fs : List WFall, FallW W v fs := by
  obtain ⟨q, ln, cp, rfl⟩ := okWide_slice Tryd.underlying77 hv
  obtain ⟨fuel, hf⟩ := h
  rcases open_slice Tryd.underlying77 hf with ⟨hcs, _⟩ | ⟨a, len, cap, m, n, D, Pl, hcs, _, hl, hm, hmm, hdx, hi⟩
  · simp [Value.cells] at hcs
    obtain ⟨rfl, rfl, rfl⟩ := hcs
    exact ⟨[], none, 0, rfl, by simp, .inl rfl⟩
  · simp [Value.cells] at hcs
    obtain ⟨rfl, rfl, rfl⟩ := hcs
    simp only [if_true] at hmm
    have hC : Tryd.prog.cellsOf 79 = 5 := by kernel_rfl
    rw [hC] at hi
    have each : ∀ i, i < ln → ∃ x : WFall, W.cells? 0 (a.add (i * 5)) 5 = some x.cells ∧ x.Good W := fun i hil => by
      obtain ⟨cs, h1, h2⟩ := hi i (by omega)
      obtain ⟨x, hx, hg⟩ := open_fall h2
      exact ⟨x, by rw [h1, hx], hg⟩
    haveI : Inhabited WFall := ⟨⟨0, none, 0, 0, none, 0, 0, none, 0, 0, none, 0, 0, [], [], [], []⟩⟩
    obtain ⟨F, hF⟩ := choose_lt each
    refine ⟨(List.range ln).map F, some a, cp, by simp, fun x hx => ?_, ?_⟩
    · obtain ⟨i, hi1, rfl⟩ := List.mem_map.1 hx
      exact (hF i (List.mem_range.1 hi1)).2
    by_cases h0 : ln = 0
    · subst h0; exact .inl (by simp)
    · right
      have hx0 := (hF 0 (by omega)).1
      obtain ⟨_, _, hat⟩ := World.cells?_some hx0
      have hc0 := hat 0 (by omega)
      have e0 : (a.add (0 * 5)).add 0 = a := by simp [Addr.add]
      rw [e0] at hc0
      have hspot := World.cell?_spot (hc0.trans (by rfl : (F 0).cells[0]? = some (.int .i64 (F 0).st)))
      obtain ⟨g, o, sp⟩ := a
      have hsp : sp = none := hspot
      subst hsp
      have hadd : ∀ j, (⟨g, o, none⟩ : Addr).add j = ⟨g, o + j, none⟩ := fun j => by unfold Addr.add; split <;> simp_all
      refine ⟨g, o, rfl, fun i x hx j u hu => ?_⟩
      have hil : i < ln := by
        have := (List.getElem?_eq_some_iff.1 hx).1
        simpa using this
      have hxe : x = F i := by
        rw [List.getElem?_map, List.getElem?_range hil] at hx
        simpa using hx.symm
      subst hxe
      have hxi := (hF i hil).1
      obtain ⟨_, _, hat⟩ := World.cells?_some hxi
      have hj : j < 5 := (List.getElem?_eq_some_iff.1 hu).1
      have := hat j hj
      rw [Go.Deep.add_add, hadd] at this
      rw [Nat.add_assoc, this]; exact hu
end Go.Proofs.YtnpgjlhnlakgpaaDoor

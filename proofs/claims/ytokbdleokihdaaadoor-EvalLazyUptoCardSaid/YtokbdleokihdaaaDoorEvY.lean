/- Opening an expression, and the rows of scopes. -/
import Derived.Test.YtokbdleokihdaaaDoorG18
import Derived.Test.YtokbdleokihdaaaDoorOpenDS
import Derived.Test.YtokbdleokihdaaaDoorRows
namespace Go.Proofs.YtokbdleokihdaaaDoor
open Go.ChangeShapes Go.WideShapes Go.ChangeAt Go.RowKit Go.Joins Go.Deep
open Go.ChangeMaps (open_string shut_string)

theorem add_none (g o j : Nat) : (⟨g, o, none⟩ : Addr).add j = ⟨g, o + j, none⟩ := by unfold Addr.add; split <;> simp_all
theorem bulk_one {H : Type} (d : DataW H) : 1 ≤ Rows.uptoBulk d := by
  cases d with
  | lit l => cases l <;> simp [Rows.uptoBulk]
  | _ => simp [Rows.uptoBulk]
theorem bulk_mem {H : Type} {d : DataW H} {l : List (DataW H)} (h : d ∈ l) : Rows.uptoBulk d ≤ Rows.uptoBulkAll l := by
  induction l with
  | nil => cases h
  | cons x r ih =>
    simp only [Rows.uptoBulkAll]
    cases List.mem_cons.1 h with
    | inl e => subst e; omega
    | inr e => have := ih e; omega
theorem bulk_length {H : Type} (l : List (DataW H)) : l.length ≤ Rows.uptoBulkAll l := by
  induction l with
  | nil => simp [Rows.uptoBulkAll]
  | cons x r ih => have := bulk_one x; simp only [Rows.uptoBulkAll, List.length_cons]; omega
theorem bulk_cnt {H : Type} (F : Nat → Ex) (D : Nat → DataW H) : ∀ l : List Nat, (∀ i ∈ l, (F i).cnt ≤ Rows.uptoBulk (D i)) → cntL (l.map F) ≤ Rows.uptoBulkAll (l.map D)
  | [], _ => by simp [cntL]
  | i :: l, h => by
    have h1 := h i (by simp)
    have h2 := bulk_cnt F D l (fun j hj => h j (by simp [hj]))
    simp only [List.map_cons, cntL, Rows.uptoBulkAll]
    omega

set_option maxRecDepth 100000 in
set_option maxHeartbeats 1000000 in
theorem open_ex {H : Type} {enc : TypeId × Value → H} {W : World} : ∀ M : Nat, M ≤ 1048576 → ∀ {n : Nat} {cs : List Value} {y : DataW H × List MemPlace}, DataW.trod enc Tryd.prog W 0 (fun _ => true) true n 27 cs = some y → Rows.uptoBulk y.1 ≤ M →
    ∃ x : Ex, cs = x.cells ∧ ExAt W x ∧ x.cnt ≤ Rows.uptoBulk y.1 := by
  intro M
  induction M with
  | zero => intro _ n cs y _ hb; have := bulk_one y.1; omega
  | succ M ih =>
    intro hM n cs y h hb
    obtain ⟨ys, m, -, rfl, hl, hyl, hf⟩ := DataW.trod_struct Tryd.underlying27 h
    have hl11 : cs.length = 11 := hl.trans (by kernel_rfl)
    match cs, hl11 with
    | [c0, c1, c2, c3, c4, c5, c6, c7, c8, c9, c10], _ =>
      match ys, hyl with
      | [y0, y1, y2, y3, y4, y5, y6, y7, y8], _ =>
        have w1 : Tryd.prog.cellsOf 3 = 1 := by kernel_rfl
        have w2 : Tryd.prog.cellsOf 4 = 1 := by kernel_rfl
        have w3 : Tryd.prog.cellsOf 23 = 3 := by kernel_rfl
        have w4 : Tryd.prog.cellsOf 24 = 1 := by kernel_rfl
        have w5 : Tryd.prog.cellsOf 25 = 1 := by kernel_rfl
        have h0 : DataW.trod enc Tryd.prog W 0 (fun _ => true) true m 3 (([c0, c1, c2, c3, c4, c5, c6, c7, c8, c9, c10].drop 0).take (Tryd.prog.cellsOf 3)) = some y0 := hf 0 _ rfl
        have h1 : DataW.trod enc Tryd.prog W 0 (fun _ => true) true m 3 (([c0, c1, c2, c3, c4, c5, c6, c7, c8, c9, c10].drop 1).take (Tryd.prog.cellsOf 3)) = some y1 := hf 1 _ rfl
        have h2 : DataW.trod enc Tryd.prog W 0 (fun _ => true) true m 4 (([c0, c1, c2, c3, c4, c5, c6, c7, c8, c9, c10].drop 2).take (Tryd.prog.cellsOf 4)) = some y2 := hf 2 _ rfl
        have h3 : DataW.trod enc Tryd.prog W 0 (fun _ => true) true m 23 (([c0, c1, c2, c3, c4, c5, c6, c7, c8, c9, c10].drop 3).take (Tryd.prog.cellsOf 23)) = some y3 := hf 3 _ rfl
        have h4 : DataW.trod enc Tryd.prog W 0 (fun _ => true) true m 3 (([c0, c1, c2, c3, c4, c5, c6, c7, c8, c9, c10].drop 6).take (Tryd.prog.cellsOf 3)) = some y4 := hf 4 _ rfl
        have h5 : DataW.trod enc Tryd.prog W 0 (fun _ => true) true m 3 (([c0, c1, c2, c3, c4, c5, c6, c7, c8, c9, c10].drop 7).take (Tryd.prog.cellsOf 3)) = some y5 := hf 5 _ rfl
        have h6 : DataW.trod enc Tryd.prog W 0 (fun _ => true) true m 3 (([c0, c1, c2, c3, c4, c5, c6, c7, c8, c9, c10].drop 8).take (Tryd.prog.cellsOf 3)) = some y6 := hf 6 _ rfl
        have h7 : DataW.trod enc Tryd.prog W 0 (fun _ => true) true m 24 (([c0, c1, c2, c3, c4, c5, c6, c7, c8, c9, c10].drop 9).take (Tryd.prog.cellsOf 24)) = some y7 := hf 7 _ rfl
        have h8 : DataW.trod enc Tryd.prog W 0 (fun _ => true) true m 25 (([c0, c1, c2, c3, c4, c5, c6, c7, c8, c9, c10].drop 10).take (Tryd.prog.cellsOf 25)) = some y8 := hf 8 _ rfl
        rw [w1] at h0 h1 h4 h5 h6
        rw [w2] at h2
        rw [w3] at h3
        rw [w4] at h7
        rw [w5] at h8
        obtain ⟨n0, e0, -, k0⟩ := DataW.trod_int Tryd.underlying3 h0
        obtain ⟨n1, e1, -, k1⟩ := DataW.trod_int Tryd.underlying3 h1
        obtain ⟨n2, e2, -⟩ := DataW.trod_bool Tryd.underlying4 h2
        obtain ⟨d3, e3, k3⟩ := open_dt1 h3
        obtain ⟨n4, e4, -, k4⟩ := DataW.trod_int Tryd.underlying3 h4
        obtain ⟨n5, e5, -, k5⟩ := DataW.trod_int Tryd.underlying3 h5
        obtain ⟨n6, e6, -, k6⟩ := DataW.trod_int Tryd.underlying3 h6
        have q0 : c0 = .int .i64 n0 := by simpa using e0
        have q1 : c1 = .int .i64 n1 := by simpa using e1
        have q2 : c2 = .bool n2 := by simpa using e2
        have q3 : c3 = .int .i64 d3.k ∧ c4 = .int .i64 d3.i ∧ c5 = .string d3.s := by simpa [Dt.cells] using e3
        have q4 : c6 = .int .i64 n4 := by simpa using e4
        have q5 : c7 = .int .i64 n5 := by simpa using e5
        have q6 : c8 = .int .i64 n6 := by simpa using e6
        obtain ⟨q3, q3', q3''⟩ := q3
        subst q0 q1 q2 q3 q3' q3'' q4 q5 q6
        have hb7 : Rows.uptoBulk y7.1 < Rows.uptoBulk (DataW.agg ([y0, y1, y2, y3, y4, y5, y6, y7, y8].map (·.1))) := by
          have := bulk_mem (d := y7.1) (l := [y0, y1, y2, y3, y4, y5, y6, y7, y8].map (·.1)) (by simp)
          simp only [Rows.uptoBulk]
          omega
        simp only at hb
        have hb8 : Rows.uptoBulk y7.1 ≤ M := by omega
        have h9 : ∃ ps ns cs', c10 = .slice ps ns cs' := by
          rcases open_slice Tryd.underlying25 h8 with ⟨hcs, _⟩ | ⟨a, len, cap, m', n', D, Pl, hcs, _⟩
          · exact ⟨_, _, _, by simpa using hcs⟩
          · exact ⟨_, _, _, by simpa using hcs⟩
        obtain ⟨ps, ns, cs', rfl⟩ := h9
        rcases open_slice Tryd.underlying24 h7 with ⟨hcs, _⟩ | ⟨a, ln, cap, m', n', D, Pl, hcs, _, hlc, hmx, hmm, hy7, hi⟩
        · have q7 : c9 = .slice none 0 0 := by simpa using hcs
          subst q7
          refine ⟨.node n0 n1 n2 d3 n4 n5 n6 (.slice none 0 0) (.slice ps ns cs') [], rfl, .mk (kids := []) none 0 ps ns cs' (Nat.le_refl _) (by decide) (.inl rfl) k3 (by simp), ?_⟩
          unfold Ex.cnt
          have := bulk_one (DataW.agg ([y0, y1, y2, y3, y4, y5, y6, y7, y8].map (·.1)))
          dsimp only
          split
          · simp [cntL]
          · split <;> omega
        · have q7 : c9 = .slice (some a) ln cap := by simpa using hcs
          subst q7
          simp only [if_true] at hmm
          have hmm2 := hmm.symm
          subst hmm2
          have hb9 := congrArg (fun y => Rows.uptoBulk y.1) hy7
          simp only [Rows.uptoBulk] at hb9
          rw [hy7] at hb8
          simp only [Rows.uptoBulk] at hb8
          have hsl : cap ≤ 1048576 := by
            have a1 := bulk_length ((List.range ln).map D)
            have a2 := bulk_length ((List.range (cap - ln)).map fun j => D (ln + j))
            simp at a1 a2
            simp only [Rows.uptoBulk] at hb
            omega
          have hC : Tryd.prog.cellsOf 27 = 11 := by kernel_rfl
          rw [hC] at hi
          have each : ∀ i, i < ln → ∃ x : Ex, W.cells? 0 (a.add (i * 11)) 11 = some x.cells ∧ ExAt W x ∧ x.cnt ≤ Rows.uptoBulk (D i) := fun i hil => by
            obtain ⟨cs2, g1, g2⟩ := hi i (by omega)
            have hmem := bulk_mem (d := D i) (l := (List.range ln).map D) (List.mem_map.2 ⟨i, by simpa using hil, rfl⟩)
            obtain ⟨x, hx, hx2, hx3⟩ := ih (by omega) g2 (by simp only [Rows.uptoBulk] at hb ⊢; omega)
            exact ⟨x, by rw [g1, hx], hx2, hx3⟩
          haveI : Inhabited Ex := ⟨.node 0 0 false Dt.zero 0 0 0 (.bool false) (.bool false) []⟩
          obtain ⟨F, hF⟩ := choose_lt each
          obtain ⟨kids, hkids⟩ : ∃ kids, kids = (List.range ln).map F := ⟨_, rfl⟩
          have hlen : kids.length = ln := by rw [hkids]; simp
          have hcnt : cntL kids ≤ Rows.uptoBulkAll ((List.range ln).map D) := by
            rw [hkids]
            exact bulk_cnt F D _ (fun i hi => (hF i (by simpa using hi)).2.2)
          have hget : ∀ i x, kids[i]? = some x → i < ln ∧ x = F i := fun i x hx => by
            have hil : i < ln := by have := (List.getElem?_eq_some_iff.1 hx).1; omega
            rw [hkids, List.getElem?_map, List.getElem?_range hil] at hx
            exact ⟨hil, by simpa using hx.symm⟩
          have hat : ∀ x ∈ kids, ExAt W x := fun x hx => by
            rw [hkids] at hx
            obtain ⟨i, hi2, rfl⟩ := List.mem_map.1 hx
            exact (hF i (by simpa using hi2)).2.1
          subst hlen
          refine ⟨.node n0 n1 n2 d3 n4 n5 n6 (.slice (some a) kids.length cap) (.slice ps ns cs') kids, rfl, .mk (kids := kids) (some a) cap ps ns cs' hlc hsl ?_ k3 hat, ?_⟩
          · by_cases h0 : kids = []
            · exact .inl h0
            · right
              have hpos : 0 < kids.length := List.length_pos_iff.2 h0
              obtain ⟨hx0, _⟩ := hF 0 hpos
              obtain ⟨_, _, hat0⟩ := World.cells?_some hx0
              have hc0 := hat0 0 (by omega)
              have e0 : (a.add (0 * 11)).add 0 = a := by simp [Addr.add]
              rw [e0] at hc0
              have hF0 : (F 0).cells[0]? = some (.int .i64 (F 0).k) := by cases F 0; rfl
              have hspot := World.cell?_spot (hc0.trans hF0)
              have hg := World.block_lt_of_cell? W _ (hc0.trans hF0)
              obtain ⟨g, o, sp⟩ := a
              have hsp : sp = none := hspot
              subst hsp
              have hadd : ∀ j, (⟨g, o, none⟩ : Addr).add j = ⟨g, o + j, none⟩ := fun j => add_none g o j
              refine ⟨g, o, rfl, hg, fun i x hx j u hu => ?_⟩
              obtain ⟨hil, rfl⟩ := hget i x hx
              obtain ⟨hxi, _⟩ := hF i hil
              obtain ⟨_, _, hat1⟩ := World.cells?_some hxi
              have hj : j < 11 := by
                have := (List.getElem?_eq_some_iff.1 hu).1
                have hc11 : (F i).cells.length = 11 := by cases F i; rfl
                omega
              have := hat1 j hj
              rw [Go.Deep.add_add, hadd] at this
              rw [show o + i * 11 + j = o + (i * 11 + j) by omega, this]; exact hu
          · unfold Ex.cnt
            have := bulk_one (DataW.agg ([y0, y1, y2, y3, y4, y5, y6, y7, y8].map (·.1)))
            dsimp only
            split
            · omega
            · split <;> omega

set_option maxRecDepth 100000 in
theorem open_datrow {H : Type} {enc : TypeId × Value → H} {W : World} {t : TypeId} (ht : Tryd.prog.underlying t = some (.slice 23)) {n : Nat} {v : Value} {y : DataW H × List MemPlace}
    (hf : DataW.trod enc Tryd.prog W 0 (fun _ => true) true n t [v] = some y) : ∃ ds : List Dt, DatS W v ds := by
  rcases open_slice ht hf with ⟨hcs, _⟩ | ⟨a, len, cap, m, n, D, Pl, hcs, _, hl, hm, hmm, _, hi⟩
  · simp at hcs
    subst hcs
    exact ⟨[], none, 0, rfl, Nat.le_refl _, by omega, .inl rfl, by simp⟩
  · simp at hcs
    subst hcs
    simp only [if_true] at hmm
    unfold maxLen at hm
    have hC : Tryd.prog.cellsOf 23 = 3 := by kernel_rfl
    rw [hC] at hi
    have each : ∀ i, i < len → ∃ x : Dt, W.cells? 0 (a.add (i * 3)) 3 = some x.cells ∧ (-9223372036854775808 ≤ x.i ∧ x.i ≤ 9223372036854775807) := fun i hil => by
      obtain ⟨cs, h1, h2⟩ := hi i (by omega)
      obtain ⟨x, hx, h3⟩ := open_dt1 h2
      exact ⟨x, by rw [h1, hx], h3⟩
    obtain ⟨F, hF⟩ := choose_dt each
    refine ⟨(List.range len).map F, some a, cap, by simp, by simpa using hl, by omega, ?_, ?_⟩
    · by_cases h0 : len = 0
      · subst h0; exact .inl (by simp)
      · right
        obtain ⟨hx0, _⟩ := hF 0 (by omega)
        obtain ⟨_, _, hat⟩ := World.cells?_some hx0
        have hc0 := hat 0 (by omega)
        have e0 : (a.add (0 * 3)).add 0 = a := by simp [Addr.add]
        rw [e0] at hc0
        have hspot := World.cell?_spot (hc0.trans (by rfl : (F 0).cells[0]? = some (.int .i64 (F 0).k)))
        obtain ⟨g, o, sp⟩ := a
        have hsp : sp = none := hspot
        subst hsp
        have hadd : ∀ j, (⟨g, o, none⟩ : Addr).add j = ⟨g, o + j, none⟩ := fun j => add_none g o j
        have hg := World.block_lt_of_cell? W _ (hc0.trans (by rfl : (F 0).cells[0]? = some (.int .i64 (F 0).k)))
        refine ⟨g, o, rfl, hg, fun i hil => ?_⟩
        have hil : i < len := by simpa using hil
        have hxe : dnth ((List.range len).map F) i = F i := by
          unfold dnth
          rw [List.getD_eq_getElem?_getD, List.getElem?_map, List.getElem?_range hil]
          rfl
        rw [hxe]
        obtain ⟨hxi, _⟩ := hF i hil
        obtain ⟨_, _, hat⟩ := World.cells?_some hxi
        have k0 := hat 0 (by omega)
        have k1 := hat 1 (by omega)
        have k2 := hat 2 (by omega)
        rw [Go.Deep.add_add, hadd] at k0 k1 k2
        exact ⟨k0, k1, k2⟩
    · intro x hx
      obtain ⟨i, hi2, rfl⟩ := List.mem_map.1 hx
      exact (hF i (by simpa using hi2)).2
set_option maxRecDepth 100000 in
/-- The rows of the scopes that came in. -/
theorem open_env {H : Type} {enc : TypeId × Value → H} {W : World} {b0 : Nat} {v : Value} {d : DataW H} {p : List MemPlace}
    (hv : Value.okWide Tryd.prog W .any b0 28 v) (h : DataW.Trod enc Tryd.prog W 0 (fun _ => true) true 28 v d p) : ∃ env : List (List Dt), EnvS W v env ∧ ∀ r ∈ env, ∀ d ∈ r, -9223372036854775808 ≤ d.i ∧ d.i ≤ 9223372036854775807 := by
  obtain ⟨q, ln, cp, rfl⟩ := okWide_slice Tryd.underlying28 hv
  obtain ⟨fuel, hf⟩ := h
  rcases open_slice1 Tryd.underlying28 (by kernel_rfl) hf with ⟨hcs, _⟩ | ⟨a, len, cap, m, n, V, D, Pl, hcs, _, hl, hm, hmm, _, hi⟩
  · simp [Value.cells] at hcs
    obtain ⟨rfl, rfl, rfl⟩ := hcs
    exact ⟨[], ⟨none, 0, rfl, Nat.le_refl _, by omega, .inl rfl⟩, by simp⟩
  · simp [Value.cells] at hcs
    obtain ⟨rfl, rfl, rfl⟩ := hcs
    simp only [if_true] at hmm
    unfold maxLen at hm
    have each : ∀ i, i < ln → ∃ ds : List Dt, W.cell? (a.add i) = some (V i) ∧ DatS W (V i) ds := fun i hil => by
      obtain ⟨h1, h2⟩ := hi i (by omega)
      obtain ⟨ds, hds⟩ := open_datrow Tryd.underlying41 h2
      exact ⟨ds, h1, hds⟩
    obtain ⟨F, hF⟩ := choose_lt each
    refine ⟨(List.range ln).map F, ⟨some a, cp, by simp, by simpa using hl, by omega, ?_⟩, fun r hr d hd => ?_⟩
    · by_cases h0 : ln = 0
      · subst h0; exact .inl (by simp)
      · right
        have hc0 := (hF 0 (by omega)).1
        have e0 : a.add 0 = a := by simp [Addr.add]
        rw [e0] at hc0
        have hspot := World.cell?_spot hc0
        obtain ⟨g, o, sp⟩ := a
        have hsp : sp = none := hspot
        subst hsp
        have hadd : ∀ j, (⟨g, o, none⟩ : Addr).add j = ⟨g, o + j, none⟩ := fun j => add_none g o j
        refine ⟨g, o, rfl, World.block_lt_of_cell? W _ hc0, fun i r hr => ?_⟩
        have hil : i < ln := by have := (List.getElem?_eq_some_iff.1 hr).1; simpa using this
        have hre : r = F i := by
          rw [List.getElem?_map, List.getElem?_range hil] at hr
          simpa using hr.symm
        subst hre
        obtain ⟨k1, k2⟩ := hF i hil
        rw [hadd] at k1
        exact ⟨_, k1, k2⟩
    · obtain ⟨i, hi2, rfl⟩ := List.mem_map.1 hr
      obtain ⟨_, _, _, _, _, _, h4⟩ := (hF i (by simpa using hi2)).2
      exact h4 d hd
set_option maxRecDepth 100000 in
/-- An expression that came in, of a bound bulk. -/
theorem open_expr {H : Type} {enc : TypeId × Value → H} {W : World} {b0 : Nat} {v : Value} {d : DataW H} {p : List MemPlace}
    (hv : Value.okWide Tryd.prog W .any b0 27 v) (h : DataW.Trod enc Tryd.prog W 0 (fun _ => true) true 27 v d p) (hb : Rows.uptoBulk d ≤ 1048576) : ∃ x : Ex, v = x.v ∧ ExAt W x ∧ x.cnt ≤ 1000000000 := by
  obtain ⟨cs, rfl, _⟩ := okWide_struct Tryd.underlying27 hv
  obtain ⟨n, hf⟩ := h
  obtain ⟨x, hcs, hx, hc⟩ := open_ex 1048576 (Nat.le_refl _) hf hb
  refine ⟨x, ?_, hx, Nat.le_trans hc (Nat.le_trans hb (by decide))⟩
  have h2 : cs.toList = x.cells := hcs
  have h3 : cs = x.cells.toArray := by rw [← h2]
  rw [h3]
  cases x; rfl
end Go.Proofs.YtokbdleokihdaaaDoor

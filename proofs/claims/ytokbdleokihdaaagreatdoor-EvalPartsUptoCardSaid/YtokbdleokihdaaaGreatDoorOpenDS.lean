/- Opening a slice of values of the program. -/
import Derived.Test.YtokbdleokihdaaaGreatDoorOpen
import Derived.Test.YtokbdleokihdaaaGreatDoorG02
import Derived.Deep.Slices
import Derived.Deep.Fields
import Derived.ChangeSame
namespace Go.Proofs.YtokbdleokihdaaaGreatDoor
open Go.ChangeShapes Go.WideShapes Go.ChangeAt Go.RowKit Go.Joins Go.Deep
open Go.ChangeMaps (open_string shut_string)

theorem choose_dt {n : Nat} {P : Nat → Dt → Prop} (h : ∀ i, i < n → ∃ x, P i x) : ∃ F : Nat → Dt, ∀ i, i < n → P i (F i) :=
  ⟨fun i => if hi : i < n then (h i hi).choose else Dt.zero, fun i hi => by
    simp only [dif_pos hi]
    exact (h i hi).choose_spec⟩
def Dt.cells (d : Dt) : List Value := [.int .i64 d.k, .int .i64 d.i, .string d.s]
/-- A slice of values that came in. -/
def DatS (W : World) (v : Value) (ds : List Dt) : Prop :=
  ∃ p cap, v = .slice p ds.length cap ∧ ds.length ≤ cap ∧ cap ≤ 9223372036854775807 ∧ (ds = [] ∨ ∃ b o, p = some ⟨b, o, none⟩ ∧ b < W.heap.size ∧ DCells W b o ds) ∧ ∀ d ∈ ds, -9223372036854775808 ≤ d.i ∧ d.i ≤ 9223372036854775807

set_option maxRecDepth 100000 in
theorem open_dt1 {H : Type} {enc : TypeId × Value → H} {W : World} {n : Nat} {cs : List Value} {y : DataW H × List MemPlace} (h : DataW.trod enc Tryz.prog W 0 (fun _ => true) true n 27 cs = some y) :
    ∃ x : Dt, cs = x.cells ∧ (-9223372036854775808 ≤ x.i ∧ x.i ≤ 9223372036854775807) := by
  obtain ⟨ys, m, _, _, hl, hyl, hf⟩ := DataW.trod_struct Tryz.underlying27 h
  have hl7 : cs.length = 3 := hl.trans (by kernel_rfl)
  match cs, hl7 with
  | [c0, c1, c2], _ =>
    match ys, hyl with
    | [y0, y1, y2], _ =>
      have w1 : Tryz.prog.cellsOf 3 = 1 := by kernel_rfl
      have w2 : Tryz.prog.cellsOf 9 = 1 := by kernel_rfl
      have w3 : Tryz.prog.cellsOf 2 = 1 := by kernel_rfl
      have h0 : DataW.trod enc Tryz.prog W 0 (fun _ => true) true m 3 (([c0, c1, c2].drop 0).take (Tryz.prog.cellsOf 3)) = some y0 := hf 0 _ rfl
      have h1 : DataW.trod enc Tryz.prog W 0 (fun _ => true) true m 2 (([c0, c1, c2].drop 1).take (Tryz.prog.cellsOf 2)) = some y1 := hf 1 _ rfl
      have h2 : DataW.trod enc Tryz.prog W 0 (fun _ => true) true m 9 (([c0, c1, c2].drop 2).take (Tryz.prog.cellsOf 9)) = some y2 := hf 2 _ rfl
      rw [w1] at h0
      rw [w3] at h1
      rw [w2] at h2
      obtain ⟨n0, e0, -, k0⟩ := DataW.trod_int Tryz.underlying3 h0
      obtain ⟨n1, e1, -, k1⟩ := DataW.trod_int Tryz.underlying2 h1
      obtain ⟨s2, e2, -, k2⟩ := DataW.trod_string Tryz.underlying9 h2
      have q0 : c0 = .int .i64 n0 := by simpa using e0
      have q1 : c1 = .int .i64 n1 := by simpa using e1
      have q2 : c2 = .string s2 := by simpa using e2
      subst q0 q1 q2
      exact ⟨⟨n0, n1, s2⟩, rfl, (bounds_i64 k1).1, (bounds_i64 k1).2⟩
set_option maxRecDepth 100000 in
theorem open_datslice {H : Type} {enc : TypeId × Value → H} {W : World} {b0 : Nat} {v : Value} {d : DataW H} {p : List MemPlace}
    (hv : Value.okWide Tryz.prog W .any b0 25 v) (h : DataW.Trod enc Tryz.prog W 0 (fun _ => true) true 25 v d p) : ∃ ds : List Dt, DatS W v ds := by
  obtain ⟨q, ln, cp, rfl⟩ := okWide_slice Tryz.underlying25 hv
  obtain ⟨fuel, hf⟩ := h
  rcases open_slice Tryz.underlying25 hf with ⟨hcs, _⟩ | ⟨a, len, cap, m, n, D, Pl, hcs, _, hl, hm, hmm, _, hi⟩
  · simp [Value.cells] at hcs
    obtain ⟨rfl, rfl, rfl⟩ := hcs
    exact ⟨[], none, 0, rfl, Nat.le_refl _, by omega, .inl rfl, by simp⟩
  · simp [Value.cells] at hcs
    obtain ⟨rfl, rfl, rfl⟩ := hcs
    simp only [if_true] at hmm
    unfold maxLen at hm
    have hC : Tryz.prog.cellsOf 27 = 3 := by kernel_rfl
    rw [hC] at hi
    have each : ∀ i, i < ln → ∃ x : Dt, W.cells? 0 (a.add (i * 3)) 3 = some x.cells ∧ (-9223372036854775808 ≤ x.i ∧ x.i ≤ 9223372036854775807) := fun i hil => by
      obtain ⟨cs, h1, h2⟩ := hi i (by omega)
      obtain ⟨x, hx, h3⟩ := open_dt1 h2
      exact ⟨x, by rw [h1, hx], h3⟩
    obtain ⟨F, hF⟩ := choose_dt each
    refine ⟨(List.range ln).map F, some a, cp, by simp, by simpa using hl, by omega, ?_, ?_⟩
    · by_cases h0 : ln = 0
      · subst h0; exact .inl (by simp)
      · right
        obtain ⟨hx0, _⟩ := hF 0 (by omega)
        obtain ⟨_, _, hat⟩ := World.cells?_some hx0
        have hc0 := hat 0 (by omega)
        have e0 : (a.add (0 * 3)).add 0 = a := by simp [Addr.add]
        rw [e0] at hc0
        have hspot := World.cell?_spot (hc0.trans (by rfl : (F 0).cells[0]? = some (.int .i64 (F 0).k)))
        obtain ⟨g, o, sp⟩ := a
        have hsp : sp = none := hspot
        subst hsp
        have hadd : ∀ j, (⟨g, o, none⟩ : Addr).add j = ⟨g, o + j, none⟩ := fun j => by unfold Addr.add; split <;> simp_all
        have hg := World.block_lt_of_cell? W _ (hc0.trans (by rfl : (F 0).cells[0]? = some (.int .i64 (F 0).k)))
        refine ⟨g, o, rfl, hg, fun i hil => ?_⟩
        have hil : i < ln := by simpa using hil
        have hxe : dnth ((List.range ln).map F) i = F i := by
          unfold dnth
          rw [List.getD_eq_getElem?_getD, List.getElem?_map, List.getElem?_range hil]
          rfl
        rw [hxe]
        obtain ⟨hxi, _⟩ := hF i hil
        obtain ⟨_, _, hat⟩ := World.cells?_some hxi
        have k0 := hat 0 (by omega)
        have k1 := hat 1 (by omega)
        have k2 := hat 2 (by omega)
        rw [Go.Deep.add_add, hadd] at k0 k1 k2
        exact ⟨k0, k1, k2⟩
    · intro x hx
      obtain ⟨i, hi2, rfl⟩ := List.mem_map.1 hx
      exact (hF i (by simpa using hi2)).2
end Go.Proofs.YtokbdleokihdaaaGreatDoor

/- Opening the calls that a log's laws are given. -/
import Derived.Test.YtnpgjlhnlakgpaaGreatDoorWalOp
import Derived.ProofKit
import Derived.Lib.SmallJoins
import Derived.OpenShut
import Derived.ShutString
import Derived.Deep.Slices
import Derived.Deep.Fields
import Derived.ChangeSame
namespace Go.Proofs.YtnpgjlhnlakgpaaGreatDoor
open Go.ChangeShapes Go.WideShapes Go.ChangeAt Go.RowKit Go.Joins Go.Deep
open Go.ChangeMaps (open_string shut_string)

theorem open_slicev {H : Type} {enc : TypeId × Value → H} {W : World} {n : Nat} {v : Value} {y : DataW H × List MemPlace} (h : DataW.trod enc Tryz.prog W 0 (fun _ => true) true n 38 [v] = some y) : ∃ p l c, v = .slice p l c := by
  rcases open_ints Tryz.underlying38 Tryz.underlying3 (by kernel_rfl) h with ⟨hcs, _⟩ | ⟨a, len, cap, zs, hcs, _⟩
  · simp only [List.cons.injEq, and_true] at hcs
    exact ⟨_, _, _, hcs⟩
  · simp only [List.cons.injEq, and_true] at hcs
    exact ⟨_, _, _, hcs⟩
set_option maxRecDepth 100000 in
theorem open_wop {H : Type} {enc : TypeId × Value → H} {W : World} {n : Nat} {cs : List Value} {y : DataW H × List MemPlace} (h : DataW.trod enc Tryz.prog W 0 (fun _ => true) true n 42 cs = some y) :
    ∃ x : WOp, cs = x.cells := by
  obtain ⟨ys, m, _, hyx, hl, hyl, hf⟩ := DataW.trod_struct Tryz.underlying42 h
  have hl6 : cs.length = 6 := hl.trans (by kernel_rfl)
  match cs, hl6 with
  | [c0, c1, c2, c3, c4, c5], _ =>
    match ys, hyl with
    | [y0, y1, y2, y3, y4], _ =>
      have w1 : Tryz.prog.cellsOf 3 = 1 := by kernel_rfl
      have w2 : Tryz.prog.cellsOf 9 = 1 := by kernel_rfl
      have w3 : Tryz.prog.cellsOf 40 = 2 := by kernel_rfl
      have h0 : DataW.trod enc Tryz.prog W 0 (fun _ => true) true m 3 (([c0, c1, c2, c3, c4, c5].drop 0).take (Tryz.prog.cellsOf 3)) = some y0 := hf 0 _ rfl
      have h1 : DataW.trod enc Tryz.prog W 0 (fun _ => true) true m 3 (([c0, c1, c2, c3, c4, c5].drop 1).take (Tryz.prog.cellsOf 3)) = some y1 := hf 1 _ rfl
      have h2 : DataW.trod enc Tryz.prog W 0 (fun _ => true) true m 9 (([c0, c1, c2, c3, c4, c5].drop 2).take (Tryz.prog.cellsOf 9)) = some y2 := hf 2 _ rfl
      have h3 : DataW.trod enc Tryz.prog W 0 (fun _ => true) true m 9 (([c0, c1, c2, c3, c4, c5].drop 3).take (Tryz.prog.cellsOf 9)) = some y3 := hf 3 _ rfl
      have h4 : DataW.trod enc Tryz.prog W 0 (fun _ => true) true m 40 (([c0, c1, c2, c3, c4, c5].drop 4).take (Tryz.prog.cellsOf 40)) = some y4 := hf 4 _ rfl
      rw [w1] at h0 h1
      rw [w2] at h2 h3
      rw [w3] at h4
      obtain ⟨n0, e0, -, -⟩ := DataW.trod_int Tryz.underlying3 h0
      obtain ⟨n1, e1, -, -⟩ := DataW.trod_int Tryz.underlying3 h1
      obtain ⟨s2, e2, -, -⟩ := DataW.trod_string Tryz.underlying9 h2
      obtain ⟨s3, e3, -, -⟩ := DataW.trod_string Tryz.underlying9 h3
      obtain ⟨zs, m', -, hzx, _, hzl, hzf⟩ := DataW.trod_struct Tryz.underlying40 h4
      match zs, hzl with
      | [z0, z1], _ =>
        have v1 : Tryz.prog.cellsOf 38 = 1 := by kernel_rfl
        have g0 : DataW.trod enc Tryz.prog W 0 (fun _ => true) true m' 38 ((((([c0, c1, c2, c3, c4, c5].drop 4).take 2)).drop 0).take (Tryz.prog.cellsOf 38)) = some z0 := hzf 0 _ rfl
        have g1 : DataW.trod enc Tryz.prog W 0 (fun _ => true) true m' 38 ((((([c0, c1, c2, c3, c4, c5].drop 4).take 2)).drop 1).take (Tryz.prog.cellsOf 38)) = some z1 := hzf 1 _ rfl
        rw [v1] at g0 g1
        obtain ⟨kp, kn, kc, q4⟩ := open_slicev (v := c4) g0
        obtain ⟨tp, tn, tc, q5⟩ := open_slicev (v := c5) g1
        have q0 : c0 = .int .i64 n0 := by simpa using e0
        have q1 : c1 = .int .i64 n1 := by simpa using e1
        have q2 : c2 = .string s2 := by simpa using e2
        have q3 : c3 = .string s3 := by simpa using e3
        subst q0 q1 q2 q3 q4 q5
        exact ⟨⟨n0, n1, s2, s3, kp, kn, kc, tp, tn, tc⟩, rfl⟩
set_option maxRecDepth 100000 in
theorem open_wops {H : Type} {enc : TypeId × Value → H} {W : World} {b0 : Nat} {v : Value} {d : DataW H} {p : List MemPlace}
    (hv : Value.okWide Tryz.prog W .any b0 22 v) (h : DataW.Trod enc Tryz.prog W 0 (fun _ => true) true 22 v d p) :
    ∃ es : List WOp, OpW W v es := by
  obtain ⟨q, ln, cp, rfl⟩ := okWide_slice Tryz.underlying22 hv
  obtain ⟨fuel, hf⟩ := h
  rcases open_slice Tryz.underlying22 hf with ⟨hcs, _⟩ | ⟨a, len, cap, m, n, D, Pl, hcs, _, hl, hm, hmm, hdx, hi⟩
  · simp [Value.cells] at hcs
    obtain ⟨rfl, rfl, rfl⟩ := hcs
    exact ⟨[], none, 0, rfl, Nat.le_refl _, .inl rfl⟩
  · simp [Value.cells] at hcs
    obtain ⟨rfl, rfl, rfl⟩ := hcs
    simp only [if_true] at hmm
    unfold maxLen at hm
    have hC : Tryz.prog.cellsOf 42 = 6 := by kernel_rfl
    rw [hC] at hi
    have each : ∀ i, i < ln → ∃ x : WOp, W.cells? 0 (a.add (i * 6)) 6 = some x.cells := fun i hil => by
      obtain ⟨cs, h1, h2⟩ := hi i (by omega)
      obtain ⟨x, hx⟩ := open_wop h2
      exact ⟨x, by rw [h1, hx]⟩
    haveI : Inhabited WOp := ⟨⟨0, 0, ByteArray.empty, ByteArray.empty, none, 0, 0, none, 0, 0⟩⟩
    obtain ⟨F, hF⟩ := choose_lt each
    refine ⟨(List.range ln).map F, some a, cp, by simp, by simpa using hl, ?_⟩
    by_cases h0 : ln = 0
    · subst h0; exact .inl (by simp)
    · right
      have hx0 := hF 0 (by omega)
      obtain ⟨_, _, hat⟩ := World.cells?_some hx0
      have hc0 := hat 0 (by omega)
      have e0 : (a.add (0 * 6)).add 0 = a := by simp [Addr.add]
      rw [e0] at hc0
      have hspot := World.cell?_spot (hc0.trans (by rfl : (F 0).cells[0]? = some (.int .i64 (F 0).kind)))
      obtain ⟨g, o, sp⟩ := a
      have hsp : sp = none := hspot
      subst hsp
      have hadd : ∀ j, (⟨g, o, none⟩ : Addr).add j = ⟨g, o + j, none⟩ := fun j => by unfold Addr.add; split <;> simp_all
      refine ⟨g, o, rfl, fun i x hx j u hu => ?_⟩
      have hil : i < ln := by
        have := (List.getElem?_eq_some_iff.1 hx).1
        simpa using this
      have hxe : x = F i := by
        rw [List.getElem?_map, List.getElem?_range hil] at hx
        simpa using hx.symm
      subst hxe
      have hxi := hF i hil
      obtain ⟨_, _, hat⟩ := World.cells?_some hxi
      have hj : j < 6 := (List.getElem?_eq_some_iff.1 hu).1
      have := hat j hj
      rw [Go.Deep.add_add, hadd] at this
      rw [Nat.add_assoc, this]; exact hu
end Go.Proofs.YtnpgjlhnlakgpaaGreatDoor

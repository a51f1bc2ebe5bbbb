/- The contract of played: a disk behind some calls. -/
import Derived.Test.YtcjhkonjlhpmhaaVfsDoes
namespace Go.Proofs.Ytcjhkonjlhpmhaa
open Go.RowKit Go.Maps

theorem playD_take (d : Dk) (es : List OpE) {i : Nat} {x : OpE} (h : es[i]? = some x) : playD d ((es.take (i + 1)).map OpE.o) = if smallB x.o then (doesD (playD d ((es.take i).map OpE.o)) x.o).2 else playD d ((es.take i).map OpE.o) := by
  have ht : es.take (i + 1) = es.take i ++ [x] := by rw [List.take_add_one, h]; rfl
  rw [ht, List.map_append]
  exact playD_snoc _ _ _
/-- The cells of one of the calls, and what is of one cell. -/
theorem OpsAt.get {B : Nat} {w : World} {p : Option Addr} {n c : Nat} {es : List OpE} (h : OpsAt B w (.slice p n c) es) {i : Nat} {x : OpE} (hx : es[i]? = some x) :
    x.Ok ∧ n = es.length ∧ ∃ g o, p = some ⟨g, o, none⟩ ∧ g < B ∧ w.cell? ⟨g, o + i * 7, none⟩ = some (.int .i64 x.o.kind) ∧ w.cell? ⟨g, o + i * 7 + 1, none⟩ = some (.int .i64 x.o.on) ∧ w.cell? ⟨g, o + i * 7 + 2, none⟩ = some (.int .i64 x.o.n) ∧
      w.cell? ⟨g, o + i * 7 + 3, none⟩ = some (.string x.o.name) ∧ w.cell? ⟨g, o + i * 7 + 4, none⟩ = some (.string x.o.data) ∧ w.cell? ⟨g, o + i * 7 + 5, none⟩ = some x.kv ∧ w.cell? ⟨g, o + i * 7 + 6, none⟩ = some x.tv := by
  obtain ⟨p', c', hv, h1, h2, h3, h4⟩ := h
  cases hv
  refine ⟨h4 x (List.mem_of_getElem? hx), rfl, ?_⟩
  rcases h3 with rfl | ⟨g, o, rfl, hg, hc⟩
  · simp at hx
  · have hc := hc i x hx
    exact ⟨g, o, rfl, hg, hc 0 _ rfl, hc 1 _ rfl, hc 2 _ rfl, hc 3 _ rfl, hc 4 _ rfl, hc 5 _ rfl, hc 6 _ rfl⟩

set_option maxRecDepth 100000 in
set_option maxHeartbeats 4000000 in
theorem played_any (r : Nat) (hr : r ≤ 4194304) {B : Nat} {w : World} (hB : B ≤ w.heap.size) {p : Option Addr} {n c : Nat} {es : List OpE} (h : OpsAt B w (.slice p n c) es) :
    Calls Try.prog 19 #[.int .i64 (r : Int), .slice p n c] w fun e w' => e = .returned (.pointer (some ⟨w.heap.size + 1, 0, none⟩)) ∧ DAt w' (w.heap.size + 1) w.heap.size (playD (Dk.new r) ((es.take 200).map OpE.o)) ∧ Below w.heap.size w w' ∧ w.heap.size + 1 < w'.heap.size := by
  have H := Lib.hid h
  clear h
  go_enter Try.func19, Try.ntmps19
  go_wp2_with fail
  refine (new_ok r w hr).mono ?_
  rintro e w1 ⟨rfl, hd1, hB1, hz1⟩
  have HO1 := Lib.hid (H.out.below (hB1.mono hB))
  have HD1 := Lib.hid hd1
  have HB1 := Lib.hid hB1
  clear hd1 hB1
  go_wp2_with fail
  refine (cutop_any HO1.out 200 (by omega)).mono ?_
  rintro e w1' ⟨rfl, rfl⟩
  have HT := Lib.hid (HO1.out.take 200)
  have hl200 : (es.take 200).length ≤ 200 := List.length_take_le _ _
  generalize hfs : es.take 200 = fs at *
  have HFS := Lib.hid hfs
  clear hfs
  go_wp2_with fail
  go_loopw [23] (fun iv wr => ∃ i : Nat, i ≤ fs.length ∧ iv = .int .i64 (i : Int) ∧ DAt wr (w.heap.size + 1) w.heap.size (playD (Dk.new r) ((fs.take i).map OpE.o)) ∧ Kp (w.heap.size + 1) w.heap.size w1 wr)
    (fun iv _ => fs.length - (intOf iv).toNat)
  case atStart => exact ⟨0, Nat.zero_le _, rfl, by simpa [playD] using HD1.out, Kp.refl _ _ _⟩
  case round =>
    obtain ⟨i, hi, rfl, hd, hk⟩ := hrel
    have HD := Lib.hid hd
    have HK := Lib.hid hk
    have hzr := hk.size
    have hlb := hd.lt
    clear hd hk
    by_cases hlt : i < fs.length
    · obtain ⟨x, hx⟩ : ∃ x, fs[i]? = some x := ⟨fs[i], List.getElem?_eq_getElem hlt⟩
      have HBR := HK.out.belowN (HB1.out.mono hB) (by omega) (by omega) (by omega)
      obtain ⟨hxo, -, g, o, rfl, hg, q0, q1, q2, q3, q4, q5, q6⟩ := (HT.out.below (HK.out.belowN (Below.refl B w1) (by omega) (by omega) (by omega))).get hx
      have HSTEP := Lib.hid (playD_take (Dk.new r) fs hx)
      have HOK := Lib.hid ((Dk.Ok.new hr).play ((fs.take i).map OpE.o))
      have HXO := Lib.hid hxo
      have hst := play_steps (Dk.new r) ((fs.take i).map OpE.o)
      have hst2 : ((fs.take i).map OpE.o).length ≤ 200 := by rw [List.length_map, List.length_take]; omega
      have hst0 : (Dk.new r).steps = 0 := rfl
      have hstb : (playD (Dk.new r) ((fs.take i).map OpE.o)).steps < 4611686018427387904 := by omega
      have HST := Lib.hid hstb
      obtain ⟨xo, xk, xt⟩ := x
      obtain ⟨kp, kn, kc, hxk⟩ := hxo.k1
      obtain ⟨tp, tn, tc, hxt⟩ := hxo.t1
      simp only at hxk hxt
      subst hxk hxt
      obtain ⟨kind, on, on2, nm, dt, keep, turn⟩ := xo
      simp only at q0 q1 q2 q3 q4 q5 q6
      clear hx hxo hst hst2 hst0 hstb HBR
      have HSM := Lib.hid (fun wx => small_any _ HXO.out wx)
      generalize playD (Dk.new r) ((fs.take i).map OpE.o) = D at *
      go_wp2_with fail
      refine (HSM.out _).mono ?_
      rintro e w2 ⟨rfl, hB2⟩
      have HX2 := Lib.hid ((HD.out.alloc (.cells #[.int .i64 kind, .int .i64 on, .int .i64 on2, .string nm, .string dt, .slice kp kn kc, .slice tp tn tc] 49)).below hB2)
      have HK2 := Lib.hid ((HK.out.alloc (.cells #[.int .i64 kind, .int .i64 on, .int .i64 on2, .string nm, .string dt, .slice kp kn kc, .slice tp tn tc] 49)).step hB2)
      have hz2 := hB2.size
      have hca : ∀ j, w2.cell? ⟨wr.heap.size, j, none⟩ = (#[.int .i64 kind, .int .i64 on, .int .i64 on2, .string nm, .string dt, .slice kp kn kc, .slice tp tn tc] : Array Value)[j]? := fun j => by
        rw [hB2.cell (p := ⟨wr.heap.size, j, none⟩) (by simp), World.cell?_alloc_new]
      have z0 : w2.cell? ⟨wr.heap.size, 0, none⟩ = some (.int .i64 kind) := hca 0
      have z1 : w2.cell? ⟨wr.heap.size, 1, none⟩ = some (.int .i64 on) := hca 1
      have z2 : w2.cell? ⟨wr.heap.size, 2, none⟩ = some (.int .i64 on2) := hca 2
      have z3 : w2.cell? ⟨wr.heap.size, 3, none⟩ = some (.string nm) := hca 3
      have z4 : w2.cell? ⟨wr.heap.size, 4, none⟩ = some (.string dt) := hca 4
      have z5 : w2.cell? ⟨wr.heap.size, 5, none⟩ = some (.slice kp kn kc) := hca 5
      have z6 : w2.cell? ⟨wr.heap.size, 6, none⟩ = some (.slice tp tn tc) := hca 6
      clear hca hB2 q0 q1 q2 q3 q4 q5 q6 HSM
      cases hsm : smallB ⟨kind, on, on2, nm, dt, keep, turn⟩ with
      | true =>
        have HSM := Lib.hid hsm
        clear hsm
        go_wp2_with fail
        refine (does_any HX2.out HOK.out HST.out _ HXO.out).mono ?_
        rintro e w3 ⟨rfl, hd3, hk3⟩
        have HD3 := Lib.hid hd3
        have HK3 := Lib.hid (HK2.out.trans hk3)
        clear hd3 hk3 z0 z1 z2 z3 z4 z5 z6
        go_wp2_with fail
        go_roundw
        case rel =>
          have e1 := HSTEP.out
          rw [HSM.out, if_pos rfl] at e1
          exact ⟨i + 1, by omega, by go_num, by rw [e1]; exact HD3.out, HK3.out⟩
        case measure => simp [intOf]; omega
      | false =>
        have HSM := Lib.hid hsm
        clear hsm
        go_wp2_with fail
        go_roundw
        case rel =>
          have e1 := HSTEP.out
          rw [HSM.out, if_neg (by simp)] at e1
          exact ⟨i + 1, by omega, by go_num, by rw [e1]; exact HX2.out, HK2.out⟩
        case measure => simp [intOf]; omega
    · obtain rfl : i = fs.length := by omega
      go_wp2_with fail
      go_ret
      have h9 := HD.out
      rw [List.take_length, ← HFS.out] at h9
      exact ⟨rfl, h9, HK.out.belowN HB1.out (by omega) (by omega) (by omega), by omega⟩
end Go.Proofs.Ytcjhkonjlhpmhaa

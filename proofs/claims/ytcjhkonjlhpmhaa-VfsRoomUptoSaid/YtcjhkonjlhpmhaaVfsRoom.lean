/- The walk of VfsRoom: it answers true. -/
import Derived.Test.YtcjhkonjlhpmhaaVfsPlayed
import Derived.Test.YtcjhkonjlhpmhaaVfsSame
import Derived.Deep.DeepCutAuto
namespace Go.Proofs.Ytcjhkonjlhpmhaa
open Go.RowKit Go.Maps

theorem room_does {d : Dk} (hoff : d.off = false) (ha : d.armed = false) (o : Opn) (hk : o.kind = 2) :
    (doesD d o).1 = 140 ∨ ((doesD d o).1 = 142 ∧ d.room - usedF d.L < o.data.size) ∨ ((doesD d o).1 = 0 ∧ ¬ d.room - usedF d.L < o.data.size) := by
  have h := append_room hoff ha o.name o.data
  unfold doesD
  rw [hk]
  simpa using h
theorem used_snoc (L : List Fl) {i : Nat} {f : Fl} (h : L[i]? = some f) : usedF (L.take (i + 1)) = usedF (L.take i) + f.bytes.size := by
  rw [List.take_add_one, h]
  simp [usedF]
theorem used_take (L : List Fl) (i : Nat) : usedF (L.take i) ≤ usedF L := by
  conv => rhs; rw [← List.take_append_drop i L]
  simp only [usedF, List.map_append, List.sum_append]
  omega

set_option maxRecDepth 100000 in
set_option maxHeartbeats 8000000 in
theorem room_bad (r : Int) (p : Option Addr) (n c : Nat) (w : World) (hr : r < 0 ∨ 4194304 < r) :
    Calls Try.prog 5 #[.int .i64 r, .slice p n c] w fun e w' => e = .returned (.bool true) ∧ Below w.heap.size w w' := by
  rcases hr with hr | hr
  · go_enter Try.func5, Try.ntmps5
    go_wp2_with fail
    refine (known_any _).mono ?_
    rintro e w1 ⟨rfl, hB⟩
    have HBB := Lib.hid hB
    clear hB
    go_wp2_with fail
    go_ret
    exact ⟨rfl, HBB.out⟩
  · go_enter Try.func5, Try.ntmps5
    go_wp2_with fail
    refine (known_any _).mono ?_
    rintro e w1 ⟨rfl, hB⟩
    have HBB := Lib.hid hB
    clear hB
    go_wp2_with fail
    go_ret
    exact ⟨rfl, HBB.out⟩

set_option maxRecDepth 100000 in
set_option maxHeartbeats 16000000 in
theorem room_walk (r : Nat) (hr : r ≤ 4194304) (p : Option Addr) (n c : Nat) (es : List OpE) (w : World) (hes : OpsAt w.heap.size w (.slice p n c) es) :
    Calls Try.prog 5 #[.int .i64 (r : Int), .slice p n c] w fun e w' => e = .returned (.bool true) ∧ Below w.heap.size w w' := by
  have H := Lib.hid hes
  clear hes
  go_enter Try.func5, Try.ntmps5
  go_wp2_with fail
  refine (new_ok r w hr).mono ?_
  rintro e w0 ⟨rfl, hd0, hB0, hz0⟩
  have HD0 := Lib.hid hd0
  have HB0 := Lib.hid hB0
  clear hd0 hB0
  go_wp2_with fail
  refine (known_any w0).mono ?_
  rintro e w1 ⟨rfl, hB1⟩
  have hz1 := hB1.size
  have HD1 := Lib.hid (HD0.out.below hB1)
  have HB1 := Lib.hid (HB0.out.trans (hB1.mono (by omega)))
  have HO1 := Lib.hid (H.out.below HB1.out)
  clear hB1 HD0 HB0
  go_wp2_with fail
  refine (cutop_any HO1.out 200 (by omega)).mono ?_
  rintro e w1' ⟨rfl, rfl⟩
  have HT := Lib.hid (HO1.out.take 200)
  have hl200 : (es.take 200).length ≤ 200 := List.length_take_le _ _
  generalize es.take 200 = fs at *
  go_wp2_with fail
  go_loopw [7, 38] (fun uv iv wr => ∃ i : Nat, i ≤ fs.length ∧ uv = .int .i64 (usedF (playD (Dk.new r) ((fs.take i).map OpE.o)).L : Int) ∧ iv = .int .i64 (i : Int) ∧ DAt wr (w.heap.size + 1) w.heap.size (playD (Dk.new r) ((fs.take i).map OpE.o)) ∧ Kp (w.heap.size + 1) w.heap.size w1 wr)
    (fun _ iv _ => fs.length - (intOf iv).toNat)
  case atStart => exact ⟨0, Nat.zero_le _, by simp [playD, Dk.new, usedF], rfl, HD1.out, Kp.refl _ _ _⟩
  case round =>
    obtain ⟨i, hi, rfl, rfl, hd, hk⟩ := hrel
    have HD := Lib.hid hd
    have HK := Lib.hid hk
    have hzr := hk.size
    have hlb := hd.lt
    clear hd hk
    by_cases hlt : i < fs.length
    · obtain ⟨x, hx⟩ : ∃ x, fs[i]? = some x := ⟨fs[i], List.getElem?_eq_getElem hlt⟩
      obtain ⟨hxo, -, g, o, rfl, hg, q0, q1, q2, q3, q4, q5, q6⟩ := (HT.out.below (HK.out.belowN (Below.refl w.heap.size w1) (by omega) (by omega) (by omega))).get hx
      have HSTEP := Lib.hid (playD_take (Dk.new r) fs hx)
      have HOK := Lib.hid ((Dk.Ok.new hr).play ((fs.take i).map OpE.o))
      have HON := Lib.hid (play_on (d := Dk.new r) rfl rfl ((fs.take i).map OpE.o))
      have hrm : (playD (Dk.new r) ((fs.take i).map OpE.o)).room = r := play_room _ _
      have hus := HOK.out.used
      rw [hrm] at hus
      have HRM := Lib.hid hrm
      have HXO := Lib.hid hxo
      have hst := play_steps (Dk.new r) ((fs.take i).map OpE.o)
      have hst2 : ((fs.take i).map OpE.o).length ≤ 200 := by rw [List.length_map, List.length_take]; omega
      have hst0 : (Dk.new r).steps = 0 := rfl
      have hstb : (playD (Dk.new r) ((fs.take i).map OpE.o)).steps < 4611686018427387904 := by omega
      have HST := Lib.hid hstb
      obtain ⟨xo, xk, xt⟩ := x
      obtain ⟨kp, kn, kc, hxk⟩ := hxo.k1
      obtain ⟨tp, tn, tc, hxt⟩ := hxo.t1
      simp only at hxk hxt
      subst hxk hxt
      obtain ⟨kind, on, on2, nm, dt, keep, turn⟩ := xo
      simp only at q0 q1 q2 q3 q4 q5 q6
      clear hx hxo hst hst2 hst0 hstb hrm
      have HSM := Lib.hid (fun wx => small_any _ HXO.out wx)
      generalize playD (Dk.new r) ((fs.take i).map OpE.o) = D at *
      go_wp2_with fail
      refine (HSM.out _).mono ?_
      rintro e w2 ⟨rfl, hB2⟩
      have HX2 := Lib.hid ((HD.out.alloc (.cells #[.int .i64 kind, .int .i64 on, .int .i64 on2, .string nm, .string dt, .slice kp kn kc, .slice tp tn tc] 49)).below hB2)
      have HK2 := Lib.hid ((HK.out.alloc (.cells #[.int .i64 kind, .int .i64 on, .int .i64 on2, .string nm, .string dt, .slice kp kn kc, .slice tp tn tc] 49)).step hB2)
      have hz2 := hB2.size
      have hz2' : wr.heap.size < w2.heap.size := by simp at hz2; omega
      clear hz2
      have hca : ∀ j, w2.cell? ⟨wr.heap.size, j, none⟩ = (#[.int .i64 kind, .int .i64 on, .int .i64 on2, .string nm, .string dt, .slice kp kn kc, .slice tp tn tc] : Array Value)[j]? := fun j => by
        rw [hB2.cell (p := ⟨wr.heap.size, j, none⟩) (by simp), World.cell?_alloc_new]
      have z0 : w2.cell? ⟨wr.heap.size, 0, none⟩ = some (.int .i64 kind) := hca 0
      have z1 : w2.cell? ⟨wr.heap.size, 1, none⟩ = some (.int .i64 on) := hca 1
      have z2 : w2.cell? ⟨wr.heap.size, 2, none⟩ = some (.int .i64 on2) := hca 2
      have z3 : w2.cell? ⟨wr.heap.size, 3, none⟩ = some (.string nm) := hca 3
      have z4 : w2.cell? ⟨wr.heap.size, 4, none⟩ = some (.string dt) := hca 4
      have z5 : w2.cell? ⟨wr.heap.size, 5, none⟩ = some (.slice kp kn kc) := hca 5
      have z6 : w2.cell? ⟨wr.heap.size, 6, none⟩ = some (.slice tp tn tc) := hca 6
      clear hca hB2 q0 q1 q2 q3 q4 q5 q6 HSM
      cases hsm : smallB ⟨kind, on, on2, nm, dt, keep, turn⟩ with
      | false =>
        have HSM := Lib.hid hsm
        clear hsm
        go_wp2_with fail
        go_roundw
        case rel =>
          have e1 := HSTEP.out
          rw [HSM.out, if_neg (by simp)] at e1
          exact ⟨i + 1, by omega, by rw [e1], by go_num, by rw [e1]; exact HX2.out, HK2.out⟩
        case measure => simp [intOf]; omega
      | true =>
        have HRD := Lib.hid (fun h2 => room_does HON.out.1 HON.out.2 ⟨kind, on, on2, nm, dt, keep, turn⟩ h2)
        have HOK3 := Lib.hid (HOK.out.does ⟨kind, on, on2, nm, dt, keep, turn⟩)
        have hrm3 : (doesD D ⟨kind, on, on2, nm, dt, keep, turn⟩).2.room = r := by
          have e1 := HSTEP.out
          rw [hsm, if_pos rfl] at e1
          rw [← e1]; exact play_room _ _
        have hus3 := HOK3.out.used
        rw [hrm3] at hus3
        have hm3 := HOK3.out.many
        have HSM := Lib.hid hsm
        have HDO := Lib.hid (does_any HX2.out HOK.out HST.out _ HXO.out)
        have hdt := HXO.out.dt
        simp only at hdt
        unfold maxLen at hdt
        clear hsm hrm3
        go_wp2_with fail
        refine HDO.out.mono ?_
        rintro e w3 ⟨rfl, hd3, hk3⟩
        have HD3 := Lib.hid hd3
        have HK3 := Lib.hid (HK2.out.trans hk3)
        have hz3 := hk3.size
        have y0 : w3.cell? ⟨wr.heap.size, 0, none⟩ = some (.int .i64 kind) := by rw [hk3.cell hz2' (by omega) (by omega)]; exact z0
        have y4 : w3.cell? ⟨wr.heap.size, 4, none⟩ = some (.string dt) := by rw [hk3.cell hz2' (by omega) (by omega)]; exact z4
        have HSTEP2 := Lib.hid (show playD (Dk.new r) ((fs.take (i + 1)).map OpE.o) = (doesD D ⟨kind, on, on2, nm, dt, keep, turn⟩).2 by
          have e1 := HSTEP.out
          rw [HSM.out, if_pos rfl] at e1
          exact e1)
        have hrd := HRD.out
        rw [HRM.out] at hrd
        clear hd3 hk3 z0 z1 z2 z3 z4 z5 z6 HDO HRD HSTEP HSM
        generalize (doesD D ⟨kind, on, on2, nm, dt, keep, turn⟩).2 = D' at *
        generalize (doesD D ⟨kind, on, on2, nm, dt, keep, turn⟩).1 = f at *
        have HRD := Lib.hid hrd
        clear hrd
        go_upto_region 12 with fail
        go_cut [66] (fun v wc => v = .bool false ∧ wc = w3)
        case first =>
          by_cases hk2 : kind = 2
          · rcases HRD.out hk2 with h140 | ⟨h142, hlt2⟩ | ⟨h0, hge⟩
            · subst h140
              subst hk2
              go_wp2_with fail
              go_meet
              case rel => exact ⟨rfl, rfl⟩
            · have c3 : (r : Int) - (usedF D.L : Int) < (dt.size : Int) := by omega
              subst h142
              subst hk2
              go_wp2_with fail
              go_meet
              case rel => exact ⟨rfl, rfl⟩
            · have c3 : ¬ (r : Int) - (usedF D.L : Int) < (dt.size : Int) := by omega
              subst h0
              subst hk2
              go_wp2_with fail
              go_meet
              case rel => exact ⟨rfl, rfl⟩
          · have c1 : (kind == 2) = false := by simpa using hk2
            clear hk2
            go_wp2_with fail
            go_meet
            case rel => exact ⟨rfl, rfl⟩
        case rest =>
          obtain ⟨rfl, rfl⟩ := hcut
          clear y0 y4
          go_wp2_with fail
          refine (files_any HD3.out HOK3.out).mono ?_
          rintro e w4 ⟨v4, rfl, hrow4, hB4⟩
          have HF4 := Lib.hid (FilesAt.of_row hrow4)
          have HD4 := Lib.hid (HD3.out.below hB4)
          have HK4 := Lib.hid (HK3.out.step hB4)
          have hz4 := hB4.size
          obtain ⟨l4p, l4n, l4c, hlv⟩ := owns_slice hrow4
          subst hlv
          clear hB4 hrow4 HD3 HK3
          obtain ⟨p4, c4, hv4, hc4⟩ := HF4.out
          cases hv4
          have HC4 := Lib.hid hc4
          clear hc4 HF4
          go_wp2_with fail
          go_loopw [7, 70] (fun uv jv wq => ∃ j : Nat, j ≤ D'.L.length ∧ uv = .int .i64 (usedF (D'.L.take j) : Int) ∧ jv = .int .i64 (j : Int) ∧ Below w4.heap.size w4 wq)
            (fun _ jv _ => D'.L.length - (intOf jv).toNat)
          case atStart => exact ⟨0, Nat.zero_le _, rfl, rfl, Below.refl _ _⟩
          case round =>
            obtain ⟨j, hj, rfl, rfl, hb⟩ := hrel
            have HB := Lib.hid hb
            have hzq := hb.size
            clear hb
            by_cases hjl : j < D'.L.length
            · obtain ⟨ff, hff⟩ : ∃ f, D'.L[j]? = some f := ⟨D'.L[j], List.getElem?_eq_getElem hjl⟩
              obtain ⟨g4, rfl, hc4⟩ := HC4.out.resolve_left (fun e => by rw [e] at hjl; simp at hjl)
              obtain ⟨a0, a1, a2⟩ := hc4 j ff hff
              have hg4 : g4 < w4.heap.size := World.block_lt_of_cell? w4 _ a0
              rw [← HB.out.cell (p := ⟨g4, j * 3, none⟩) hg4] at a0
              rw [← HB.out.cell (p := ⟨g4, j * 3 + 1, none⟩) hg4] at a1
              rw [← HB.out.cell (p := ⟨g4, j * 3 + 2, none⟩) hg4] at a2
              have HSN := Lib.hid (used_snoc D'.L hff)
              have hle := used_take D'.L (j + 1)
              have hle2 := used_take D'.L j
              rw [HSN.out] at hle
              generalize usedF (D'.L.take j) = uj at *
              obtain ⟨fn, fb, fs'⟩ := ff
              simp only at a0 a1 a2 hle
              clear hc4 hff
              go_wp2_with fail
              go_roundw
              case rel => exact ⟨j + 1, by omega, by rw [HSN.out]; go_num, by go_num, (HB.out.alloc (by omega) _)⟩
              case measure => simp [intOf]; omega
            · obtain rfl : j = D'.L.length := by omega
              rw [List.take_length]
              go_wp2_with fail
              go_roundw
              case rel => exact ⟨i + 1, by omega, by rw [HSTEP2.out], by go_num, by rw [HSTEP2.out]; exact HD4.out.below HB.out, HK4.out.trans (Kp.of_below HB.out)⟩
              case measure => simp [intOf]; omega
    · obtain rfl : i = fs.length := by omega
      go_wp2_with fail
      go_ret
      exact ⟨rfl, HK.out.belowN HB1.out (by omega) (by omega) (by omega)⟩
end Go.Proofs.Ytcjhkonjlhpmhaa

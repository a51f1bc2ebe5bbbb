/- The walk of VfsTwins: it answers true. -/
import Derived.Test.YtcjhkonjlhpmhaaVfsPlayed
import Derived.Test.YtcjhkonjlhpmhaaVfsSame
import Derived.Test.YtcjhkonjlhpmhaaVfsClone
import Derived.Test.YtcjhkonjlhpmhaaKeep
import Derived.Deep.Cut
import Derived.Deep.CutRange
namespace Go.Proofs.Ytcjhkonjlhpmhaa
open Go.RowKit Go.Maps

set_option maxRecDepth 100000 in
set_option maxHeartbeats 8000000 in
theorem twins_bad (r : Int) (p1 p2 p3 : Option Addr) (n1 c1 n2 c2 n3 c3 : Nat) (w : World) (hr : r < 0 ∨ 4194304 < r) :
    Calls Try.prog 7 #[.int .i64 r, .slice p1 n1 c1, .slice p2 n2 c2, .slice p3 n3 c3] w fun e w' => e = .returned (.bool true) ∧ Below w.heap.size w w' := by
  rcases hr with hr | hr
  · go_enter Try.func7, Try.ntmps7
    go_wp2_with fail
    refine (known_any _).mono ?_
    rintro e w1 ⟨rfl, hB⟩
    have HBB := Lib.hid hB
    clear hB
    go_wp2_with fail
    go_ret
    exact ⟨rfl, HBB.out⟩
  · go_enter Try.func7, Try.ntmps7
    go_wp2_with fail
    refine (known_any _).mono ?_
    rintro e w1 ⟨rfl, hB⟩
    have HBB := Lib.hid hB
    clear hB
    go_wp2_with fail
    go_ret
    exact ⟨rfl, HBB.out⟩

set_option maxRecDepth 100000 in
set_option maxHeartbeats 16000000 in
theorem twins_walk (r : Nat) (hr : r ≤ 4194304) (p1 p2 p3 : Option Addr) (n1 c1 n2 c2 n3 c3 : Nat) (es os ts : List OpE) (w : World) (hes : OpsAt w.heap.size w (.slice p1 n1 c1) es) (hos : OpsAt w.heap.size w (.slice p2 n2 c2) os) (hts : OpsAt w.heap.size w (.slice p3 n3 c3) ts) :
    Calls Try.prog 7 #[.int .i64 (r : Int), .slice p1 n1 c1, .slice p2 n2 c2, .slice p3 n3 c3] w fun e w' => e = .returned (.bool true) ∧ Below w.heap.size w w' := by
  have HE := Lib.hid hes
  have HO := Lib.hid hos
  have HW := Lib.hid hts
  have OK0 := Lib.hid ((Dk.Ok.new hr).play ((es.take 200).map OpE.o))
  have hst := play_steps (Dk.new r) ((es.take 200).map OpE.o)
  have hst2 : ((es.take 200).map OpE.o).length ≤ 200 := by rw [List.length_map, List.length_take]; omega
  have hst0 : (Dk.new r).steps = 0 := rfl
  have hstb : (playD (Dk.new r) ((es.take 200).map OpE.o)).steps ≤ 200 := by omega
  clear hes hos hts hst hst2 hst0
  go_enter Try.func7, Try.ntmps7
  go_wp2_with fail
  refine (played_any r hr (Nat.le_refl _) HE.out).mono ?_
  rintro e w0 ⟨rfl, hd0, hB0, hz0⟩
  generalize playD (Dk.new r) ((es.take 200).map OpE.o) = D0 at *
  have HD0 := Lib.hid hd0
  have HB0 := Lib.hid hB0
  clear hd0 hB0 HE
  go_wp2_with fail
  refine (known_any w0).mono ?_
  rintro e w1 ⟨rfl, hB1⟩
  have hz1 := hB1.size
  have HD1 := Lib.hid (show DAt w1 (w.heap.size + 1) w.heap.size D0 from HD0.out.below hB1)
  have HB1 := Lib.hid (HB0.out.trans (hB1.mono (by omega)))
  clear hB1 HD0 HB0
  go_wp2_with fail
  refine (clone_any HD1.out).mono ?_
  rintro e w2 ⟨rfl, hc2, hB2, hz2⟩
  have HC2 := Lib.hid hc2
  have HD2 := Lib.hid (show DAt w2 (w.heap.size + 1) w.heap.size D0 from HD1.out.below hB2)
  have HB2 := Lib.hid (HB1.out.trans (hB2.mono (by omega)))
  clear hB2 HD1 HB1 hc2
  go_wp2_with fail
  refine (clone_any HD2.out).mono ?_
  rintro e w3 ⟨rfl, hc3, hB3, hz3⟩
  have HE3 := Lib.hid hc3
  have HC3 := Lib.hid (show DAt w3 w1.heap.size (w1.heap.size + 1) D0 from HC2.out.below hB3)
  have HD3 := Lib.hid (show DAt w3 (w.heap.size + 1) w.heap.size D0 from HD2.out.below hB3)
  have HB3 := Lib.hid (HB2.out.trans (hB3.mono (by omega)))
  have HO3 := Lib.hid (HO.out.below HB3.out)
  clear hB3 HD2 HB2 HC2 hc3 HO
  go_wp2_with fail
  refine (cutop_any HO3.out 100 (by omega)).mono ?_
  rintro e w3' ⟨rfl, rfl⟩
  have HT := Lib.hid (HO3.out.take 100)
  have hl100 : (os.take 100).length ≤ 100 := List.length_take_le _ _
  generalize os.take 100 = fs at *
  clear HO3
  go_wp2_with fail
  go_loopw [45] (fun iv wr => ∃ (i : Nat) (D : Dk), i ≤ fs.length ∧ iv = .int .i64 (i : Int) ∧ D.Ok ∧ D.steps ≤ 200 + i ∧ DAt wr w1.heap.size (w1.heap.size + 1) D ∧ Kp w1.heap.size (w1.heap.size + 1) w3 wr)
    (fun iv _ => fs.length - (intOf iv).toNat)
  case atStart => exact ⟨0, D0, Nat.zero_le _, rfl, OK0.out, hstb, HC3.out, Kp.refl _ _ _⟩
  case round =>
    obtain ⟨i, D, hi, rfl, hok, hsl, hd, hk⟩ := hrel
    have HOK := Lib.hid hok
    have HD := Lib.hid hd
    have HK := Lib.hid hk
    have hzr := hk.size
    clear hd hk hok
    by_cases hlt : i < fs.length
    · obtain ⟨x, hx⟩ : ∃ x, fs[i]? = some x := ⟨fs[i], List.getElem?_eq_getElem hlt⟩
      obtain ⟨hxo, -, g, o, rfl, hg, q0, q1, q2, q3, q4, q5, q6⟩ := (HT.out.below (HK.out.belowN (Below.refl w.heap.size w3) (by omega) (by omega) (by omega))).get hx
      have HXO := Lib.hid hxo
      obtain ⟨xo, xk, xt⟩ := x
      obtain ⟨kp, kn, kc, hxk⟩ := hxo.k1
      obtain ⟨tp, tn, tc, hxt⟩ := hxo.t1
      simp only at hxk hxt
      subst hxk hxt
      obtain ⟨kind, on, on2, nm, dt, keep, turn⟩ := xo
      simp only at q0 q1 q2 q3 q4 q5 q6
      clear hx hxo
      have HSM := Lib.hid (fun wx => small_any _ HXO.out wx)
      go_wp2_with fail
      refine (HSM.out _).mono ?_
      rintro e w4 ⟨rfl, hB4⟩
      have HX4 := Lib.hid (show DAt w4 w1.heap.size (w1.heap.size + 1) D from (HD.out.alloc (.cells #[.int .i64 kind, .int .i64 on, .int .i64 on2, .string nm, .string dt, .slice kp kn kc, .slice tp tn tc] 49)).below hB4)
      have HK4 := Lib.hid ((HK.out.alloc (.cells #[.int .i64 kind, .int .i64 on, .int .i64 on2, .string nm, .string dt, .slice kp kn kc, .slice tp tn tc] 49)).step hB4)
      have hca : ∀ j, w4.cell? ⟨wr.heap.size, j, none⟩ = (#[.int .i64 kind, .int .i64 on, .int .i64 on2, .string nm, .string dt, .slice kp kn kc, .slice tp tn tc] : Array Value)[j]? := fun j => by
        rw [hB4.cell (p := ⟨wr.heap.size, j, none⟩) (by simp), World.cell?_alloc_new]
      have z0 : w4.cell? ⟨wr.heap.size, 0, none⟩ = some (.int .i64 kind) := hca 0
      have z1 : w4.cell? ⟨wr.heap.size, 1, none⟩ = some (.int .i64 on) := hca 1
      have z2 : w4.cell? ⟨wr.heap.size, 2, none⟩ = some (.int .i64 on2) := hca 2
      have z3 : w4.cell? ⟨wr.heap.size, 3, none⟩ = some (.string nm) := hca 3
      have z4 : w4.cell? ⟨wr.heap.size, 4, none⟩ = some (.string dt) := hca 4
      have z5 : w4.cell? ⟨wr.heap.size, 5, none⟩ = some (.slice kp kn kc) := hca 5
      have z6 : w4.cell? ⟨wr.heap.size, 6, none⟩ = some (.slice tp tn tc) := hca 6
      clear hca hB4 q0 q1 q2 q3 q4 q5 q6 HSM
      cases hsm : smallB ⟨kind, on, on2, nm, dt, keep, turn⟩ with
      | true =>
        have HDO := Lib.hid (does_any HX4.out HOK.out (by omega) _ HXO.out)
        have HSL := Lib.hid (does_steps (d := D) ⟨kind, on, on2, nm, dt, keep, turn⟩)
        have HOK5 := Lib.hid (HOK.out.does ⟨kind, on, on2, nm, dt, keep, turn⟩)
        clear hsm
        go_wp2_with fail
        refine HDO.out.mono ?_
        rintro e w5 ⟨rfl, hd5, hk5⟩
        have HD5 := Lib.hid hd5
        have HK5 := Lib.hid (HK4.out.trans hk5)
        clear hd5 hk5 z0 z1 z2 z3 z4 z5 z6 HDO
        go_wp2_with fail
        go_roundw
        case rel => exact ⟨i + 1, _, by omega, by go_num, HOK5.out, by have := HSL.out; omega, HD5.out, HK5.out⟩
        case measure => simp [intOf]; omega
      | false =>
        go_wp2_with fail
        go_roundw
        case rel => exact ⟨i + 1, D, by omega, by go_num, HOK.out, by omega, HX4.out, HK4.out⟩
        case measure => simp [intOf]; omega
    · obtain rfl : i = fs.length := by omega
      have HDR := Lib.hid (show DAt wr (w.heap.size + 1) w.heap.size D0 from HD3.out.kept HK.out (by omega) (by omega) (by omega) (by omega))
      have HER := Lib.hid (show DAt wr w2.heap.size (w2.heap.size + 1) D0 from HE3.out.kept HK.out (by omega) (by omega) (by omega) (by omega))
      have HBR := Lib.hid (HK.out.belowN HB3.out (by omega) (by omega) (by omega))
      clear HD HK HC3 HD3 HE3 HOK HT
      go_wp2_with fail
      refine (files_any HDR.out OK0.out).mono ?_
      rintro e w5 ⟨v5, rfl, hrow5, hB5⟩
      have hz5 := hB5.size
      have HD5 := Lib.hid (show DAt w5 (w.heap.size + 1) w.heap.size D0 from HDR.out.below hB5)
      have HE5 := Lib.hid (show DAt w5 w2.heap.size (w2.heap.size + 1) D0 from HER.out.below hB5)
      have HB5 := Lib.hid (HBR.out.trans (hB5.mono (by omega)))
      have HF5 := Lib.hid (FilesAt.of_row hrow5)
      obtain ⟨l5p, l5n, l5c, hlv⟩ := owns_slice hrow5
      subst hlv
      clear hrow5 hB5 HDR HER HBR
      go_wp2_with fail
      refine (files_any HE5.out OK0.out).mono ?_
      rintro e w6 ⟨v6, rfl, hrow6, hB6⟩
      have hz6 := hB6.size
      have HD6 := Lib.hid (show DAt w6 (w.heap.size + 1) w.heap.size D0 from HD5.out.below hB6)
      have HE6 := Lib.hid (show DAt w6 w2.heap.size (w2.heap.size + 1) D0 from HE5.out.below hB6)
      have HB6 := Lib.hid (HB5.out.trans (hB6.mono (by omega)))
      have HF6 := Lib.hid (FilesAt.of_row hrow6)
      have HG6 := Lib.hid (HF5.out.below hB6)
      obtain ⟨l6p, l6n, l6c, hlv⟩ := owns_slice hrow6
      subst hlv
      have m0 := OK0.out.many
      have HSA := Lib.hid (same_any HG6.out HF6.out m0 m0)
      clear hrow6 hB6 HD5 HE5 HB5 HF5 HG6 HF6
      go_wp2_with fail
      refine HSA.out.mono ?_
      rintro e w7 ⟨rfl, hB7⟩
      have hz7 := hB7.size
      have HD7 := Lib.hid (show DAt w7 (w.heap.size + 1) w.heap.size D0 from HD6.out.below hB7)
      have HE7 := Lib.hid (show DAt w7 w2.heap.size (w2.heap.size + 1) D0 from HE6.out.below hB7)
      have HB7 := Lib.hid (HB6.out.trans (hB7.mono (by omega)))
      clear hB7 HD6 HE6 HB6 HSA
      go_wp2_with fail
      refine (steps_any HD7.out).mono ?_
      rintro e w7' ⟨rfl, rfl⟩
      go_wp2_with fail
      refine (steps_any HE7.out).mono ?_
      rintro e w7' ⟨rfl, rfl⟩
      have HW7 := Lib.hid (HW.out.below HB7.out)
      go_wp2_with fail
      refine (cutop_any HW7.out 100 (by omega)).mono ?_
      rintro e w7' ⟨rfl, rfl⟩
      have HT := Lib.hid (HW.out.take 100)
      have hl200 : (ts.take 100).length ≤ 100 := List.length_take_le _ _
      generalize ts.take 100 = gs at *
      clear HW7 HW
      go_wp2_with fail
      have hzz : w3.heap.size ≤ w7.heap.size := by omega
      clear hz5 hz6 hz7 hzr hi hlt hsl
      go_loopw [71] (fun iv wr => ∃ (i : Nat) (D : Dk), i ≤ gs.length ∧ iv = .int .i64 (i : Int) ∧ D.Ok ∧ D.steps ≤ 200 + i ∧ DAt wr (w.heap.size + 1) w.heap.size D ∧ DAt wr w2.heap.size (w2.heap.size + 1) D ∧ Below w.heap.size w wr ∧ w3.heap.size ≤ wr.heap.size)
        (fun iv _ => gs.length - (intOf iv).toNat)
      case atStart => exact ⟨0, D0, Nat.zero_le _, rfl, OK0.out, hstb, HD7.out, HE7.out, HB7.out, hzz⟩
      case round =>
        obtain ⟨i, D, hi, rfl, hok, hsl, hd, he, hb, hzr⟩ := hrel
        have HOK := Lib.hid hok
        have HD := Lib.hid hd
        have HF := Lib.hid he
        have HB := Lib.hid hb
        clear hd he hb hok HD7 HE7 HB7
        by_cases hlt : i < gs.length
        · obtain ⟨x, hx⟩ : ∃ x, gs[i]? = some x := ⟨gs[i], List.getElem?_eq_getElem hlt⟩
          obtain ⟨hxo, -, g, o, rfl, hg, q0, q1, q2, q3, q4, q5, q6⟩ := (HT.out.below HB.out).get hx
          have HXO := Lib.hid hxo
          obtain ⟨xo, xk, xt⟩ := x
          obtain ⟨kp, kn, kc, hxk⟩ := hxo.k1
          obtain ⟨tp, tn, tc, hxt⟩ := hxo.t1
          simp only at hxk hxt
          subst hxk hxt
          obtain ⟨kind, on, on2, nm, dt, keep, turn⟩ := xo
          simp only at q0 q1 q2 q3 q4 q5 q6
          clear hx hxo
          have HSM := Lib.hid (fun wx => small_any _ HXO.out wx)
          go_upto_region 21 with fail
          have hba := HB.out.alloc (by omega) (.cells #[.int .i64 kind, .int .i64 on, .int .i64 on2, .string nm, .string dt, .slice kp kn kc, .slice tp tn tc] 49)
          have hda := HD.out.alloc (.cells #[.int .i64 kind, .int .i64 on, .int .i64 on2, .string nm, .string dt, .slice kp kn kc, .slice tp tn tc] 49)
          have hfa := HF.out.alloc (.cells #[.int .i64 kind, .int .i64 on, .int .i64 on2, .string nm, .string dt, .slice kp kn kc, .slice tp tn tc] 49)
          obtain ⟨-, hza, hca⟩ := boxes1 wr #[.int .i64 kind, .int .i64 on, .int .i64 on2, .string nm, .string dt, .slice kp kn kc, .slice tp tn tc] 49
          have hltd := HD.out.lt
          have hltf := HF.out.lt
          have hltm := HF.out.ltm
          have hltm2 := HD.out.ltm
          generalize wr.alloc (.cells #[.int .i64 kind, .int .i64 on, .int .i64 on2, .string nm, .string dt, .slice kp kn kc, .slice tp tn tc] 49) = wa at *
          have HBA := Lib.hid hba
          have HDA := Lib.hid (show DAt wa (w.heap.size + 1) w.heap.size D from hda)
          have HFA := Lib.hid (show DAt wa w2.heap.size (w2.heap.size + 1) D from hfa)
          have hzb : wr.heap.size < wa.heap.size := by omega
          have z0 : wa.cell? ⟨wr.heap.size, 0, none⟩ = some (.int .i64 kind) := hca 0
          have z1 : wa.cell? ⟨wr.heap.size, 1, none⟩ = some (.int .i64 on) := hca 1
          have z2 : wa.cell? ⟨wr.heap.size, 2, none⟩ = some (.int .i64 on2) := hca 2
          have z3 : wa.cell? ⟨wr.heap.size, 3, none⟩ = some (.string nm) := hca 3
          have z4 : wa.cell? ⟨wr.heap.size, 4, none⟩ = some (.string dt) := hca 4
          have z5 : wa.cell? ⟨wr.heap.size, 5, none⟩ = some (.slice kp kn kc) := hca 5
          have z6 : wa.cell? ⟨wr.heap.size, 6, none⟩ = some (.slice tp tn tc) := hca 6
          clear hba hda hfa hza hca q0 q1 q2 q3 q4 q5 q6 HD HF HB
          have hsb : D.steps < 4611686018427387904 := by omega
          have HSB := Lib.hid hsb
          clear hsb
          cases hsm : smallB ⟨kind, on, on2, nm, dt, keep, turn⟩ with
          | false =>
            have HSF : Hid (∀ wx : World, _) := Lib.hid fun wx => by
              have h9 := HSM.out wx
              rw [hsm] at h9
              exact h9
            clear hsm HSM
            have q0 : ∀ (u : GW (fun w' => Below wa.heap.size wa w')), u.w.cell? ⟨wr.heap.size, 0, none⟩ = some (.int .i64 kind) := fun u => by rw [u.h.cell (p := ⟨wr.heap.size, 0, none⟩) (by show wr.heap.size < _; omega)]; exact z0
            have q1 : ∀ (u : GW (fun w' => Below wa.heap.size wa w')), u.w.cell? ⟨wr.heap.size, 1, none⟩ = some (.int .i64 on) := fun u => by rw [u.h.cell (p := ⟨wr.heap.size, 1, none⟩) (by show wr.heap.size < _; omega)]; exact z1
            have q2 : ∀ (u : GW (fun w' => Below wa.heap.size wa w')), u.w.cell? ⟨wr.heap.size, 2, none⟩ = some (.int .i64 on2) := fun u => by rw [u.h.cell (p := ⟨wr.heap.size, 2, none⟩) (by show wr.heap.size < _; omega)]; exact z2
            have q3 : ∀ (u : GW (fun w' => Below wa.heap.size wa w')), u.w.cell? ⟨wr.heap.size, 3, none⟩ = some (.string nm) := fun u => by rw [u.h.cell (p := ⟨wr.heap.size, 3, none⟩) (by show wr.heap.size < _; omega)]; exact z3
            have q4 : ∀ (u : GW (fun w' => Below wa.heap.size wa w')), u.w.cell? ⟨wr.heap.size, 4, none⟩ = some (.string dt) := fun u => by rw [u.h.cell (p := ⟨wr.heap.size, 4, none⟩) (by show wr.heap.size < _; omega)]; exact z4
            have q5 : ∀ (u : GW (fun w' => Below wa.heap.size wa w')), u.w.cell? ⟨wr.heap.size, 5, none⟩ = some (.slice kp kn kc) := fun u => by rw [u.h.cell (p := ⟨wr.heap.size, 5, none⟩) (by show wr.heap.size < _; omega)]; exact z5
            have q6 : ∀ (u : GW (fun w' => Below wa.heap.size wa w')), u.w.cell? ⟨wr.heap.size, 6, none⟩ = some (.slice tp tn tc) := fun u => by rw [u.h.cell (p := ⟨wr.heap.size, 6, none⟩) (by show wr.heap.size < _; omega)]; exact z6
            have hne := GW.ne (Inv := fun w' => Below wa.heap.size wa w') (Below.refl _ _)
            clear z0 z1 z2 z3 z4 z5 z6
            refine wp_region_grow (fun w' => Below wa.heap.size wa w') (by kernel_rfl) (by kernel_rfl) (Below.refl _ _).drew ?_
            repeat (go_big_quiet_step ((go_at_call 25; refine (HSF.out _).mono ?_; rintro e w1 ⟨rfl, hb⟩; exact ⟨rfl, below_next _ hb⟩)))
            refine wpQuiet_nil ?_
            intro _ hw'
            obtain ⟨⟨w4, h4⟩, hw''⟩ := hw'
            subst hw''
            have HB4 := Lib.hid h4
            have hz4 := h4.size
            clear h4 q0 q1 q2 q3 q4 q5 q6 hne
            go_wp2_with fail
            go_roundw
            case rel => exact ⟨i + 1, D, by omega, by go_num, HOK.out, by omega, HDA.out.below HB4.out, HFA.out.below HB4.out, HBA.out.trans (HB4.out.mono (by omega)), by omega⟩
            case measure => simp [intOf]; omega
          | true =>
            have HSF : Hid (∀ wx : World, _) := Lib.hid fun wx => by
              have h9 := HSM.out wx
              rw [hsm] at h9
              exact h9
            have HSL := Lib.hid (does_steps (d := D) ⟨kind, on, on2, nm, dt, keep, turn⟩)
            have HOK5 := Lib.hid (HOK.out.does ⟨kind, on, on2, nm, dt, keep, turn⟩)
            have HDO := Lib.hid (show ∀ (wx : World) (b m : Nat), DAt wx b m D → Calls Try.prog 26 #[.pointer (some ⟨b, 0, none⟩), .agg #[.int .i64 kind, .int .i64 on, .int .i64 on2, .string nm, .string dt, .slice kp kn kc, .slice tp tn tc]] wx fun e w' => e = .returned (.int .i64 (doesD D ⟨kind, on, on2, nm, dt, keep, turn⟩).1) ∧ DAt w' b m (doesD D ⟨kind, on, on2, nm, dt, keep, turn⟩).2 ∧ Kp b m wx w' from fun wx b m h => does_any h HOK.out HSB.out _ HXO.out)
            clear hsm HSM
            go_region_held3 (fun w' => ∀ j, w'.cell? ⟨wr.heap.size, j, none⟩ = wa.cell? ⟨wr.heap.size, j, none⟩) ((first | assumption | (intro j; rfl)))
              (first
                | (go_at_call 25; refine (HSF.out _).mono ?_; rintro e w4 ⟨rfl, hB4⟩; have k4 : ∀ j, w4.cell? ⟨wr.heap.size, j, none⟩ = wa.cell? ⟨wr.heap.size, j, none⟩ := fun j => (hB4.cell (p := ⟨wr.heap.size, j, none⟩) hzb).trans rfl; have HX4 := Lib.hid (show DAt w4 (w.heap.size + 1) w.heap.size D from HDA.out.drew.below hB4); have HF4 := Lib.hid (show DAt w4 w2.heap.size (w2.heap.size + 1) D from HFA.out.drew.below hB4); have HB4 := Lib.hid (HBA.out.drew.trans (hB4.mono (Nat.le_trans (Nat.le_of_lt (by omega)) (Nat.le_refl wa.heap.size)))); have hz4 : wa.heap.size ≤ w4.heap.size := hB4.size; clear hB4)
                | (go_at_call 26; (with_reducible refine (HDO.out _ _ _ HX4.out).mono ?_); rintro e w5 ⟨rfl, hd5, hk5⟩; have k5 : ∀ j, w5.cell? ⟨wr.heap.size, j, none⟩ = wa.cell? ⟨wr.heap.size, j, none⟩ := fun j => (hk5.cell (by omega) (by omega) (by omega) j).trans (k4 j); have HX5 := Lib.hid hd5; have HF5 := Lib.hid (show DAt w5 w2.heap.size (w2.heap.size + 1) D from HF4.out.kept hk5 (by omega) (by omega) (by omega) (by omega)); have HB5 := Lib.hid (hk5.belowN HB4.out (by omega) (by omega) (by omega)); have hz5 : w4.heap.size ≤ w5.heap.size := hk5.size; clear hd5 hk5)
                | (go_at_call 26; (with_reducible refine (HDO.out _ _ _ HF5.out).mono ?_); rintro e w6 ⟨rfl, hd6, hk6⟩; have k6 : ∀ j, w6.cell? ⟨wr.heap.size, j, none⟩ = wa.cell? ⟨wr.heap.size, j, none⟩ := fun j => (hk6.cell (by omega) (by omega) (by omega) j).trans (k5 j); have HF6 := Lib.hid hd6; have HX6 := Lib.hid (HX5.out.kept hk6 (by omega) (by omega) (by omega) (by omega)); have HB6 := Lib.hid (hk6.belowN HB5.out (by omega) (by omega) (by omega)); have hz6 : w5.heap.size ≤ w6.heap.size := hk6.size; clear hd6 hk6))
            have HX7 := Lib.hid (show DAt w6 (w.heap.size + 1) w.heap.size (doesD D ⟨kind, on, on2, nm, dt, keep, turn⟩).2 from HX6.out)
            clear z0 z1 z2 z3 z4 z5 z6 k4 k5 k6 HSF HDO HX4 HX5 HX6 HF4 HF5 HB4 HB5
            go_wp2_with fail
            go_roundw
            case rel => exact ⟨i + 1, _, by omega, by go_num, HOK5.out, by have := HSL.out; omega, HX7.out, HF6.out, HB6.out, by omega⟩
            case measure => simp [intOf]; omega
        · obtain rfl : i = gs.length := by omega
          have m1 := HOK.out.many
          go_wp2_with fail
          refine (files_any HD.out HOK.out).mono ?_
          rintro e w5 ⟨v5, rfl, hrow5, hB5⟩
          have hz5 := hB5.size
          have HE5 := Lib.hid (show DAt w5 w2.heap.size (w2.heap.size + 1) D from HF.out.below hB5)
          have HD5 := Lib.hid (show DAt w5 (w.heap.size + 1) w.heap.size D from HD.out.below hB5)
          have HB5 := Lib.hid (HB.out.trans (hB5.mono (by omega)))
          have HF5 := Lib.hid (FilesAt.of_row hrow5)
          obtain ⟨l5p, l5n, l5c, hlv⟩ := owns_slice hrow5
          subst hlv
          clear hrow5 hB5
          go_wp2_with fail
          refine (files_any HE5.out HOK.out).mono ?_
          rintro e w6 ⟨v6, rfl, hrow6, hB6⟩
          have hz6 := hB6.size
          have HD6 := Lib.hid (show DAt w6 (w.heap.size + 1) w.heap.size D from HD5.out.below hB6)
          have HE6 := Lib.hid (show DAt w6 w2.heap.size (w2.heap.size + 1) D from HE5.out.below hB6)
          have HB6 := Lib.hid (HB5.out.trans (hB6.mono (by omega)))
          have HF6 := Lib.hid (FilesAt.of_row hrow6)
          have HG6 := Lib.hid (HF5.out.below hB6)
          obtain ⟨l6p, l6n, l6c, hlv⟩ := owns_slice hrow6
          subst hlv
          have HSA := Lib.hid (same_any HG6.out HF6.out m1 m1)
          clear hrow6 hB6
          go_wp2_with fail
          refine HSA.out.mono ?_
          rintro e w8 ⟨rfl, hB8⟩
          have HD8 := Lib.hid (show DAt w8 (w.heap.size + 1) w.heap.size D from HD6.out.below hB8)
          have HE8 := Lib.hid (show DAt w8 w2.heap.size (w2.heap.size + 1) D from HE6.out.below hB8)
          have HB8 := Lib.hid (HB6.out.trans (hB8.mono (by omega)))
          clear hB8 HSA
          go_wp2_with fail
          refine (steps_any HD8.out).mono ?_
          rintro e w8' ⟨rfl, rfl⟩
          go_wp2_with fail
          refine (steps_any HE8.out).mono ?_
          rintro e w8' ⟨rfl, rfl⟩
          go_wp2_with fail
          go_ret
          exact ⟨rfl, HB8.out⟩
end Go.Proofs.Ytcjhkonjlhpmhaa

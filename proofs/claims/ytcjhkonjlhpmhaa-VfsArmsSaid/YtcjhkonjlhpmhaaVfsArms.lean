/- The walk of VfsArms: it answers true. -/
import Derived.Test.YtcjhkonjlhpmhaaVfsPlayed
import Derived.Test.YtcjhkonjlhpmhaaVfsSame
namespace Go.Proofs.Ytcjhkonjlhpmhaa
open Go.RowKit Go.Maps

theorem arm_cases {d : Dk} {n s0 : Nat} (h : ArmR d n s0) {o : Opn} (h1 : 1 ≤ o.kind) (h6 : o.kind ≤ 6) :
    (d.off = true ∧ (doesD d o).1 = 143 ∧ (doesD d o).2.off = true ∧ (doesD d o).2.steps = d.steps ∧ (doesD d o).2.L = d.L) ∨
    (d.off = false ∧ (doesD d o).1 = 0 ∧ (doesD d o).2.off = false ∧ (doesD d o).2.steps = d.steps + 1 ∧ ¬ (n : Int) < ((doesD d o).2.steps : Int) - (s0 : Int)) ∨
    (d.off = false ∧ (doesD d o).1 = 143 ∧ (doesD d o).2.off = true ∧ ((doesD d o).2.steps : Int) - (s0 : Int) = (n : Int) ∧ (doesD d o).2.L = d.L) ∨
    (d.off = false ∧ (doesD d o).1 ≠ 0 ∧ (doesD d o).1 ≠ 143 ∧ (doesD d o).2.off = false ∧ (doesD d o).2.steps = d.steps ∧ (doesD d o).2.L = d.L) := by
  obtain ⟨ha, hk⟩ := h.step h1 h6
  have hf := ha.off
  unfold armOk at hk
  simp only [] at hk
  generalize (doesD d o).1 = f at *
  generalize (doesD d o).2 = D' at *
  by_cases hoff : d.off = true
  · left
    simp only [hoff, if_true, Bool.and_eq_true, beq_iff_eq] at hk
    exact ⟨hoff, hk.1, hk.2.1, hk.2.2.1, hk.2.2.2⟩
  · have hoff' : d.off = false := by simpa using hoff
    right
    simp only [hoff', Bool.false_eq_true, if_false] at hk
    by_cases h0 : f = 0
    · left
      simp only [h0, beq_self_eq_true, if_true, Bool.and_eq_true, beq_iff_eq, decide_eq_true_eq, Bool.not_eq_true'] at hk
      exact ⟨hoff', h0, hk.2.2, hk.1, by have := hk.2.1; omega⟩
    · right
      by_cases h3 : f = 143
      · left
        subst h3
        simp at hk
        have := hf hk.1
        exact ⟨hoff', rfl, hk.1, by omega, hk.2.2⟩
      · right
        have e0 : (f == 0) = false := by simpa using h0
        have e3 : (f == 143) = false := by simpa using h3
        simp only [e0, e3, Bool.false_eq_true, if_false, Bool.and_eq_true, beq_iff_eq, Bool.not_eq_true'] at hk
        exact ⟨hoff', h0, h3, hk.1, hk.2.1, hk.2.2⟩
theorem arm_same (d : Dk) (n : Int) : (d.arm n).steps = d.steps ∧ (d.arm n).L = d.L := by
  unfold Dk.arm
  split <;> exact ⟨rfl, rfl⟩

set_option maxRecDepth 100000 in
set_option maxHeartbeats 8000000 in
theorem arms_bad (r : Int) (n : Int) (p p' : Option Addr) (l c l' c' : Nat) (w : World) (hr : r < 0 ∨ 4194304 < r ∨ n < 0) :
    Calls Try.prog 6 #[.int .i64 r, .slice p l c, .int .i64 n, .slice p' l' c'] w fun e w' => e = .returned (.bool true) ∧ Below w.heap.size w w' := by
  rcases (by omega : r < 0 ∨ (0 ≤ r ∧ 4194304 < r) ∨ (0 ≤ r ∧ r ≤ 4194304 ∧ n < 0)) with hr | ⟨hr0, hr⟩ | ⟨hr0, hr, hn⟩
  · go_enter Try.func6, Try.ntmps6
    go_wp2_with fail
    refine (known_any _).mono ?_
    rintro e w1 ⟨rfl, hB⟩
    have HBB := Lib.hid hB
    clear hB
    go_wp2_with fail
    go_ret
    exact ⟨rfl, HBB.out⟩
  · go_enter Try.func6, Try.ntmps6
    go_wp2_with fail
    refine (known_any _).mono ?_
    rintro e w1 ⟨rfl, hB⟩
    have HBB := Lib.hid hB
    clear hB
    go_wp2_with fail
    go_ret
    exact ⟨rfl, HBB.out⟩
  · go_enter Try.func6, Try.ntmps6
    go_wp2_with fail
    refine (known_any _).mono ?_
    rintro e w1 ⟨rfl, hB⟩
    have HBB := Lib.hid hB
    clear hB
    go_wp2_with fail
    go_ret
    exact ⟨rfl, HBB.out⟩

set_option maxRecDepth 100000 in
set_option maxHeartbeats 16000000 in
theorem arms_walk (r : Nat) (hr : r ≤ 4194304) (n : Nat) (hn : n < 9223372036854775808) (p p' : Option Addr) (l c l' c' : Nat) (es ms : List OpE) (w : World) (hes : OpsAt w.heap.size w (.slice p l c) es) (hms : OpsAt w.heap.size w (.slice p' l' c') ms) :
    Calls Try.prog 6 #[.int .i64 (r : Int), .slice p l c, .int .i64 (n : Int), .slice p' l' c'] w fun e w' => e = .returned (.bool true) ∧ Below w.heap.size w w' := by
  have HE := Lib.hid hes
  have HM := Lib.hid hms
  have OK0 := Lib.hid ((Dk.Ok.new hr).play ((es.take 200).map OpE.o))
  have ON0 := Lib.hid (play_on (d := Dk.new r) rfl rfl ((es.take 200).map OpE.o)).1
  have hst := play_steps (Dk.new r) ((es.take 200).map OpE.o)
  have hst2 : ((es.take 200).map OpE.o).length ≤ 200 := by rw [List.length_map, List.length_take]; omega
  have hst0 : (Dk.new r).steps = 0 := rfl
  have hstb : (playD (Dk.new r) ((es.take 200).map OpE.o)).steps ≤ 200 := by omega
  clear hes hms hst hst2 hst0
  have hnn : ¬ (n : Int) < 0 := by omega
  go_enter Try.func6, Try.ntmps6
  go_wp2_with fail
  refine (played_any r hr (Nat.le_refl _) HE.out).mono ?_
  rintro e w0 ⟨rfl, hd0, hB0, hz0⟩
  generalize playD (Dk.new r) ((es.take 200).map OpE.o) = D0 at *
  have HD0 := Lib.hid hd0
  have HB0 := Lib.hid hB0
  clear hd0 hB0 HE
  go_wp2_with fail
  refine (known_any w0).mono ?_
  rintro e w1 ⟨rfl, hB1⟩
  have hz1 := hB1.size
  have HD1 := Lib.hid (HD0.out.below hB1)
  have HB1 := Lib.hid (HB0.out.trans (hB1.mono (by omega)))
  clear hB1 HD0 HB0
  go_wp2_with fail
  refine (arm_any HD1.out (n : Int)).mono ?_
  rintro e w2 ⟨rfl, hd2, hk2⟩
  have hz2 := hk2.size
  have HR2 := Lib.hid (ArmR.start ON0.out n)
  have HOK2 := Lib.hid (OK0.out.arm (n := (n : Int)) (by omega))
  have hs2 : (D0.arm (n : Int)).steps = D0.steps := (arm_same D0 n).1
  have HD2 := Lib.hid hd2
  have HB2 := Lib.hid (hk2.belowN HB1.out (by omega) (by omega) (by omega))
  clear hd2 hk2 HD1 HB1 OK0 ON0
  generalize D0.steps = s0 at *
  generalize D0.arm (n : Int) = D2 at *
  go_wp2_with fail
  refine (steps_any HD2.out).mono ?_
  rintro e w2' ⟨rfl, rfl⟩
  rw [hs2]
  have HO2 := Lib.hid (HM.out.below HB2.out)
  go_wp2_with fail
  refine (cutop_any HO2.out 200 (by omega)).mono ?_
  rintro e w2' ⟨rfl, rfl⟩
  have HT := Lib.hid (HO2.out.take 200)
  have hl200 : (ms.take 200).length ≤ 200 := List.length_take_le _ _
  generalize ms.take 200 = fs at *
  clear HM HO2
  go_wp2_with fail
  go_loopw [46] (fun iv wr => ∃ (i : Nat) (D : Dk), i ≤ fs.length ∧ iv = .int .i64 (i : Int) ∧ D.Ok ∧ ArmR D n s0 ∧ D.steps ≤ 200 + i ∧ DAt wr (w.heap.size + 1) w.heap.size D ∧ Kp (w.heap.size + 1) w.heap.size w2 wr)
    (fun iv _ => fs.length - (intOf iv).toNat)
  case atStart => exact ⟨0, D2, Nat.zero_le _, rfl, HOK2.out, HR2.out, by omega, HD2.out, Kp.refl _ _ _⟩
  case round =>
    obtain ⟨i, D, hi, rfl, hok, har, hsl, hd, hk⟩ := hrel
    have HOK := Lib.hid hok
    have HAR := Lib.hid har
    have HD := Lib.hid hd
    have HK := Lib.hid hk
    have hzr := hk.size
    have hlb := hd.lt
    clear hd hk hok har HOK2 HR2 hs2
    by_cases hlt : i < fs.length
    · obtain ⟨x, hx⟩ : ∃ x, fs[i]? = some x := ⟨fs[i], List.getElem?_eq_getElem hlt⟩
      obtain ⟨hxo, -, g, o, rfl, hg, q0, q1, q2, q3, q4, q5, q6⟩ := (HT.out.below (HK.out.belowN (Below.refl w.heap.size w2) (by omega) (by omega) (by omega))).get hx
      have HXO := Lib.hid hxo
      obtain ⟨xo, xk, xt⟩ := x
      obtain ⟨kp, kn, kc, hxk⟩ := hxo.k1
      obtain ⟨tp, tn, tc, hxt⟩ := hxo.t1
      simp only at hxk hxt
      subst hxk hxt
      obtain ⟨kind, on, on2, nm, dt, keep, turn⟩ := xo
      simp only at q0 q1 q2 q3 q4 q5 q6
      clear hx hxo
      have HSM := Lib.hid (fun wx => small_any _ HXO.out wx)
      go_wp2_with fail
      refine (HSM.out _).mono ?_
      rintro e w3 ⟨rfl, hB3⟩
      have HX3 := Lib.hid ((HD.out.alloc (.cells #[.int .i64 kind, .int .i64 on, .int .i64 on2, .string nm, .string dt, .slice kp kn kc, .slice tp tn tc] 49)).below hB3)
      have HK3 := Lib.hid ((HK.out.alloc (.cells #[.int .i64 kind, .int .i64 on, .int .i64 on2, .string nm, .string dt, .slice kp kn kc, .slice tp tn tc] 49)).step hB3)
      have hz3 := hB3.size
      have hz3' : wr.heap.size < w3.heap.size := by simp at hz3; omega
      clear hz3
      have hca : ∀ j, w3.cell? ⟨wr.heap.size, j, none⟩ = (#[.int .i64 kind, .int .i64 on, .int .i64 on2, .string nm, .string dt, .slice kp kn kc, .slice tp tn tc] : Array Value)[j]? := fun j => by
        rw [hB3.cell (p := ⟨wr.heap.size, j, none⟩) (by simp), World.cell?_alloc_new]
      have HZ3 := Lib.hid hca
      have z0 : w3.cell? ⟨wr.heap.size, 0, none⟩ = some (.int .i64 kind) := hca 0
      clear hca hB3 q0 q1 q2 q3 q4 q5 q6 HSM
      by_cases hgood : smallB ⟨kind, on, on2, nm, dt, keep, turn⟩ = true ∧ 1 ≤ kind ∧ kind ≤ 6
      · obtain ⟨hsm, hk1, hk6⟩ := hgood
        have HCS := Lib.hid (arm_cases HAR.out (o := ⟨kind, on, on2, nm, dt, keep, turn⟩) hk1 hk6)
        have HAR4 := Lib.hid (HAR.out.step (o := ⟨kind, on, on2, nm, dt, keep, turn⟩) hk1 hk6).1
        have HOK4 := Lib.hid (HOK.out.does ⟨kind, on, on2, nm, dt, keep, turn⟩)
        have hsl4 := does_steps (d := D) ⟨kind, on, on2, nm, dt, keep, turn⟩
        have c1 : ¬ kind < 1 := by omega
        have c2 : ¬ 6 < kind := by omega
        clear hk1 hk6
        go_upto_region 12 with fail
        clear c1 c2 hsm
        go_wp2_with fail
        refine (files_any HX3.out HOK.out).mono ?_
        rintro e w4 ⟨v4, rfl, hrow4, hB4⟩
        have HR4 := Lib.hid hrow4
        have HD4 := Lib.hid (HX3.out.below hB4)
        have HK4 := Lib.hid (HK3.out.step hB4)
        have hz4 := hB4.size
        have hca : ∀ j, w4.cell? ⟨wr.heap.size, j, none⟩ = (#[.int .i64 kind, .int .i64 on, .int .i64 on2, .string nm, .string dt, .slice kp kn kc, .slice tp tn tc] : Array Value)[j]? := fun j => by
          rw [hB4.cell (p := ⟨wr.heap.size, j, none⟩) hz3']; exact HZ3.out j
        obtain ⟨l4p, l4n, l4c, hlv⟩ := owns_slice hrow4
        subst hlv
        clear hrow4 hB4 HX3 HK3 z0
        have z0 : w4.cell? ⟨wr.heap.size, 0, none⟩ = some (.int .i64 kind) := hca 0
        have z1 : w4.cell? ⟨wr.heap.size, 1, none⟩ = some (.int .i64 on) := hca 1
        have z2 : w4.cell? ⟨wr.heap.size, 2, none⟩ = some (.int .i64 on2) := hca 2
        have z3 : w4.cell? ⟨wr.heap.size, 3, none⟩ = some (.string nm) := hca 3
        have z4 : w4.cell? ⟨wr.heap.size, 4, none⟩ = some (.string dt) := hca 4
        have z5 : w4.cell? ⟨wr.heap.size, 5, none⟩ = some (.slice kp kn kc) := hca 5
        have z6 : w4.cell? ⟨wr.heap.size, 6, none⟩ = some (.slice tp tn tc) := hca 6
        clear hca HZ3
        go_wp2_with fail
        refine (steps_any HD4.out).mono ?_
        rintro e w4' ⟨rfl, rfl⟩
        go_wp2_with fail
        refine (on_any HD4.out).mono ?_
        rintro e w4' ⟨rfl, rfl⟩
        have HDO := Lib.hid (does_any HD4.out HOK.out (by omega) _ HXO.out)
        go_wp2_with fail
        refine HDO.out.mono ?_
        rintro e w5 ⟨rfl, hd5, hk5⟩
        have hz5 := hk5.size
        have HD5 := Lib.hid hd5
        have HK5 := Lib.hid (HK4.out.trans hk5)
        have HF5 := Lib.hid (FilesAt.kept HR4.out (by omega) (by omega) hk5)
        clear hd5 hk5 z0 z1 z2 z3 z4 z5 z6 HDO HR4
        have hcs := HCS.out
        generalize (doesD D ⟨kind, on, on2, nm, dt, keep, turn⟩).2 = D' at *
        generalize (doesD D ⟨kind, on, on2, nm, dt, keep, turn⟩).1 = f at *
        have HCS := Lib.hid hcs
        clear hcs
        go_wp2_with fail
        refine (files_any HD5.out HOK4.out).mono ?_
        rintro e w6 ⟨v6, rfl, hrow6, hB6⟩
        have HF6 := Lib.hid (FilesAt.of_row hrow6)
        have HD6 := Lib.hid (show DAt w6 (w.heap.size + 1) w.heap.size D' from HD5.out.below hB6)
        have HK6 := Lib.hid (HK5.out.step hB6)
        have HE6 := Lib.hid (HF5.out.below hB6)
        have hz6 := hB6.size
        obtain ⟨l6p, l6n, l6c, hlv⟩ := owns_slice hrow6
        subst hlv
        clear hrow6 hB6 HD5 HK5 HF5 HD4 HK4 HD HK
        have m0 := HOK.out.many
        have m1 := HOK4.out.many
        have HSA := Lib.hid (same_any HE6.out HF6.out m0 m1)
        have HSL := Lib.hid hsl4
        clear HE6 HF6 hsl4
        generalize hsd : D.steps = sd at *
        generalize hsd' : D'.steps = sd' at *
        generalize hle : D.L.length = len0 at *
        generalize hle' : D'.L.length = len1 at *
        have HG := Lib.hid (And.intro hsd' (And.intro hle hle'))
        clear hsd hle hle'
        rcases HCS.out with ⟨e0, e1, e2, e3, e4⟩ | ⟨e0, e1, e2, e3, e4⟩ | ⟨e0, e1, e2, e3, e4⟩ | ⟨e0, e1, e1', e2, e3, e4⟩
        · subst e1
          have HEQ := Lib.hid (show decide (D.L = D'.L) = true by rw [e4]; exact decide_eq_true rfl)
          clear e4
          subst e3
          rw [e0]
          go_wp2_with fail
          refine (on_any HD6.out).mono ?_
          rintro e w6' ⟨rfl, rfl⟩
          go_wp2_with fail
          refine (steps_any HD6.out).mono ?_
          rintro e w6' ⟨rfl, rfl⟩
          rw [HG.out.1]
          go_wp2_with fail
          refine HSA.out.mono ?_
          rintro e w7 ⟨rfl, hB7⟩
          have hz7 := hB7.size
          have HD7 := Lib.hid (HD6.out.below hB7)
          have HK7 := Lib.hid (HK6.out.step hB7)
          rw [HEQ.out]
          clear hB7
          go_wp2_with fail
          go_roundw
          case rel => exact ⟨i + 1, D', by omega, by go_num, HOK4.out, HAR4.out, by rw [HG.out.1]; have := HSL.out; omega, HD7.out, HK7.out⟩
          case measure => simp [intOf]; omega
        · subst e1
          subst e3
          rw [e0]
          go_wp2_with fail
          refine (steps_any HD6.out).mono ?_
          rintro e w6' ⟨rfl, rfl⟩
          rw [HG.out.1]
          go_wp2_with fail
          refine (steps_any HD6.out).mono ?_
          rintro e w6' ⟨rfl, rfl⟩
          rw [HG.out.1]
          go_wp2_with fail
          refine (on_any HD6.out).mono ?_
          rintro e w6' ⟨rfl, rfl⟩
          go_wp2_with fail
          go_roundw
          case rel => exact ⟨i + 1, D', by omega, by go_num, HOK4.out, HAR4.out, by rw [HG.out.1]; have := HSL.out; omega, HD6.out, HK6.out⟩
          case measure => simp [intOf]; omega
        · subst e1
          have HEQ := Lib.hid (show decide (D.L = D'.L) = true by rw [e4]; exact decide_eq_true rfl)
          clear e4
          rw [e0]
          go_wp2_with fail
          refine (on_any HD6.out).mono ?_
          rintro e w6' ⟨rfl, rfl⟩
          go_wp2_with fail
          refine (steps_any HD6.out).mono ?_
          rintro e w6' ⟨rfl, rfl⟩
          rw [HG.out.1]
          go_wp2_with fail
          refine HSA.out.mono ?_
          rintro e w7 ⟨rfl, hB7⟩
          have hz7 := hB7.size
          have HD7 := Lib.hid (HD6.out.below hB7)
          have HK7 := Lib.hid (HK6.out.step hB7)
          rw [HEQ.out]
          clear hB7
          go_wp2_with fail
          go_roundw
          case rel => exact ⟨i + 1, D', by omega, by go_num, HOK4.out, HAR4.out, by rw [HG.out.1]; have := HSL.out; omega, HD7.out, HK7.out⟩
          case measure => simp [intOf]; omega
        · have HEQ := Lib.hid (show decide (D.L = D'.L) = true by rw [e4]; exact decide_eq_true rfl)
          clear e4
          have c0 : (f == 0) = false := by simpa using e1
          have c1 : (f == 143) = false := by simpa using e1'
          clear e1 e1'
          subst e3
          rw [e0]
          go_wp2_with fail
          refine (on_any HD6.out).mono ?_
          rintro e w6' ⟨rfl, rfl⟩
          go_wp2_with fail
          refine (steps_any HD6.out).mono ?_
          rintro e w6' ⟨rfl, rfl⟩
          rw [HG.out.1]
          go_wp2_with fail
          refine HSA.out.mono ?_
          rintro e w7 ⟨rfl, hB7⟩
          have hz7 := hB7.size
          have HD7 := Lib.hid (HD6.out.below hB7)
          have HK7 := Lib.hid (HK6.out.step hB7)
          rw [HEQ.out]
          clear hB7
          go_wp2_with fail
          go_roundw
          case rel => exact ⟨i + 1, D', by omega, by go_num, HOK4.out, HAR4.out, by rw [HG.out.1]; have := HSL.out; omega, HD7.out, HK7.out⟩
          case measure => simp [intOf]; omega
      · have HNG := Lib.hid hgood
        clear hgood
        cases hsm : smallB ⟨kind, on, on2, nm, dt, keep, turn⟩ with
        | false =>
          go_wp2_with fail
          go_roundw
          case rel => exact ⟨i + 1, D, by omega, by go_num, HOK.out, HAR.out, by omega, HX3.out, HK3.out⟩
          case measure => simp [intOf]; omega
        | true =>
          rcases (by have := HNG.out; simp only [hsm, true_and] at this; omega : kind < 1 ∨ (¬ kind < 1 ∧ 6 < kind)) with c1 | ⟨c1, c2⟩
          · go_wp2_with fail
            go_roundw
            case rel => exact ⟨i + 1, D, by omega, by go_num, HOK.out, HAR.out, by omega, HX3.out, HK3.out⟩
            case measure => simp [intOf]; omega
          · go_wp2_with fail
            go_roundw
            case rel => exact ⟨i + 1, D, by omega, by go_num, HOK.out, HAR.out, by omega, HX3.out, HK3.out⟩
            case measure => simp [intOf]; omega
    · obtain rfl : i = fs.length := by omega
      have HC := Lib.hid (crash_any (kv := .slice none 0 0) (tv := .slice none 0 0) (keep := []) (turn := []) HD.out HOK.out ⟨none, 0, rfl, by simp, .inl rfl⟩ ⟨none, 0, rfl, by simp, .inl rfl⟩ (by simp) (by simp))
      go_wp2_with fail
      refine HC.out.mono ?_
      rintro e w8 ⟨rfl, hd8, hk8⟩
      have HD8 := Lib.hid hd8
      have HK8 := Lib.hid (HK.out.trans hk8)
      clear hd8 hk8
      go_wp2_with fail
      refine (on_any HD8.out).mono ?_
      rintro e w8' ⟨rfl, rfl⟩
      go_wp2_with fail
      go_ret
      exact ⟨rfl, HK8.out.belowN HB2.out (by omega) (by omega) (by omega)⟩
end Go.Proofs.Ytcjhkonjlhpmhaa

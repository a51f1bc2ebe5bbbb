/- The walk of VfsSafe: it answers true. -/
import Derived.Test.YtcjhkonjlhpmhaaVfsPlayed
import Derived.Test.YtcjhkonjlhpmhaaVfsSame
import Derived.Test.YtcjhkonjlhpmhaaVfsUnl
import Derived.Test.YtcjhkonjlhpmhaaVfsSafeL
import Derived.Test.YtcjhkonjlhpmhaaKeep
namespace Go.Proofs.Ytcjhkonjlhpmhaa
open Go.RowKit Go.Maps

set_option maxRecDepth 100000 in
set_option maxHeartbeats 8000000 in
theorem safe_bad (r : Int) (p : Option Addr) (n c : Nat) (kv tv : Value) (w : World) (hr : r < 0 ∨ 4194304 < r) :
    Calls Try.prog 4 #[.int .i64 r, .slice p n c, .agg #[kv, tv]] w fun e w' => e = .returned (.bool true) ∧ Below w.heap.size w w' := by
  rcases hr with hr | hr
  · go_enter Try.func4, Try.ntmps4
    go_wp2_with fail
    refine (known_any _).mono ?_
    rintro e w1 ⟨rfl, hB⟩
    have HBB := Lib.hid hB
    clear hB
    go_wp2_with fail
    go_ret
    exact ⟨rfl, ((Below.refl _ _).alloc (Nat.le_refl _) _).trans (HBB.out.mono (by simp))⟩
  · go_enter Try.func4, Try.ntmps4
    go_wp2_with fail
    refine (known_any _).mono ?_
    rintro e w1 ⟨rfl, hB⟩
    have HBB := Lib.hid hB
    clear hB
    go_wp2_with fail
    go_ret
    exact ⟨rfl, ((Below.refl _ _).alloc (Nat.le_refl _) _).trans (HBB.out.mono (by simp))⟩

set_option maxRecDepth 100000 in
set_option maxHeartbeats 16000000 in
theorem safe_walk (r : Nat) (hr : r ≤ 4194304) (p : Option Addr) (n c : Nat) (es : List OpE) (kv tv : Value) (keep turn : List Int) (w : World) (hes : OpsAt w.heap.size w (.slice p n c) es)
    (hkv : ∀ b m, w.heap.size ≤ b → w.heap.size ≤ m → IntsAt b m w kv keep) (htv : ∀ b m, w.heap.size ≤ b → w.heap.size ≤ m → IntsAt b m w tv turn) (hkb : ∀ x ∈ keep, x ≤ 9223372036854775807) (htb : ∀ x ∈ turn, x ≤ 9223372036854775807) :
    Calls Try.prog 4 #[.int .i64 (r : Int), .slice p n c, .agg #[kv, tv]] w fun e w' => e = .returned (.bool true) ∧ Below w.heap.size w w' := by
  have HES := Lib.hid hes
  have HKV := Lib.hid hkv
  have HTV := Lib.hid htv
  have HKB := Lib.hid hkb
  have HTB := Lib.hid htb
  have OK0 := Lib.hid ((Dk.Ok.new hr).play ((es.take 200).map OpE.o))
  have ON0 := Lib.hid (play_on (d := Dk.new r) rfl rfl ((es.take 200).map OpE.o))
  clear hes hkv htv hkb htb
  go_enter Try.func4, Try.ntmps4
  go_wp2_with fail
  have hB0 : Below w.heap.size w (w.alloc (.cells #[kv, tv] 24)) := (Below.refl _ _).alloc (Nat.le_refl _) _
  have hk0 : (w.alloc (.cells #[kv, tv] 24)).cell? ⟨w.heap.size, 0, none⟩ = some kv := by rw [World.cell?_alloc_new]; rfl
  have hk1 : (w.alloc (.cells #[kv, tv] 24)).cell? ⟨w.heap.size, 1, none⟩ = some tv := by rw [World.cell?_alloc_new]; rfl
  have hs0 : w.heap.size < (w.alloc (.cells #[kv, tv] 24)).heap.size := by simp
  generalize w.alloc (.cells #[kv, tv] 24) = w0 at *
  have B0 := Lib.hid (And.intro hB0 (And.intro hk0 hk1))
  clear hB0 hk0 hk1
  refine (played_any r hr (Nat.le_of_lt hs0) (HES.out.below B0.out.1)).mono ?_
  rintro e w1 ⟨rfl, hd1, hB1, hz1⟩
  generalize playD (Dk.new r) ((es.take 200).map OpE.o) = D at *
  have HD1 := Lib.hid hd1
  have HB1 := Lib.hid hB1
  clear hd1 hB1 HES
  go_wp2_with fail
  refine (known_any w1).mono ?_
  rintro e w2 ⟨rfl, hB2⟩
  have HD2 := Lib.hid (HD1.out.below hB2)
  have HB2 := Lib.hid (HB1.out.trans (hB2.mono HB1.out.size))
  have hz2 := hB2.size
  clear hB2 HD1 HB1
  go_wp2_with fail
  refine (files_any HD2.out OK0.out).mono ?_
  rintro e w3 ⟨v1, rfl, hrow1, hB3⟩
  have HR1 := Lib.hid hrow1
  have HD3 := Lib.hid (HD2.out.below hB3)
  have HB3 := Lib.hid (HB2.out.trans (hB3.mono HB2.out.size))
  have hz3 := hB3.size
  obtain ⟨l1p, l1n, l1c, hlv⟩ := owns_slice hrow1
  subst hlv
  clear hB3 HD2 HB2 hrow1
  have hwb : w.heap.size ≠ w0.heap.size + 1 := by omega
  have hwm : w.heap.size ≠ w0.heap.size := by omega
  have HC3 := Lib.hid (show w3.cell? ⟨w.heap.size, 0, none⟩ = some kv ∧ w3.cell? ⟨w.heap.size, 1, none⟩ = some tv from
    ⟨by rw [HB3.out.cell (p := ⟨w.heap.size, 0, none⟩) hs0]; exact B0.out.2.1, by rw [HB3.out.cell (p := ⟨w.heap.size, 1, none⟩) hs0]; exact B0.out.2.2⟩)
  have HK3 := Lib.hid (Below.trans B0.out.1 (HB3.out.mono (Nat.le_of_lt hs0)))
  have hKI := (HKV.out (w0.heap.size + 1) w0.heap.size (by omega) (by omega)).kept ((Kp.of_below (b := w0.heap.size + 1) (m := w0.heap.size) HK3.out))
  have hTI := (HTV.out (w0.heap.size + 1) w0.heap.size (by omega) (by omega)).kept ((Kp.of_below (b := w0.heap.size + 1) (m := w0.heap.size) HK3.out))
  have HKI := Lib.hid hKI
  have HTI := Lib.hid hTI
  obtain ⟨h30, h31⟩ := HC3.out
  have hcr := crash_any HD3.out OK0.out hKI hTI HKB.out HTB.out
  have HCR := Lib.hid hcr
  clear hKI hTI hcr HKV HTV
  go_wp2_with fail
  refine HCR.out.mono ?_
  rintro e w4 ⟨rfl, hd4, hk4⟩
  have hz4 := hk4.size
  have HD4 := Lib.hid hd4
  have HK4 := Lib.hid hk4
  have HF1 := Lib.hid (FilesAt.kept HR1.out (by omega) (by omega) hk4)
  have HO4 := Lib.hid (OK0.out.crash keep turn)
  clear hd4 hk4 h30 h31 HCR HR1
  go_wp2_with fail
  refine (files_any HD4.out HO4.out).mono ?_
  rintro e w5 ⟨v2, rfl, hrow2, hB5⟩
  have HR2 := Lib.hid hrow2
  have HF2 := Lib.hid (FilesAt.of_row hrow2)
  have HF1' := Lib.hid (HF1.out.below hB5)
  have HD5 := Lib.hid (HD4.out.below hB5)
  have HK5 := Lib.hid (HK4.out.step hB5)
  have hz5 := hB5.size
  obtain ⟨l2p, l2n, l2c, hlv⟩ := owns_slice hrow2
  subst hlv
  clear hB5 HD4 hrow2 HK4 HF1
  obtain ⟨q1, c1, hv1, hf1⟩ := HF1'.out
  cases hv1
  obtain ⟨q2, c2, hv2, hf2⟩ := HF2.out
  cases hv2
  have hll : (D.crash keep turn).L.length = D.L.length := crash_len keep turn 0 D.L
  rw [hll]
  have HLL := Lib.hid hll
  have hF1 := Lib.hid hf1
  have hF2 := Lib.hid hf2
  clear hf1 hf2 hll
  generalize hn : D.L.length = n at *
  go_wp2_with fail
  refine (on_any HD5.out).mono ?_
  rintro e w5' ⟨rfl, rfl⟩
  have hoff : (D.crash keep turn).off = false := rfl
  rw [hoff]
  go_wp2_with fail
  have hn64 : n ≤ 64 := by rw [← hn]; exact OK0.out.many
  have HN := Lib.hid hn
  clear hn
  go_loopw [48] (fun iv wr => ∃ i : Nat, i ≤ n ∧ iv = .int .i64 (i : Int) ∧ Below w5.heap.size w5 wr) (fun iv _ => n - (intOf iv).toNat)
  case atStart => exact ⟨0, Nat.zero_le _, rfl, Below.refl _ _⟩
  case round =>
    obtain ⟨i, hi, rfl, hbw⟩ := hrel
    have HBW := Lib.hid hbw
    have hzr := hbw.size
    clear hbw
    by_cases hlt : i < n
    · have hn' : D.L.length = n := HN.out
      have hn2 : (D.crash keep turn).L.length = n := HLL.out
      obtain ⟨f, hf⟩ : ∃ f, D.L[i]? = some f := ⟨D.L[i], List.getElem?_eq_getElem (by omega)⟩
      obtain ⟨gb, hg, x1, x2, x3, x4⟩ := crash_get keep turn OK0.out.safe hf
      have hfb : f.bytes.size ≤ 4194304 := Nat.le_trans (mem_used (List.mem_of_getElem? hf)) (Nat.le_trans OK0.out.used OK0.out.room)
      obtain ⟨g1, rfl, hc1⟩ := hF1.out.resolve_left (fun e => by rw [e] at hn'; simp at hn'; omega)
      obtain ⟨g2, rfl, hc2⟩ := hF2.out.resolve_left (fun e => by rw [e] at hn2; simp at hn2; omega)
      obtain ⟨a0, a1, a2⟩ := hc1 i f hf
      obtain ⟨b0, b1, b2⟩ := hc2 i _ hg
      have hg1 : g1 < w5.heap.size := World.block_lt_of_cell? w5 _ a0
      have hg2 : g2 < w5.heap.size := World.block_lt_of_cell? w5 _ b0
      rw [← HBW.out.cell (p := ⟨g1, i * 3, none⟩) hg1] at a0
      rw [← HBW.out.cell (p := ⟨g1, i * 3 + 1, none⟩) hg1] at a1
      rw [← HBW.out.cell (p := ⟨g1, i * 3 + 2, none⟩) hg1] at a2
      rw [← HBW.out.cell (p := ⟨g2, i * 3, none⟩) hg2] at b0
      rw [← HBW.out.cell (p := ⟨g2, i * 3 + 1, none⟩) hg2] at b1
      rw [← HBW.out.cell (p := ⟨g2, i * 3 + 2, none⟩) hg2] at b2
      obtain ⟨fn, fb, fs⟩ := f
      simp only at a0 a1 a2 b0 b1 b2 x1 x2 x3 x4 hfb
      have HU := Lib.hid (unlike_any fb gb x2 hfb)
      have HX := Lib.hid x4
      generalize unl fb.data.toList gb.data.toList gb.size = un at *
      have hg1r : g1 < wr.heap.size := by omega
      have hg2r : g2 < wr.heap.size := by omega
      have hab := (Below.refl wr.heap.size wr).alloc (Nat.le_refl _) (.cells #[.string fn, .string fb, .int .i64 (fs : Int)] 43)
      rw [← hab.cell (p := ⟨g2, i * 3, none⟩) hg2r] at b0
      rw [← hab.cell (p := ⟨g2, i * 3 + 1, none⟩) hg2r] at b1
      rw [← hab.cell (p := ⟨g2, i * 3 + 2, none⟩) hg2r] at b2
      clear hf hg hc1 hc2 hn' hn2 x4 hab
      go_wp2_with fail
      obtain ⟨hb15, hz15, cF, cG⟩ := boxes2 wr #[.string fn, .string fb, .int .i64 (fs : Int)] #[.string fn, .string gb, .int .i64 (gb.size : Int)] 43 43
      generalize (wr.alloc (.cells #[.string fn, .string fb, .int .i64 (fs : Int)] 43)).alloc (.cells #[.string fn, .string gb, .int .i64 (gb.size : Int)] 43) = W15 at *
      have hz16 : wr.heap.size + 1 < W15.heap.size := by omega
      clear hz15
      have q0 : ∀ (u : GW (fun w' => Below W15.heap.size W15 w')), u.w.cell? ⟨wr.heap.size, 0, none⟩ = some (.string fn) := fun u => by rw [u.h.cell (p := ⟨wr.heap.size, 0, none⟩) (by show wr.heap.size < _; omega)]; exact cF 0
      have q1 : ∀ (u : GW (fun w' => Below W15.heap.size W15 w')), u.w.cell? ⟨wr.heap.size, 1, none⟩ = some (.string fb) := fun u => by rw [u.h.cell (p := ⟨wr.heap.size, 1, none⟩) (by show wr.heap.size < _; omega)]; exact cF 1
      have q2 : ∀ (u : GW (fun w' => Below W15.heap.size W15 w')), u.w.cell? ⟨wr.heap.size, 2, none⟩ = some (.int .i64 (fs : Int)) := fun u => by rw [u.h.cell (p := ⟨wr.heap.size, 2, none⟩) (by show wr.heap.size < _; omega)]; exact cF 2
      have q3 : ∀ (u : GW (fun w' => Below W15.heap.size W15 w')), u.w.cell? ⟨wr.heap.size + 1, 0, none⟩ = some (.string fn) := fun u => by rw [u.h.cell (p := ⟨wr.heap.size + 1, 0, none⟩) (by show wr.heap.size + 1 < _; omega)]; exact cG 0
      have q4 : ∀ (u : GW (fun w' => Below W15.heap.size W15 w')), u.w.cell? ⟨wr.heap.size + 1, 1, none⟩ = some (.string gb) := fun u => by rw [u.h.cell (p := ⟨wr.heap.size + 1, 1, none⟩) (by show wr.heap.size + 1 < _; omega)]; exact cG 1
      have q5 : ∀ (u : GW (fun w' => Below W15.heap.size W15 w')), u.w.cell? ⟨wr.heap.size + 1, 2, none⟩ = some (.int .i64 (gb.size : Int)) := fun u => by rw [u.h.cell (p := ⟨wr.heap.size + 1, 2, none⟩) (by show wr.heap.size + 1 < _; omega)]; exact cG 2
      have y1 : decide ((gb.size : Int) < (fs : Int)) = false := by simpa using x1
      have y2 : decide ((fb.size : Int) < (gb.size : Int)) = false := by simpa using x2
      have y1' : ¬ gb.size < fs := by omega
      have y2' : ¬ fb.size < gb.size := by omega
      have y5' : ¬ 1 < un := by have := HX.out; omega
      have y3 : (fs : Int) ≤ (gb.size : Int) := by omega
      have y4 : (fs : Int) ≤ (fb.size : Int) := by omega
      have y5 : decide ((1 : Int) < (un : Int)) = false := by have := HX.out; simp; omega
      have hne := GW.ne (Inv := fun w' => Below W15.heap.size W15 w') (Below.refl _ _)
      have HB15 := Lib.hid hb15
      clear cF cG a0 a1 a2 b0 b1 b2 hb15
      refine wp_region_grow (fun w' => Below W15.heap.size W15 w') (by kernel_rfl) (by kernel_rfl) (Below.refl _ _).drew ?_
      repeat (go_big_quiet_step ((go_at_call 22; refine (HU.out _).mono ?_; rintro e w1 ⟨rfl, hb⟩; exact ⟨rfl, below_next _ hb⟩)))
      refine wpQuiet_nil ?_
      intro _ hw'
      obtain ⟨⟨w4, h4⟩, hw''⟩ := hw'
      subst hw''
      have HBR := Lib.hid (HBW.out.trans ((HB15.out.trans (h4.mono (by omega))).mono (by omega)))
      clear h4 q0 q1 q2 q3 q4 q5 hne HB15
      go_wp2_with fail
      go_roundw
      case rel => exact ⟨i + 1, by omega, by go_num, HBR.out⟩
      case measure => simp [intOf]; omega
    · obtain rfl : i = n := by omega
      have hs5 : w.heap.size < w5.heap.size := by omega
      have HKW := Lib.hid (HK5.out.trans (Kp.of_below (HBW.out.mono (Nat.le_refl _))))
      have k0 : wr.cell? ⟨w.heap.size, 0, none⟩ = some kv := by rw [HKW.out.cell (by omega) hwb hwm]; exact HC3.out.1
      have k1 : wr.cell? ⟨w.heap.size, 1, none⟩ = some tv := by rw [HKW.out.cell (by omega) hwb hwm]; exact HC3.out.2
      have HDR := Lib.hid (HD5.out.below HBW.out)
      have HCR := Lib.hid (crash_any HDR.out HO4.out (HKI.out.kept HKW.out) (HTI.out.kept HKW.out) HKB.out HTB.out)
      have hcc : (D.crash keep turn).crash keep turn = D.crash keep turn := by
        show Dk.mk _ _ _ _ _ _ = Dk.mk _ _ _ _ _ _
        rw [show (D.crash keep turn).L = crashL keep turn 0 D.L from rfl, crash_crash]
        rfl
      rw [hcc] at HCR
      go_wp2_with fail
      refine HCR.out.mono ?_
      rintro e w6 ⟨rfl, hd6, hk6⟩
      have HD6 := Lib.hid hd6
      have HK6 := Lib.hid (HKW.out.trans hk6)
      have HF6 := Lib.hid (FilesAt.kept HR2.out (by omega) (by omega) ((Kp.of_below HBW.out).trans hk6))
      have hz6 := hk6.size
      clear hd6 hk6 k0 k1
      go_wp2_with fail
      refine (files_any HD6.out HO4.out).mono ?_
      rintro e w7 ⟨v3, rfl, hrow3, hB7⟩
      have HF7 := Lib.hid (FilesAt.of_row hrow3)
      have HG7 := Lib.hid (HF6.out.below hB7)
      have HK7 := Lib.hid (HK6.out.step hB7)
      obtain ⟨l3p, l3n, l3c, hlv⟩ := owns_slice hrow3
      subst hlv
      have hz7 := hB7.size
      have hcl : (D.crash keep turn).L.length ≤ 64 := HO4.out.many
      have hsa := same_any HF7.out HG7.out hcl hcl
      rw [HLL.out] at hsa
      have HSA := Lib.hid hsa
      clear hB7 hrow3 hsa HF6
      go_wp2_with fail
      refine HSA.out.mono ?_
      rintro e w8 ⟨rfl, hB8⟩
      have HK8 := Lib.hid (HK7.out.step hB8)
      clear hB8
      go_wp2_with fail
      go_ret
      exact ⟨by simp, Kp.belowN HK3.out HK8.out (by omega) (by omega) (by omega)⟩
end Go.Proofs.Ytcjhkonjlhpmhaa

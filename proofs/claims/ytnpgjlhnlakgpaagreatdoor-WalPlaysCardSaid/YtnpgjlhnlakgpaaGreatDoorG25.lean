/- The law WalPlays, walked. The law WalPlays, walked whole. -/
import Derived.Test.YtnpgjlhnlakgpaaGreatDoorG24
import Derived.Test.YtnpgjlhnlakgpaaGreatDoorWalH
import Derived.Test.YtnpgjlhnlakgpaaGreatDoorG04
import Derived.Test.YtnpgjlhnlakgpaaGreatDoorG06
namespace Go.Proofs.YtnpgjlhnlakgpaaGreatDoor
open Go.RowKit Go.Maps

/-- A call's crash, as it lies; its number is within bounds. -/
structure WOp.Cr (x : WOp) (w : World) (B : Nat) : Prop where
  n : x.n < 9223372036854775808
  ex : ∃ keep turn : List Int, (∀ b m, B ≤ b → B ≤ m → IntsAt b m w (.slice x.kp x.kn x.kc) keep) ∧ (∀ b m, B ≤ b → B ≤ m → IntsAt b m w (.slice x.tp x.tn x.tc) turn) ∧ (∀ y ∈ keep, y ≤ 9223372036854775807) ∧ (∀ y ∈ turn, y ≤ 9223372036854775807)
theorem IntsAt.belowB {b m : Nat} {w w' : World} {v : Value} {xs : List Int} (h : IntsAt b m w v xs) (hb : Below w.heap.size w w') : IntsAt b m w' v xs := by
  obtain ⟨p, c, hv, hl, h⟩ := h
  refine ⟨p, c, hv, hl, h.imp id ?_⟩
  rintro ⟨g, o, hp, h1, h2, hc⟩
  exact ⟨g, o, hp, h1, h2, fun j hj => (hb.cell (p := ⟨g, o + j, none⟩) (World.block_lt_of_cell? _ _ (hc j hj))).trans (hc j hj)⟩
theorem WOp.Cr.below {x : WOp} {w w' : World} (h : x.Cr w w.heap.size) (hb : Below w.heap.size w w') : x.Cr w' w.heap.size := by
  obtain ⟨hn, keep, turn, h1, h2, h3, h4⟩ := h
  exact ⟨hn, keep, turn, fun b m hb' hm => (h1 b m hb' hm).belowB hb, fun b m hb' hm => (h2 b m hb' hm).belowB hb, h3, h4⟩
/-- A step of both. -/
theorem step_any {w : World} {B bb db rb : Nat} {d : Dk} (h : Bth w B bb db rb d) (hs : d.steps + 1000000000010 < 4611686018427387904) (x : WOp) (hc : x.Cr w B) (hdt : x.data.size ≤ 131072) (hnm : x.name.size ≤ 65536) :
    Calls Tryz.prog 10 #[.pointer (some ⟨bb, 0, none⟩), .agg #[.int .i64 x.kind, .int .i64 x.n, .string x.name, .string x.data, .slice x.kp x.kn x.kc, .slice x.tp x.tn x.tc]] w fun e w' => e = .returned (.bool true) ∧ BOut w w' B bb db rb d := by
  obtain ⟨kind, n, nm, dt, kp, kn, kc, tp, tn, tc⟩ := x
  obtain ⟨hn, keep, turn, c1, c2, c3, c4⟩ := hc
  simp only at hn c1 c2 hdt hnm ⊢
  have hn1 : nm.size ≤ maxLen := by unfold maxLen; omega
  have hd1 : dt.size ≤ maxLen := by unfold maxLen; omega
  obtain ⟨m, rg, h | ⟨lb, g, mb, g2, ga, l, r, h⟩⟩ := h
  · by_cases k5 : kind = 5
    · subst k5
      exact step_arm h n nm dt kp kn kc tp tn tc hn fun w0 w1 w2 hb h1 k1 h2 => by
        obtain ⟨rg', q1, _, q2⟩ := (h.below hb).both h1 k1 h2 (h.ok.arm hn)
        exact ⟨⟨_, _, .inl q1⟩, (hb.mono h.bel.2.2.2.2.2).trans q2⟩
    by_cases k6 : kind = 6
    · subst k6
      exact step_crash h (by omega) n nm dt kp kn kc tp tn tc keep turn c3 c4 c1 c2
    by_cases k7 : kind = 7
    · subst k7
      exact step_open h (by omega) n nm dt kp kn kc tp tn tc
    by_cases k8 : kind = 8
    · subst k8
      exact step_file h (by omega) n nm dt kp kn kc tp tn tc hn1 hd1
    exact step_nil h kind n nm dt kp kn kc tp tn tc k5 k6 k7 k8
  · by_cases k5 : kind = 5
    · subst k5
      exact step_arm h.K n nm dt kp kn kc tp tn tc hn fun w0 w1 w2 hb h1 k1 h2 => by
        obtain ⟨q1, q2⟩ := (h.below hb).armed h1 k1 h2 (h.K.ok.arm hn) (Dk.arm_L d n).1
        exact ⟨q1, (hb.mono h.K.bel.2.2.2.2.2).trans q2⟩
    by_cases k6 : kind = 6
    · subst k6
      exact step_crash h.K (by omega) n nm dt kp kn kc tp tn tc keep turn c3 c4 c1 c2
    by_cases k7 : kind = 7
    · subst k7
      exact step_open h.K (by omega) n nm dt kp kn kc tp tn tc
    by_cases k8 : kind = 8
    · subst k8
      exact step_file h.K (by omega) n nm dt kp kn kc tp tn tc hn1 hd1
    by_cases k1 : kind = 1
    · subst k1
      exact step_add h hs n nm dt kp kn kc tp tn tc (by omega)
    by_cases k2 : kind = 2
    · subst k2
      exact step_sync h hs n nm dt kp kn kc tp tn tc
    by_cases k3 : kind = 3
    · subst k3
      exact step_trim h hs n nm dt kp kn kc tp tn tc
    by_cases k4 : kind = 4
    · subst k4
      exact step_read h n nm dt kp kn kc tp tn tc
    exact step_none h kind n nm dt kp kn kc tp tn tc k5 k6 k7 k8 k1 k2 k3 k4
theorem Bth.below {w w' : World} {B bb db rb : Nat} {d : Dk} (h : Bth w B bb db rb d) (hb : Below w.heap.size w w') : Bth w' B bb db rb d := by
  obtain ⟨m, rg, h | ⟨lb, g, mb, g2, ga, l, r, h⟩⟩ := h
  · exact ⟨m, rg, .inl (h.below hb)⟩
  · exact ⟨m, rg, .inr ⟨lb, g, mb, g2, ga, l, r, h.below hb⟩⟩
theorem Bth.size {w : World} {B bb db rb : Nat} {d : Dk} (h : Bth w B bb db rb d) : B ≤ w.heap.size := by
  obtain ⟨m, rg, h | ⟨lb, g, mb, g2, ga, l, r, h⟩⟩ := h
  · exact h.bel.2.2.2.2.2
  · exact h.K.bel.2.2.2.2.2
theorem stands_both {w : World} {B bb db rb : Nat} {d : Dk} (h : Bth w B bb db rb d) : Calls Tryz.prog 11 #[.pointer (some ⟨bb, 0, none⟩)] w fun e w' => e = .returned (.bool true) ∧ Below w.heap.size w w' := by
  obtain ⟨m, rg, h | ⟨lb, g, mb, g2, ga, l, r, h⟩⟩ := h
  · exact stands_nil h rfl
  · exact stands_any h
end Go.Proofs.YtnpgjlhnlakgpaaGreatDoor
namespace Go.Proofs.YtnpgjlhnlakgpaaGreatDoor
open Go.RowKit Go.Maps

theorem RowAt.rowF {w : World} {b g : Nat} {lv : Value} {L : List Fl} (h : RowAt w b g lv L) : FilesAt w lv L := FilesAt.of_row h.1
theorem Bth.get {w : World} {B bb db rb : Nat} {d : Dk} (h : Bth w B bb db rb d) : ∃ m rg lv mv, BK w B bb db m rb rg lv mv d := by
  obtain ⟨m, rg, h | ⟨lb, g, mb, g2, ga, l, r, h⟩⟩ := h
  · exact ⟨m, rg, _, _, h⟩
  · exact ⟨m, rg, _, _, h.K⟩
theorem pow_below {w : World} (hP : Pow w) : PowB w.heap.size w := Lib.tabBelow_of_tabIs hP
set_option maxRecDepth 100000 in
set_option maxHeartbeats 16000000 in
theorem plays_bad (room seg : Int) (p : Option Addr) (n c : Nat) (w : World) (hr : room < 0 ∨ 4194304 < room) :
    Calls Tryz.prog 3 #[.int .i64 room, .int .i64 seg, .slice p n c] w fun e w' => e = .returned (.bool true) ∧ Below w.heap.size w w' := by
  have HN := Lib.hid (new_bad room w hr)
  have HR := Lib.hid (ref_new_bad room w hr)
  clear hr
  go_enter Tryz.func3, Tryz.ntmps3
  go_wp2_with (first
    | (go_at_call 4; refine HN.out.mono ?_; rintro e w1 ⟨rfl, hw1⟩; rw [← hw1]; clear hw1)
    | (go_at_call 5; refine HR.out.mono ?_; rintro e w1 ⟨rfl, hw1⟩; rw [← hw1]; clear hw1)
    | (go_at_call 6; refine (known_any _).mono ?_; rintro e w2 ⟨rfl, hk⟩; have HK := Lib.hid hk; clear hk)
    | fail)
  go_ret
  exact ⟨rfl, HK.out⟩
/-- The loop's state. -/
structure PlI (B bb db rb : Nat) (w0 : World) (i : Nat) (wr : World) : Prop where
  ex : ∃ d, Bth wr B bb db rb d ∧ d.steps ≤ 3 + i * 2000000000000
  bel : Below B w0 wr
set_option maxRecDepth 100000 in
set_option maxHeartbeats 32000000 in
theorem plays_walk (rm : Nat) (hrm : rm ≤ 4194304) (seg : Int) (v : Value) (es : List WOp) (w : World) (hP : Pow w) (hv : OpW w v es) (hc : ∀ x ∈ es, x.Cr w w.heap.size) :
    Calls Tryz.prog 3 #[.int .i64 (rm : Int), .int .i64 seg, v] w fun e w' => e = .returned (.bool true) ∧ Below w.heap.size w w' := by
  obtain ⟨p, cap, rfl, hcap, hc0⟩ := id hv
  have HPW := Lib.hid (pow_below hP)
  have HV := Lib.hid hv
  have HC := Lib.hid hc
  have HCU : Hid (∀ W, OpW W (.slice p es.length cap) es → Calls Tryz.prog 8 #[.slice p es.length cap, .int .i64 150] W fun e w' => e = .returned (.slice p (min 150 es.length) cap) ∧ w' = W) := fun W h => cutw_any h 150 (by decide)
  have HN := Lib.hid (fun W => new_ok rm W hrm)
  have HR := Lib.hid (fun W => ref_new_ok rm W hrm)
  have HOK := Lib.hid (Dk.Ok.new hrm)
  have HST : Hid ((Dk.new rm).steps = 0) := rfl
  obtain ⟨D0, hD0⟩ : ∃ D0, Dk.new rm = D0 := ⟨_, rfl⟩
  rw [hD0] at HN HR HOK HST
  obtain ⟨RM, hRM⟩ : ∃ RM : Int, (rm : Int) = RM := ⟨_, rfl⟩
  rw [hRM] at HN HR ⊢
  obtain ⟨n, hn⟩ : ∃ n, es.length = n := ⟨_, rfl⟩
  have HNE := Lib.hid hn
  rw [hn] at HV HCU hcap ⊢
  clear hv hc hc0 hP hD0 hRM hn hrm
  go_enter Tryz.func3, Tryz.ntmps3
  go_upto_region 7 with (first
    | (go_at_call 4; refine (HN.out _).mono ?_; rintro e w1 ⟨rfl, hd1, hb1, hz1⟩; have HD1 := Lib.hid hd1; have HB1 := Lib.hid hb1; clear hd1 hb1)
    | (go_at_call 5; refine (HR.out _).mono ?_; rintro e w2 ⟨rfl, hr2, hb2⟩; have HR2 := Lib.hid hr2; have HB2 := Lib.hid hb2; clear hr2 hb2)
    | (go_at_call 6; refine (known_any _).mono ?_; rintro e w3 ⟨rfl, hk⟩; have HB3 := Lib.hid (HB2.out.trans (hk.mono HB2.out.size)); have HR3 := Lib.hid (HR2.out.below hk); clear hk)
    | fail)
  have hz2 := HB1.out.size
  have hz3 := HB3.out.size
  have hrl := HR3.out.lt
  have HD3 : Hid (DAt w3 (w.heap.size + 1) w.heap.size D0) := DC.below HD1.out HB3.out
  have HA3 := Lib.hid (HB1.out.trans (HB3.out.mono hz2))
  have HBK : Hid (BK (w3.alloc (.cells #[.pointer (some ⟨w.heap.size + 1, 0, none⟩), .pointer none, .pointer (some ⟨w1.heap.size, 0, none⟩), .pointer none] 35)) w.heap.size w3.heap.size (w.heap.size + 1) w.heap.size w1.heap.size w1.heap.size (.pointer none) (.pointer none) D0) := by
    have hB4 := (Below.refl w3.heap.size w3).alloc (Nat.le_refl _) (.cells #[.pointer (some ⟨w.heap.size + 1, 0, none⟩), .pointer none, .pointer (some ⟨w1.heap.size, 0, none⟩), .pointer none] 35)
    refine ⟨World.cell?_alloc_new .., World.cell?_alloc_new .., World.cell?_alloc_new .., World.cell?_alloc_new .., World.frozen?_alloc_new .., World.frozen?_alloc_new .., DC.below HD3.out hB4, HR3.out.below hB4, HPW.out.on (HA3.out.alloc HA3.out.size _), HOK.out, ?_, ?_⟩
    · exact ⟨by omega, by omega, by omega, by omega, by omega, by omega, by omega, by omega⟩
    · exact ⟨by omega, by omega, Nat.le_refl _, by omega, by omega, by simp; omega⟩
  have HB4 := Lib.hid (HA3.out.alloc HA3.out.size (.cells #[.pointer (some ⟨w.heap.size + 1, 0, none⟩), .pointer none, .pointer (some ⟨w1.heap.size, 0, none⟩), .pointer none] 35))
  have HO := Lib.hid (bopen_any HBK.out (by rw [HST.out]; decide) seg)
  go_upto_region 10 with (first
    | (go_at_call 7; refine HO.out.mono ?_; rintro e w5 ⟨rfl, d1, hb5, hB5, hs5⟩; have HS5 := Lib.hid hb5; have HB5 := Lib.hid (HB4.out.trans hB5); have HT5 := Lib.hid (show d1.steps ≤ 3 by have := HST.out; omega); clear hb5 hB5 hs5)
    | fail)
  have HV5 := Lib.hid (HV.out.below HB5.out)
  go_upto_region 11 with (first
    | (go_at_call 8; (with_reducible refine (HCU.out _ HV5.out).mono ?_); rintro e w9 ⟨rfl, hw9⟩; rw [hw9]; clear hw9)
    | fail)
  have HT3 := Lib.hid (HV.out.take 150)
  obtain ⟨k, hk⟩ : ∃ k, min 150 n = k := ⟨_, rfl⟩
  obtain ⟨fs, hfs⟩ : ∃ fs, es.take 150 = fs := ⟨_, rfl⟩
  have hkl : fs.length = k := by rw [← hfs, List.length_take, HNE.out, hk]
  have hk150 : k ≤ 150 := by omega
  have HCF : Hid (∀ x ∈ fs, x.Cr w w.heap.size) := fun x hx => HC.out x (by rw [← hfs] at hx; exact List.mem_of_mem_take hx)
  rw [hk, hfs] at HT3
  rw [hk]
  have HKL := Lib.hid hkl
  obtain ⟨bb, hbb⟩ : ∃ bb, w3.heap.size = bb := ⟨_, rfl⟩
  obtain ⟨rb, hrb⟩ : ∃ rb, w1.heap.size = rb := ⟨_, rfl⟩
  obtain ⟨db, hdb⟩ : ∃ db, w.heap.size + 1 = db := ⟨_, rfl⟩
  simp only [hbb, hrb, hdb] at HS5 ⊢
  have HS0 : Hid (PlI w.heap.size bb db rb w 0 w5) := ⟨⟨d1, HS5.out, by have := HT5.out; omega⟩, HB5.out⟩
  clear hk hfs hkl hbb hrb hdb HV5 HBK HO hz2 hz3 hrl hcap
  go_loopw [51] (fun iv wr => ∃ i : Nat, i ≤ k ∧ iv = .int .i64 (i : Int) ∧ PlI w.heap.size bb db rb w i wr) (fun iv _ => k - (intOf iv).toNat)
  case atStart => exact ⟨0, Nat.zero_le _, rfl, HS0.out⟩
  case round =>
    obtain ⟨i, hi, rfl, hI⟩ := hrel
    obtain ⟨⟨d, hbt, hst⟩, hbw⟩ := hI
    have HBT := Lib.hid hbt
    have HBW := Lib.hid hbw
    have HSTP := Lib.hid hst
    have hwz := hbw.size
    clear hbt hbw hst
    by_cases hlt : i < k
    · obtain ⟨x, hx⟩ : ∃ x, fs[i]? = some x := ⟨fs[i]'(by rw [HKL.out]; exact hlt), List.getElem?_eq_getElem _⟩
      have hcx := HCF.out x (List.mem_of_getElem? hx)
      obtain ⟨g, o, rfl, q0, q1, q2, q3, q4, q5⟩ := HT3.out.get hx
      have hli : (i : Int) < (k : Int) := by omega
      have hl0 : (0 : Int) ≤ (i : Int) := by omega
      have hg : g < w.heap.size := World.block_lt_of_cell? w _ q0
      have tr : ∀ (j : Nat) (u : Value), w.cell? ⟨g, j, none⟩ = some u → wr.cell? ⟨g, j, none⟩ = some u := fun j u h => (HBW.out.cell (p := ⟨g, j, none⟩) hg).trans h
      replace q0 := tr _ _ q0
      replace q1 := tr _ _ q1
      replace q2 := tr _ _ q2
      replace q3 := tr _ _ q3
      replace q4 := tr _ _ q4
      replace q5 := tr _ _ q5
      have HSM := Lib.hid (fun W => small_any x W)
      have HSTEP : Hid (x.data.size ≤ 131072 → x.name.size ≤ 65536 → ∀ W, Bth W w.heap.size bb db rb d → Below w.heap.size w W → _) := fun h1 h2 W hb hB => step_any hb (by have := HSTP.out; omega) x (hcx.below hB) h1 h2
      obtain ⟨kind, nn, nm, dt, kp, kn, kc, tp, tn, tc⟩ := x
      simp only at q0 q1 q2 q3 q4 q5 HSM HSTEP
      have HSD := Lib.hid (fun W d' (h : Bth W w.heap.size bb db rb d') => stands_both h)
      have hmul : (i + 1) * 2000000000000 = i * 2000000000000 + 2000000000000 := by rw [Nat.add_mul]
      have HSN := Lib.hid (Nat.le_trans HSTP.out (Nat.add_le_add_left (Nat.mul_le_mul_right 2000000000000 (Nat.le_succ i)) 3))
      clear hx tr hcx
      by_cases hsm : dt.size ≤ 131072 ∧ nm.size ≤ 65536
      · rw [decide_eq_true hsm.1, decide_eq_true hsm.2, Bool.and_self] at HSM
        have HST2 := Lib.hid (HSTEP.out hsm.1 hsm.2)
        clear HSTEP hsm
        go_wp2_with (first
          | (go_at_call 9; refine (HSM.out _).mono ?_; rintro e w7 ⟨rfl, hb7⟩; have k7 : ∀ j, w7.cell? ⟨wr.heap.size, j, none⟩ = (wr.alloc (.cells #[.int .i64 kind, .int .i64 nn, .string nm, .string dt, .slice kp kn kc, .slice tp tn tc] 42)).cell? ⟨wr.heap.size, j, none⟩ := fun j => hb7.cell (p := ⟨wr.heap.size, j, none⟩) (by simp); have r0 := (k7 0).trans (World.cell?_alloc_new ..); have r1 := (k7 1).trans (World.cell?_alloc_new ..); have r2 := (k7 2).trans (World.cell?_alloc_new ..); have r3 := (k7 3).trans (World.cell?_alloc_new ..); have r4 := (k7 4).trans (World.cell?_alloc_new ..); have r5 := (k7 5).trans (World.cell?_alloc_new ..); simp only [List.getElem?_toArray, List.getElem?_cons_zero, List.getElem?_cons_succ] at r0 r1 r2 r3 r4 r5; have HS7 := Lib.hid ((HBT.out.below ((Below.refl _ _).alloc (Nat.le_refl _) (.cells #[.int .i64 kind, .int .i64 nn, .string nm, .string dt, .slice kp kn kc, .slice tp tn tc] 42))).below hb7); have HB7 := Lib.hid ((HBW.out.alloc hwz (.cells #[.int .i64 kind, .int .i64 nn, .string nm, .string dt, .slice kp kn kc, .slice tp tn tc] 42)).trans (hb7.mono (by simp; omega))); clear hb7 k7)
          | (go_at_call 10; (with_reducible refine (HST2.out _ HS7.out HB7.out).mono ?_); rintro e w8 ⟨rfl, d8, hb8, hB8, hs8⟩; have HS8 := Lib.hid hb8; have HB8 := Lib.hid (HB7.out.trans hB8); have HT8 := Lib.hid hs8; clear hb8 hB8 hs8)
          | (go_at_call 11; (with_reducible refine (HSD.out _ _ HS8.out).mono ?_); rintro e w9 ⟨rfl, hb9⟩; have HS9 := Lib.hid (HS8.out.below hb9); have HB9 := Lib.hid (HB8.out.trans (hb9.mono HS8.out.size)); clear hb9)
          | fail)
        go_roundw
        case rel => exact ⟨i + 1, by omega, by go_num, ⟨d8, HS9.out, by have h1 := HSTP.out; have h2 := HT8.out; omega⟩, HB9.out⟩
        case measure => simp [intOf]; omega
      · have hsf : (decide (dt.size ≤ 131072) && decide (nm.size ≤ 65536)) = false := by
          rw [Bool.and_eq_false_iff, decide_eq_false_iff_not, decide_eq_false_iff_not]
          omega
        rw [hsf] at HSM
        clear HSTEP hsm hsf
        go_wp2_with (first
          | (go_at_call 9; refine (HSM.out _).mono ?_; rintro e w7 ⟨rfl, hb7⟩; have HS7 := Lib.hid ((HBT.out.below ((Below.refl _ _).alloc (Nat.le_refl _) (.cells #[.int .i64 kind, .int .i64 nn, .string nm, .string dt, .slice kp kn kc, .slice tp tn tc] 42))).below hb7); have HB7 := Lib.hid ((HBW.out.alloc hwz (.cells #[.int .i64 kind, .int .i64 nn, .string nm, .string dt, .slice kp kn kc, .slice tp tn tc] 42)).trans (hb7.mono (by simp; omega))); clear hb7)
          | fail)
        go_roundw
        case rel => exact ⟨i + 1, by omega, by go_num, ⟨d, HS7.out, HSN.out⟩, HB7.out⟩
        case measure => simp [intOf]; omega
    · have hli : ¬ (i : Int) < (k : Int) := by omega
      obtain ⟨m, rg, lv, mv, hk⟩ := HBT.out.get
      have HFI := Lib.hid (show ∀ wx, DAt wx db m d → _ from fun wx h => files_any h hk.ok)
      have hm64 := hk.ok.many
      obtain ⟨lvv, hc, hrow⟩ := id hk.R
      obtain ⟨pp, cc, rfl, hfa⟩ := hrow.rowF
      have c1 := hc.c1
      have hfa2 : FilesAt wr (.slice pp d.L.length cc) d.L := ⟨pp, cc, rfl, hfa⟩
      have HFA := Lib.hid hfa2
      have HDd : Hid (DAt wr.drew db m d) := DC.below hk.D (Below.refl _ _).drew
      have hrb := hk.lt.2.2.2.1
      have HSA := Lib.hid (show ∀ wx va, FilesAt wx va d.L → FilesAt wx (.slice pp d.L.length cc) d.L → Calls Tryz.prog 12 #[va, .slice pp d.L.length cc] wx fun e w' => e = .returned (.bool true) ∧ Below wx.heap.size wx w' from fun wx va h1 h2 => (same_any h1 h2 hm64 hm64).mono fun e w' h3 => by rw [decide_eq_true rfl] at h3; exact h3)
      obtain ⟨M, hM⟩ : ∃ M, d.L.length = M := ⟨_, rfl⟩
      have HM := Lib.hid hM
      rw [hM] at c1 HFA HSA HFI
      clear hk hc hrow hfa hfa2 hM hm64
      go_upto_region 17 with fail
      go_region_held3 (fun w' => ∀ j, w'.cell? ⟨rb, j, none⟩ = wr.cell? ⟨rb, j, none⟩) ((first | assumption | (intro j; rfl)))
        (first
          | (go_at_call 13; (with_reducible refine (HFI.out _ HDd.out).mono ?_); rintro e w7 ⟨v, rfl, hro, hb7⟩; have HF7 := Lib.hid (FilesAt.of_row (L := d.L) (by rw [HM.out]; exact hro)); obtain ⟨p7, l7, c7, rfl⟩ := owns_slice hro; have k7 : ∀ j, w7.cell? ⟨rb, j, none⟩ = wr.cell? ⟨rb, j, none⟩ := fun j => (hb7.cell (p := ⟨rb, j, none⟩) hrb).trans rfl; have HB7 := Lib.hid (((Below.refl wr.heap.size wr).drew).trans hb7); have HG7 := Lib.hid (HFA.out.below HB7.out); clear hro hb7)
          | (go_at_call 12; (with_reducible refine (HSA.out _ _ HF7.out HG7.out).mono ?_); rintro e w8 ⟨rfl, hb8⟩; have k8 : ∀ j, w8.cell? ⟨rb, j, none⟩ = wr.cell? ⟨rb, j, none⟩ := fun j => (hb8.cell (p := ⟨rb, j, none⟩) (Nat.lt_of_lt_of_le hrb HB7.out.size)).trans (k7 j); have HB8 := Lib.hid (HB7.out.trans (hb8.mono HB7.out.size)); clear hb8))
      all_goals
        go_wp2_with fail
        go_ret
        exact ⟨rfl, HBW.out.trans (HB8.out.mono hwz)⟩
end Go.Proofs.YtnpgjlhnlakgpaaGreatDoor

/- The contract of the law's step, the other kinds (printed by gen_step.py). -/
import Derived.Test.YtcjhkonjlhpmhaaVfsStepK
namespace Go.Proofs.Ytcjhkonjlhpmhaa
open Go.RowKit Go.Maps

theorem Both.sout {w w' : World} {b m r g : Nat} {d : Dk} (h : Both w b m r g d) (hb : Below w.heap.size w w') : SOut w w' b m r g d := ⟨g, h.below hb, .inl rfl, K4.of_below hb⟩
theorem Both.two' {w w1 w2 : World} {b m r g : Nat} {d d' : Dk} (h : Both w b m r g d) (h1 : ROut w w1 r g d') (h2 : DAt w2 b m d') (hk : Kp b m w1 w2) : SOut w w2 b m r g d' := by
  obtain ⟨⟨g', hr, hg⟩, hk1⟩ := h1
  have hlt := h.lt
  have hz := hk1.size
  have hbg : b ≠ g' := by rcases hg with rfl | rfl | hg <;> first | exact h.bg | exact h.br | omega
  have hmg : m ≠ g' := by rcases hg with rfl | rfl | hg <;> first | exact h.mg | exact h.mr | omega
  exact ⟨g', ⟨h2, hr.kept hk h.br.symm h.mr.symm hbg.symm hmg.symm, h.br, hbg, h.mr, hmg⟩, hg, (K4.of2 hk1).tr (K4.of1 hk)⟩
theorem IntsAt.kept2 {b m r g : Nat} {w w' : World} {v : Value} {xs : List Int} (h : IntsAt b m w v xs) (h2 : IntsAt r g w v xs) (hk : Kp r g w w') : IntsAt b m w' v xs := by
  obtain ⟨p, c, rfl, hl, h⟩ := h
  refine ⟨p, c, rfl, hl, ?_⟩
  rcases h with h | ⟨q, o, rfl, h3, h4, hc⟩
  · exact .inl h
  · obtain ⟨p', c', hv, _, h5⟩ := h2
    injection hv with hv1
    by_cases hx : xs = []
    · exact .inl hx
    · obtain ⟨q', o', hq, h6, h7, _⟩ := h5.resolve_left hx
      rw [← hv1] at hq
      cases hq
      exact .inr ⟨q, o, rfl, h3, h4, fun j hj => by rw [hk.cell (j := q) (World.block_lt_of_cell? _ _ (hc j hj)) h6 h7]; exact hc j hj⟩
theorem NamesAt.below {B : Nat} {w w' : World} {v : Value} {L : List Fl} (h : NamesAt B w v L) (hb : Below w.heap.size w w') : NamesAt B w' v L := by
  obtain ⟨p, c, rfl, h⟩ := h
  refine ⟨p, c, rfl, ?_⟩
  rcases h with h | ⟨g, rfl, hg, hc⟩
  · exact .inl h
  · exact .inr ⟨g, rfl, hg, fun j f hj => by have h9 := hc j f hj; rw [hb.cell (p := ⟨g, j, none⟩) (World.block_lt_of_cell? _ _ h9)]; exact h9⟩
set_option maxRecDepth 100000 in
set_option maxHeartbeats 8000000 in
theorem step_k7 {w : World} {b m r g : Nat} {d : Dk} (h : Both w b m r g d) (hok : d.Ok) (hs : d.steps < 4611686018427387904) (on on2 : Int) (nm dt : ByteArray) (kp : Option Addr) (kn kc : Nat) (tp : Option Addr) (tn tc : Nat) (hn : nm.size ≤ maxLen) (hdt : dt.size ≤ maxLen) (hon : on2 ≤ 9223372036854775807) :
    Calls Try.prog 31 #[.pointer (some ⟨b, 0, none⟩), .pointer (some ⟨r, 0, none⟩), .agg #[.int .i64 7, .int .i64 on, .int .i64 on2, .string nm, .string dt, .slice kp kn kc, .slice tp tn tc]] w fun e w' => e = .returned (.bool true) ∧ SOut w w' b m r g (d) := by
  have hB0 := (Below.refl w.heap.size w).alloc (Nat.le_refl _) (.cells #[.int .i64 7, .int .i64 on, .int .i64 on2, .string nm, .string dt, .slice kp kn kc, .slice tp tn tc] 49)
  have hca := op_box w 7 on on2 nm dt (.slice kp kn kc) (.slice tp tn tc) 49
  have hz0 : w.heap.size < (w.alloc (.cells #[.int .i64 7, .int .i64 on, .int .i64 on2, .string nm, .string dt, .slice kp kn kc, .slice tp tn tc] 49)).heap.size := by simp
  have hlt := h.lt
  go_enter Try.func31, Try.ntmps31
  go_upto_region 1 with fail
  generalize w.alloc (.cells #[.int .i64 7, .int .i64 on, .int .i64 on2, .string nm, .string dt, .slice kp kn kc, .slice tp tn tc] 49) = wa at *
  have z0 : wa.cell? ⟨w.heap.size, 0, none⟩ = some (.int .i64 7) := hca 0
  have z2 : wa.cell? ⟨w.heap.size, 2, none⟩ = some (.int .i64 on2) := hca 2
  have z3 : wa.cell? ⟨w.heap.size, 3, none⟩ = some (.string nm) := hca 3
  have z4 : wa.cell? ⟨w.heap.size, 4, none⟩ = some (.string dt) := hca 4
  have HBA := Lib.hid (h.below hB0)
  have HB0 := Lib.hid hB0
  have HOK := Lib.hid hok
  have HS := Lib.hid hs
  have HN := Lib.hid hn
  have HDT := Lib.hid hdt
  have HON := Lib.hid hon
  clear hca hB0 h hok hs hn hdt hon
  have HP1 := Lib.hid (read_any HBA.out.D HN.out)
  have HR2 := Lib.hid (fun w1 (hb : Below wa.heap.size wa w1) => ref_read (HBA.out.R.below hb) HOK.out nm)
  generalize (d.read nm).1 = rs at *
  generalize (d.read nm).2 = rc at *
  go_wp2_with fail
  refine HP1.out.mono ?_
  rintro e w1 ⟨rfl, hb1⟩
  have y3 : w1.cell? ⟨w.heap.size, 3, none⟩ = some (.string nm) := by rw [hb1.cell (p := ⟨w.heap.size, 3, none⟩) hz0]; exact z3
  have HB1 := Lib.hid hb1
  clear hb1 HP1
  go_wp2_with fail
  refine (HR2.out _ HB1.out).mono ?_
  rintro e w2 ⟨rfl, hb2⟩
  have HB2 := Lib.hid (HB1.out.trans (hb2.mono HB1.out.size))
  clear hb2 HR2
  go_wp2_with fail
  go_ret
  exact ⟨by simp, SOut.from HB0.out (HBA.out.sout HB2.out)⟩
set_option maxRecDepth 100000 in
set_option maxHeartbeats 8000000 in
theorem step_none {w : World} {b m r g : Nat} {d : Dk} (h : Both w b m r g d) (hok : d.Ok) (hs : d.steps < 4611686018427387904) (on on2 : Int) (nm dt : ByteArray) (kp : Option Addr) (kn kc : Nat) (tp : Option Addr) (tn tc : Nat) (hn : nm.size ≤ maxLen) (hdt : dt.size ≤ maxLen) (hon : on2 ≤ 9223372036854775807) (kind : Int) (k1 : ¬ kind = 1) (k2 : ¬ kind = 2) (k3 : ¬ kind = 3) (k4 : ¬ kind = 4) (k5 : ¬ kind = 5) (k6 : ¬ kind = 6) (k7 : ¬ kind = 7) (k8 : ¬ kind = 8) (k9 : ¬ kind = 9) (k10 : ¬ kind = 10) :
    Calls Try.prog 31 #[.pointer (some ⟨b, 0, none⟩), .pointer (some ⟨r, 0, none⟩), .agg #[.int .i64 kind, .int .i64 on, .int .i64 on2, .string nm, .string dt, .slice kp kn kc, .slice tp tn tc]] w fun e w' => e = .returned (.bool true) ∧ SOut w w' b m r g (d) := by
  have hB0 := (Below.refl w.heap.size w).alloc (Nat.le_refl _) (.cells #[.int .i64 kind, .int .i64 on, .int .i64 on2, .string nm, .string dt, .slice kp kn kc, .slice tp tn tc] 49)
  have hca := op_box w kind on on2 nm dt (.slice kp kn kc) (.slice tp tn tc) 49
  have hz0 : w.heap.size < (w.alloc (.cells #[.int .i64 kind, .int .i64 on, .int .i64 on2, .string nm, .string dt, .slice kp kn kc, .slice tp tn tc] 49)).heap.size := by simp
  have hlt := h.lt
  go_enter Try.func31, Try.ntmps31
  go_upto_region 1 with fail
  generalize w.alloc (.cells #[.int .i64 kind, .int .i64 on, .int .i64 on2, .string nm, .string dt, .slice kp kn kc, .slice tp tn tc] 49) = wa at *
  have z0 : wa.cell? ⟨w.heap.size, 0, none⟩ = some (.int .i64 kind) := hca 0
  have z2 : wa.cell? ⟨w.heap.size, 2, none⟩ = some (.int .i64 on2) := hca 2
  have z3 : wa.cell? ⟨w.heap.size, 3, none⟩ = some (.string nm) := hca 3
  have z4 : wa.cell? ⟨w.heap.size, 4, none⟩ = some (.string dt) := hca 4
  have HBA := Lib.hid (h.below hB0)
  have HB0 := Lib.hid hB0
  have HOK := Lib.hid hok
  have HS := Lib.hid hs
  have HN := Lib.hid hn
  have HDT := Lib.hid hdt
  have HON := Lib.hid hon
  clear hca hB0 h hok hs hn hdt hon
  go_wp2_with fail
  go_ret
  exact ⟨rfl, SOut.from HB0.out (HBA.out.sout (Below.refl _ _))⟩
set_option maxRecDepth 100000 in
set_option maxHeartbeats 8000000 in
theorem step_k9 {w : World} {b m r g : Nat} {d : Dk} (h : Both w b m r g d) (hok : d.Ok) (hs : d.steps < 4611686018427387904) (on on2 : Int) (nm dt : ByteArray) (kp : Option Addr) (kn kc : Nat) (tp : Option Addr) (tn tc : Nat) (hn : nm.size ≤ maxLen) (hdt : dt.size ≤ maxLen) (hon : on2 ≤ 9223372036854775807) :
    Calls Try.prog 31 #[.pointer (some ⟨b, 0, none⟩), .pointer (some ⟨r, 0, none⟩), .agg #[.int .i64 9, .int .i64 on, .int .i64 on2, .string nm, .string dt, .slice kp kn kc, .slice tp tn tc]] w fun e w' => e = .returned (.bool true) ∧ SOut w w' b m r g (d.arm on2) := by
  have hB0 := (Below.refl w.heap.size w).alloc (Nat.le_refl _) (.cells #[.int .i64 9, .int .i64 on, .int .i64 on2, .string nm, .string dt, .slice kp kn kc, .slice tp tn tc] 49)
  have hca := op_box w 9 on on2 nm dt (.slice kp kn kc) (.slice tp tn tc) 49
  have hz0 : w.heap.size < (w.alloc (.cells #[.int .i64 9, .int .i64 on, .int .i64 on2, .string nm, .string dt, .slice kp kn kc, .slice tp tn tc] 49)).heap.size := by simp
  have hlt := h.lt
  go_enter Try.func31, Try.ntmps31
  go_upto_region 1 with fail
  generalize w.alloc (.cells #[.int .i64 9, .int .i64 on, .int .i64 on2, .string nm, .string dt, .slice kp kn kc, .slice tp tn tc] 49) = wa at *
  have z0 : wa.cell? ⟨w.heap.size, 0, none⟩ = some (.int .i64 9) := hca 0
  have z2 : wa.cell? ⟨w.heap.size, 2, none⟩ = some (.int .i64 on2) := hca 2
  have z3 : wa.cell? ⟨w.heap.size, 3, none⟩ = some (.string nm) := hca 3
  have z4 : wa.cell? ⟨w.heap.size, 4, none⟩ = some (.string dt) := hca 4
  have HBA := Lib.hid (h.below hB0)
  have HB0 := Lib.hid hB0
  have HOK := Lib.hid hok
  have HS := Lib.hid hs
  have HN := Lib.hid hn
  have HDT := Lib.hid hdt
  have HON := Lib.hid hon
  clear hca hB0 h hok hs hn hdt hon
  have HP1 := Lib.hid (arm_any HBA.out.D on2)
  go_wp2_with fail
  refine HP1.out.mono ?_
  rintro e w1 ⟨rfl, hd1, hk1⟩
  have y2 : w1.cell? ⟨w.heap.size, 2, none⟩ = some (.int .i64 on2) := by rw [hk1.cell hz0 (by omega) (by omega)]; exact z2
  have HR1 := Lib.hid (HBA.out.R.kept hk1 HBA.out.br.symm HBA.out.mr.symm HBA.out.bg.symm HBA.out.mg.symm)
  have HD1 := Lib.hid hd1
  have HK1 := Lib.hid hk1
  clear hd1 hk1 HP1
  go_wp2_with fail
  refine (ref_arm HR1.out on2).mono ?_
  rintro e w2 ⟨rfl, ho2⟩
  have HO2 := Lib.hid ho2
  clear ho2
  go_wp2_with fail
  go_ret
  exact ⟨rfl, SOut.from HB0.out (Both.two HBA.out HD1.out HK1.out HO2.out)⟩
set_option maxRecDepth 100000 in
set_option maxHeartbeats 8000000 in
theorem step_k10 {w : World} {b m r g : Nat} {d : Dk} (h : Both w b m r g d) (hok : d.Ok) (hs : d.steps < 4611686018427387904) (on on2 : Int) (nm dt : ByteArray) (kp : Option Addr) (kn kc : Nat) (tp : Option Addr) (tn tc : Nat) (hn : nm.size ≤ maxLen) (hdt : dt.size ≤ maxLen) (hon : on2 ≤ 9223372036854775807) (keep turn : List Int) (hkr : IntsAt r g w (.slice kp kn kc) keep) (htr : IntsAt r g w (.slice tp tn tc) turn) (hkd : IntsAt b m w (.slice kp kn kc) keep) (htd : IntsAt b m w (.slice tp tn tc) turn) (hkb : ∀ x ∈ keep, x ≤ 9223372036854775807) (htb : ∀ x ∈ turn, x ≤ 9223372036854775807) (hk8 : keep.length * 8 ≤ 140737488351232) (ht8 : turn.length * 8 ≤ 140737488351232) :
    Calls Try.prog 31 #[.pointer (some ⟨b, 0, none⟩), .pointer (some ⟨r, 0, none⟩), .agg #[.int .i64 10, .int .i64 on, .int .i64 on2, .string nm, .string dt, .slice kp kn kc, .slice tp tn tc]] w fun e w' => e = .returned (.bool true) ∧ SOut w w' b m r g (d.crash keep turn) := by
  have hB0 := (Below.refl w.heap.size w).alloc (Nat.le_refl _) (.cells #[.int .i64 10, .int .i64 on, .int .i64 on2, .string nm, .string dt, .slice kp kn kc, .slice tp tn tc] 49)
  have hca := op_box w 10 on on2 nm dt (.slice kp kn kc) (.slice tp tn tc) 49
  have hz0 : w.heap.size < (w.alloc (.cells #[.int .i64 10, .int .i64 on, .int .i64 on2, .string nm, .string dt, .slice kp kn kc, .slice tp tn tc] 49)).heap.size := by simp
  have hlt := h.lt
  go_enter Try.func31, Try.ntmps31
  go_upto_region 1 with fail
  generalize w.alloc (.cells #[.int .i64 10, .int .i64 on, .int .i64 on2, .string nm, .string dt, .slice kp kn kc, .slice tp tn tc] 49) = wa at *
  have z0 : wa.cell? ⟨w.heap.size, 0, none⟩ = some (.int .i64 10) := hca 0
  have z2 : wa.cell? ⟨w.heap.size, 2, none⟩ = some (.int .i64 on2) := hca 2
  have z3 : wa.cell? ⟨w.heap.size, 3, none⟩ = some (.string nm) := hca 3
  have z4 : wa.cell? ⟨w.heap.size, 4, none⟩ = some (.string dt) := hca 4
  have z5 : wa.cell? ⟨w.heap.size, 5, none⟩ = some (.slice kp kn kc) := hca 5
  have z6 : wa.cell? ⟨w.heap.size, 6, none⟩ = some (.slice tp tn tc) := hca 6
  have HKR := Lib.hid (hkr.kept (Kp.of_below hB0))
  have HTR := Lib.hid (htr.kept (Kp.of_below hB0))
  have HKD := Lib.hid (hkd.kept (Kp.of_below hB0))
  have HTD := Lib.hid (htd.kept (Kp.of_below hB0))
  have HKB := Lib.hid hkb
  have HTB := Lib.hid htb
  clear hkr htr hkd htd hkb htb
  have HBA := Lib.hid (h.below hB0)
  have HB0 := Lib.hid hB0
  have HOK := Lib.hid hok
  have HS := Lib.hid hs
  have HN := Lib.hid hn
  have HDT := Lib.hid hdt
  have HON := Lib.hid hon
  clear hca hB0 h hok hs hn hdt hon
  have HR1 := Lib.hid (ref_crash HBA.out.R HOK.out HKR.out HTR.out HKB.out HTB.out)
  go_wp2_with fail
  refine HR1.out.mono ?_
  rintro e w1 ⟨rfl, ho1⟩
  have hk1 := ho1.2
  have y5 : w1.cell? ⟨w.heap.size, 5, none⟩ = some (.slice kp kn kc) := by rw [hk1.cell hz0 (by omega) (by omega)]; exact z5
  have y6 : w1.cell? ⟨w.heap.size, 6, none⟩ = some (.slice tp tn tc) := by rw [hk1.cell hz0 (by omega) (by omega)]; exact z6
  have HD1 := Lib.hid (show DAt w1 b m d from HBA.out.D.kept hk1 HBA.out.br HBA.out.bg HBA.out.mr HBA.out.mg)
  have HC := Lib.hid (lawcrash_any HD1.out HOK.out (HKD.out.kept2 HKR.out hk1) (HTD.out.kept2 HTR.out hk1) HKB.out HTB.out hk8 ht8)
  have HO1 := Lib.hid ho1
  clear ho1 hk1 HR1
  go_wp2_with fail
  refine HC.out.mono ?_
  rintro e w2 ⟨rfl, hd2, hk2⟩
  have HD2 := Lib.hid hd2
  have HK2 := Lib.hid hk2
  clear hd2 hk2 HC
  go_wp2_with fail
  go_ret
  exact ⟨rfl, SOut.from HB0.out (Both.two' HBA.out HO1.out HD2.out HK2.out)⟩
end Go.Proofs.Ytcjhkonjlhpmhaa

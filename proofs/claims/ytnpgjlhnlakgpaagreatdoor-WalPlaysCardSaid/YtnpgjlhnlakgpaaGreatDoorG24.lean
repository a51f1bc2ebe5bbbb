/- The law's step: a power that is armed; a crash; an opening. The law's step: a file is made by hand; calls of the logs. The law's step: Add, Sync, Trim of both; nothing to be done. The law's step: Read of both. -/
import Derived.Test.YtnpgjlhnlakgpaaGreatDoorG23
import Derived.Test.YtnpgjlhnlakgpaaGreatDoorG04
import Derived.Test.YtnpgjlhnlakgpaaGreatDoorRd9
namespace Go.Proofs.YtnpgjlhnlakgpaaGreatDoor
open Go.RowKit Go.Maps

theorem IntsAt.both2 {b m r g : Nat} {w w1 w2 : World} {v : Value} {xs : List Int} (h1 : IntsAt b r w v xs) (h2 : IntsAt m g w v xs) (k1 : Kp b m w w1) (k2 : Kp r g w1 w2) : IntsAt r g w2 v xs := by
  obtain ⟨p, c, rfl, hl, a⟩ := h1
  obtain ⟨p', c', hv, _, e⟩ := h2
  cases hv
  refine ⟨p, c, rfl, hl, ?_⟩
  rcases a with a | ⟨x, o, rfl, x1, x2, hc⟩
  · exact .inl a
  · rcases e with e | ⟨x', o', hp, x3, x4, _⟩
    · exact .inl e
    · simp only [Option.some.injEq, Addr.mk.injEq, and_true] at hp
      obtain ⟨rfl, rfl⟩ := hp
      refine .inr ⟨x, o, rfl, x2, x4, fun j hj => ?_⟩
      have hlt : x < w.heap.size := World.block_lt_of_cell? _ _ (hc j hj)
      rw [k2.cell (Nat.lt_of_lt_of_le hlt k1.size) x2 x4, k1.cell hlt x1 x3]
      exact hc j hj
theorem BK.drew' {w : World} {B bb db m rb rg : Nat} {d : Dk} {lv mv : Value} (h : BK w B bb db m rb rg lv mv d) : BK w.drew B bb db m rb rg lv mv d := h.below (Below.refl _ _).drew
theorem BL.drew' {w : World} {B bb db m rb rg lb g mb g2 ga : Nat} {d : Dk} {l : Lg} {r : Rg} (h : BL w B bb db m rb rg lb g mb g2 ga d l r) : BL w.drew B bb db m rb rg lb g mb g2 ga d l r := h.below (Below.refl _ _).drew
section
variable {w : World} {B bb db m rb rg lb g mb g2 ga : Nat} {d : Dk} {l : Lg} {r : Rg} {lv mv : Value}
set_option maxRecDepth 100000 in
set_option maxHeartbeats 16000000 in
theorem step_arm (h : BK w B bb db m rb rg lv mv d) (n : Int) (nm dt : ByteArray) (kp : Option Addr) (kn kc : Nat) (tp : Option Addr) (tn tc : Nat) (_hn : n < 9223372036854775808)
    (HC : ∀ w0 w1 w2, Below w.heap.size w w0 → DAt w1 db m (d.arm n) → Kp db m w0 w1 → ROut w1 w2 rb rg (d.arm n) → Bth w2 B bb db rb (d.arm n) ∧ Below B w w2) :
    Calls Tryz.prog 10 #[.pointer (some ⟨bb, 0, none⟩), .agg #[.int .i64 5, .int .i64 n, .string nm, .string dt, .slice kp kn kc, .slice tp tn tc]] w fun e w' => e = .returned (.bool true) ∧ BOut w w' B bb db rb d := by
  have hbb : bb < w.heap.size := h.lt.1
  have hdbl : db < w.heap.size ∧ m < w.heap.size ∧ rb < w.heap.size ∧ rg < w.heap.size := ⟨h.lt.2.1, h.lt.2.2.1, h.lt.2.2.2.1, h.lt.2.2.2.2⟩
  have hne := h.ne
  have HBW := Lib.hid ((Below.refl w.heap.size w).alloc (Nat.le_refl _) (.cells #[.int .i64 5, .int .i64 n, .string nm, .string dt, .slice kp kn kc, .slice tp tn tc] 42))
  have ox := fun j => World.cell?_alloc_new w #[.int .i64 5, .int .i64 n, .string nm, .string dt, .slice kp kn kc, .slice tp tn tc] 42 j
  have o0 := ox 0
  have o1 := ox 1
  have o2 := ox 2
  have o3 := ox 3
  have o4 := ox 4
  have o5 := ox 5
  simp only [List.getElem?_toArray, List.getElem?_cons_zero, List.getElem?_cons_succ] at o0 o1 o2 o3 o4 o5
  have hz : w.heap.size < (w.alloc (.cells #[.int .i64 5, .int .i64 n, .string nm, .string dt, .slice kp kn kc, .slice tp tn tc] 42)).heap.size := by simp
  clear ox
  have HC := Lib.hid HC
  have HW := Lib.hid (h.below HBW.out)
  have c0 := HW.out.c0
  have c2 := HW.out.c2
  have HA := Lib.hid (show ∀ wx, DAt wx db m d → _ from fun wx hd => arm_any hd n)
  have HR := Lib.hid (show ∀ wx, RAt wx rb rg d → _ from fun wx hd => ref_arm hd n)
  clear h
  go_enter Tryz.func10, Tryz.ntmps10
  go_upto_region 3 with fail
  generalize w.alloc (.cells #[.int .i64 5, .int .i64 n, .string nm, .string dt, .slice kp kn kc, .slice tp tn tc] 42) = W at *
  have HDd : Hid (DAt W.drew db m d) := DC.below HW.out.D (Below.refl _ _).drew
  go_region_held3 (fun w' => ∀ j, w'.cell? ⟨bb, j, none⟩ = W.cell? ⟨bb, j, none⟩ ∧ w'.cell? ⟨w.heap.size, j, none⟩ = W.cell? ⟨w.heap.size, j, none⟩) ((first | assumption | (intro j; exact ⟨rfl, rfl⟩)))
    (first | (go_at_call 24; (with_reducible refine (HA.out _ HDd.out).mono ?_); rintro e w2 ⟨rfl, hd2, hk2⟩; have k2 : ∀ j, w2.cell? ⟨bb, j, none⟩ = W.cell? ⟨bb, j, none⟩ ∧ w2.cell? ⟨w.heap.size, j, none⟩ = W.cell? ⟨w.heap.size, j, none⟩ := fun j => ⟨(hk2.cell (j := bb) (show bb < W.heap.size by omega) hne.1 hne.2.1 j).trans rfl, (hk2.cell (j := w.heap.size) hz (by omega) (by omega) j).trans rfl⟩; have HD2 := Lib.hid hd2; have HK2 := Lib.hid hk2; have hz2 : w.heap.size < w2.heap.size := Nat.lt_of_lt_of_le hz hk2.size; clear hd2 hk2))
  have HRd : Hid (RAt w2.drew rb rg d) := (HW.out.R.drew.kept HK2.out (fun e => hne.2.2.2.2.1 e.symm) (fun e => hne.2.2.2.2.2.2.1 e.symm) (fun e => hne.2.2.2.2.2.1 e.symm) (fun e => hne.2.2.2.2.2.2.2 e.symm)).drew
  go_upto_region 4 with fail
  go_region_held3 (fun w' => ∀ j, w'.cell? ⟨bb, j, none⟩ = w2.cell? ⟨bb, j, none⟩ ∧ w'.cell? ⟨w.heap.size, j, none⟩ = w2.cell? ⟨w.heap.size, j, none⟩) ((first | assumption | (intro j; exact ⟨rfl, rfl⟩)))
    (first | (go_at_call 25; (with_reducible refine (HR.out _ HRd.out).mono ?_); rintro e w3 ⟨rfl, ho3⟩; have k3 : ∀ j, w3.cell? ⟨bb, j, none⟩ = w2.cell? ⟨bb, j, none⟩ ∧ w3.cell? ⟨w.heap.size, j, none⟩ = w2.cell? ⟨w.heap.size, j, none⟩ := fun j => ⟨(ho3.2.cell (j := bb) (show bb < w2.heap.size by omega) hne.2.2.1 hne.2.2.2.1 j).trans rfl, (ho3.2.cell (j := w.heap.size) hz2 (by omega) (by omega) j).trans rfl⟩; have HO3 := Lib.hid (show ROut w2 w3 rb rg (d.arm n) from ⟨ho3.1, (Kp.refl _ _ _).drew.trans ho3.2⟩); clear ho3))
  go_wp2_with fail
  go_ret
  have hx := HC.out _ _ _ HBW.out.drew HD2.out HK2.out HO3.out
  exact ⟨rfl, _, hx.1, hx.2, by rw [(Dk.arm_L d n).2]; omega⟩
set_option maxRecDepth 100000 in
set_option maxHeartbeats 16000000 in
theorem step_open (h : BK w B bb db m rb rg lv mv d) (hs : d.steps + 3 < 4611686018427387904) (n : Int) (nm dt : ByteArray) (kp : Option Addr) (kn kc : Nat) (tp : Option Addr) (tn tc : Nat) :
    Calls Tryz.prog 10 #[.pointer (some ⟨bb, 0, none⟩), .agg #[.int .i64 7, .int .i64 n, .string nm, .string dt, .slice kp kn kc, .slice tp tn tc]] w fun e w' => e = .returned (.bool true) ∧ BOut w w' B bb db rb d := by
  have hbb : bb < w.heap.size := h.lt.1
  have hdbl : db < w.heap.size ∧ m < w.heap.size ∧ rb < w.heap.size ∧ rg < w.heap.size := ⟨h.lt.2.1, h.lt.2.2.1, h.lt.2.2.2.1, h.lt.2.2.2.2⟩
  have hne := h.ne
  have HBW := Lib.hid ((Below.refl w.heap.size w).alloc (Nat.le_refl _) (.cells #[.int .i64 7, .int .i64 n, .string nm, .string dt, .slice kp kn kc, .slice tp tn tc] 42))
  have ox := fun j => World.cell?_alloc_new w #[.int .i64 7, .int .i64 n, .string nm, .string dt, .slice kp kn kc, .slice tp tn tc] 42 j
  have o0 := ox 0
  have o1 := ox 1
  have o2 := ox 2
  have o3 := ox 3
  have o4 := ox 4
  have o5 := ox 5
  simp only [List.getElem?_toArray, List.getElem?_cons_zero, List.getElem?_cons_succ] at o0 o1 o2 o3 o4 o5
  have hz : w.heap.size < (w.alloc (.cells #[.int .i64 7, .int .i64 n, .string nm, .string dt, .slice kp kn kc, .slice tp tn tc] 42)).heap.size := by simp
  clear ox
  have HW := Lib.hid (h.below HBW.out)
  have HO := Lib.hid (bopen_any HW.out hs n)
  have HBE := Lib.hid h.bel
  clear h
  go_enter Tryz.func10, Tryz.ntmps10
  go_wp2_with (first
    | (go_at_call 7; refine HO.out.mono ?_; rintro e w2 ⟨rfl, d', h1, h2, h3⟩; have HX := Lib.hid (And.intro h1 (And.intro ((HBW.out.mono HBE.out.2.2.2.2.2).trans h2) h3)); clear h1 h2 h3)
    | fail)
  go_ret
  exact ⟨rfl, d', HX.out.1, HX.out.2.1, by have := HX.out.2.2; omega⟩
set_option maxRecDepth 100000 in
set_option maxHeartbeats 16000000 in
theorem step_crash (h : BK w B bb db m rb rg lv mv d) (hs : d.steps + 3 < 4611686018427387904) (n : Int) (nm dt : ByteArray) (kp : Option Addr) (kn kc : Nat) (tp : Option Addr) (tn tc : Nat) (keep turn : List Int) (hkb : ∀ x ∈ keep, x ≤ 9223372036854775807) (htb : ∀ x ∈ turn, x ≤ 9223372036854775807)
    (hk1 : ∀ b m, B ≤ b → B ≤ m → IntsAt b m w (.slice kp kn kc) keep) (ht1 : ∀ b m, B ≤ b → B ≤ m → IntsAt b m w (.slice tp tn tc) turn) :
    Calls Tryz.prog 10 #[.pointer (some ⟨bb, 0, none⟩), .agg #[.int .i64 6, .int .i64 n, .string nm, .string dt, .slice kp kn kc, .slice tp tn tc]] w fun e w' => e = .returned (.bool true) ∧ BOut w w' B bb db rb d := by
  have hbb : bb < w.heap.size := h.lt.1
  have hdbl : db < w.heap.size ∧ m < w.heap.size ∧ rb < w.heap.size ∧ rg < w.heap.size := ⟨h.lt.2.1, h.lt.2.2.1, h.lt.2.2.2.1, h.lt.2.2.2.2⟩
  have hne := h.ne
  have HBW := Lib.hid ((Below.refl w.heap.size w).alloc (Nat.le_refl _) (.cells #[.int .i64 6, .int .i64 n, .string nm, .string dt, .slice kp kn kc, .slice tp tn tc] 42))
  have ox := fun j => World.cell?_alloc_new w #[.int .i64 6, .int .i64 n, .string nm, .string dt, .slice kp kn kc, .slice tp tn tc] 42 j
  have o0 := ox 0
  have o1 := ox 1
  have o2 := ox 2
  have o3 := ox 3
  have o4 := ox 4
  have o5 := ox 5
  simp only [List.getElem?_toArray, List.getElem?_cons_zero, List.getElem?_cons_succ] at o0 o1 o2 o3 o4 o5
  have hz : w.heap.size < (w.alloc (.cells #[.int .i64 6, .int .i64 n, .string nm, .string dt, .slice kp kn kc, .slice tp tn tc] 42)).heap.size := by simp
  clear ox
  have HW := Lib.hid (h.below HBW.out)
  have c0 := HW.out.c0
  have c2 := HW.out.c2
  have HBE := Lib.hid h.bel
  have HOK := Lib.hid h.ok
  have HA := Lib.hid (show ∀ wx, DAt wx db m d → Kp db m w wx → _ from fun wx hd hk => crash_any hd HOK.out ((hk1 db m HBE.out.2.1 HBE.out.2.2.1).kept hk) ((ht1 db m HBE.out.2.1 HBE.out.2.2.1).kept hk) hkb htb)
  have HR := Lib.hid (show ∀ wx wy, RAt wy rb rg d → Kp db m w wx → Kp rb rg wx wy → _ from fun wx wy hd hk hk' => ref_crash hd HOK.out (IntsAt.both2 (hk1 db rb HBE.out.2.1 HBE.out.2.2.2.1) (hk1 m rg HBE.out.2.2.1 HBE.out.2.2.2.2.1) hk hk') (IntsAt.both2 (ht1 db rb HBE.out.2.1 HBE.out.2.2.2.1) (ht1 m rg HBE.out.2.2.1 HBE.out.2.2.2.2.1) hk hk') hkb htb)
  have HST := Lib.hid (show (d.crash keep turn).steps + 3 < 4611686018427387904 from hs)
  have HOC := Lib.hid (HOK.out.crash keep turn)
  clear h hs hk1 ht1 hkb htb
  go_enter Tryz.func10, Tryz.ntmps10
  go_upto_region 7 with fail
  generalize w.alloc (.cells #[.int .i64 6, .int .i64 n, .string nm, .string dt, .slice kp kn kc, .slice tp tn tc] 42) = W at *
  have HDd : Hid (DAt W.drew db m d) := DC.below HW.out.D (Below.refl _ _).drew
  have HKd : Hid (Kp db m w W.drew) := Kp.of_below HBW.out.drew
  go_region_held3 (fun w' => ∀ j, w'.cell? ⟨bb, j, none⟩ = W.cell? ⟨bb, j, none⟩ ∧ w'.cell? ⟨w.heap.size, j, none⟩ = W.cell? ⟨w.heap.size, j, none⟩) ((first | assumption | (intro j; exact ⟨rfl, rfl⟩)))
    (first | (go_at_call 26; (with_reducible refine (HA.out _ HDd.out HKd.out).mono ?_); rintro e w2 ⟨rfl, hd2, hk2⟩; have k2 : ∀ j, w2.cell? ⟨bb, j, none⟩ = W.cell? ⟨bb, j, none⟩ ∧ w2.cell? ⟨w.heap.size, j, none⟩ = W.cell? ⟨w.heap.size, j, none⟩ := fun j => ⟨(hk2.cell (j := bb) (show bb < W.heap.size by omega) hne.1 hne.2.1 j).trans rfl, (hk2.cell (j := w.heap.size) hz (by omega) (by omega) j).trans rfl⟩; have HD2 := Lib.hid hd2; have HK2 := Lib.hid hk2; have hz2 : w.heap.size < w2.heap.size := Nat.lt_of_lt_of_le hz hk2.size; clear hd2 hk2))
  have HRd : Hid (RAt w2.drew rb rg d) := (HW.out.R.drew.kept HK2.out (fun e => hne.2.2.2.2.1 e.symm) (fun e => hne.2.2.2.2.2.2.1 e.symm) (fun e => hne.2.2.2.2.2.1 e.symm) (fun e => hne.2.2.2.2.2.2.2 e.symm)).drew
  have HR2 := Lib.hid (HR.out w2 w2.drew HRd.out (HKd.out.trans HK2.out) (Kp.refl _ _ _).drew)
  go_upto_region 8 with fail
  go_region_held3 (fun w' => ∀ j, w'.cell? ⟨bb, j, none⟩ = w2.cell? ⟨bb, j, none⟩ ∧ w'.cell? ⟨w.heap.size, j, none⟩ = w2.cell? ⟨w.heap.size, j, none⟩) ((first | assumption | (intro j; exact ⟨rfl, rfl⟩)))
    (first | (go_at_call 27; (with_reducible refine HR2.out.mono ?_); rintro e w3 ⟨rfl, ho3⟩; have k3 : ∀ j, w3.cell? ⟨bb, j, none⟩ = w2.cell? ⟨bb, j, none⟩ ∧ w3.cell? ⟨w.heap.size, j, none⟩ = w2.cell? ⟨w.heap.size, j, none⟩ := fun j => ⟨(ho3.2.cell (j := bb) (show bb < w2.heap.size by omega) hne.2.2.1 hne.2.2.2.1 j).trans rfl, (ho3.2.cell (j := w.heap.size) hz2 (by omega) (by omega) j).trans rfl⟩; have HO3 := Lib.hid (show ROut w2 w3 rb rg (d.crash keep turn) from ⟨ho3.1, (Kp.refl _ _ _).drew.trans ho3.2⟩); clear ho3))
  obtain ⟨rg3, hb3, -, hB3⟩ := HW.out.drew'.both HD2.out HK2.out HO3.out HOC.out
  have HB3 := Lib.hid ((HBW.out.drew.mono HBE.out.2.2.2.2.2).trans hB3)
  have HO := Lib.hid (bopen_any hb3 HST.out n)
  clear hb3 hB3
  go_wp2_with (first
    | (go_at_call 7; refine HO.out.mono ?_; rintro e w4 ⟨rfl, d', h1, h2, h3⟩; have HX := Lib.hid (And.intro h1 (And.intro (HB3.out.trans h2) h3)); clear h1 h2 h3)
    | fail)
  go_ret
  exact ⟨rfl, d', HX.out.1, HX.out.2.1, by have h9 : d'.steps ≤ d.steps + 3 := HX.out.2.2; omega⟩
end
end Go.Proofs.YtnpgjlhnlakgpaaGreatDoor
namespace Go.Proofs.YtnpgjlhnlakgpaaGreatDoor
open Go.RowKit Go.Maps

section
variable {w : World} {B bb db m rb rg lb g mb g2 ga : Nat} {d : Dk} {l : Lg} {r : Rg} {lv mv : Value}
set_option maxRecDepth 100000 in
set_option maxHeartbeats 32000000 in
theorem step_file (h : BK w B bb db m rb rg lv mv d) (hs : d.steps + 5 < 4611686018427387904) (n : Int) (nm dt : ByteArray) (kp : Option Addr) (kn kc : Nat) (tp : Option Addr) (tn tc : Nat) (hnm : nm.size ≤ maxLen) (hdt : dt.size ≤ maxLen) :
    Calls Tryz.prog 10 #[.pointer (some ⟨bb, 0, none⟩), .agg #[.int .i64 8, .int .i64 n, .string nm, .string dt, .slice kp kn kc, .slice tp tn tc]] w fun e w' => e = .returned (.bool true) ∧ BOut w w' B bb db rb d := by
  have hbb : bb < w.heap.size := h.lt.1
  have hdbl : db < w.heap.size ∧ m < w.heap.size ∧ rb < w.heap.size ∧ rg < w.heap.size := ⟨h.lt.2.1, h.lt.2.2.1, h.lt.2.2.2.1, h.lt.2.2.2.2⟩
  have hne := h.ne
  have HBW := Lib.hid ((Below.refl w.heap.size w).alloc (Nat.le_refl _) (.cells #[.int .i64 8, .int .i64 n, .string nm, .string dt, .slice kp kn kc, .slice tp tn tc] 42))
  have ox := fun j => World.cell?_alloc_new w #[.int .i64 8, .int .i64 n, .string nm, .string dt, .slice kp kn kc, .slice tp tn tc] 42 j
  have o0 := ox 0
  have o1 := ox 1
  have o2 := ox 2
  have o3 := ox 3
  have o4 := ox 4
  have o5 := ox 5
  simp only [List.getElem?_toArray, List.getElem?_cons_zero, List.getElem?_cons_succ] at o0 o1 o2 o3 o4 o5
  have hz : w.heap.size < (w.alloc (.cells #[.int .i64 8, .int .i64 n, .string nm, .string dt, .slice kp kn kc, .slice tp tn tc] 42)).heap.size := by simp
  clear ox
  have hzW := hz
  have HW := Lib.hid (h.below HBW.out)
  have c0 := HW.out.c0
  have c2 := HW.out.c2
  have HBE := Lib.hid h.bel
  have hok := h.ok
  have hok1 := hok.create nm
  have hst1 := create_stQ d nm
  have HA := Lib.hid (show ∀ wx, DAt wx db m d → _ from fun wx hd => create_any hd hok (by omega) hnm)
  have HR := Lib.hid (show ∀ wx, RAt wx rb rg d → _ from fun wx hd => ref_create hd hok (by omega) nm hnm)
  obtain ⟨E1, hE1⟩ : ∃ E1, (d.create nm).1 = E1 := ⟨_, rfl⟩
  obtain ⟨d1, hd1⟩ : ∃ d1, (d.create nm).2 = d1 := ⟨_, rfl⟩
  rw [hd1] at hok1 hst1
  simp only [hE1, hd1] at HA HR
  have hok2 := hok1.append nm dt
  have hst2 := append_steps d1 nm dt
  have HA2 := Lib.hid (show ∀ wx, DAt wx db m d1 → _ from fun wx hd => append_any hd hok1 (by omega) hnm hdt)
  have HR2 := Lib.hid (show ∀ rgx wx, RAt wx rb rgx d1 → _ from fun rgx wx hd => ref_append hd hok1 (by omega) nm dt hdt)
  obtain ⟨E2, hE2⟩ : ∃ E2, (d1.append nm dt).1 = E2 := ⟨_, rfl⟩
  obtain ⟨d2, hd2⟩ : ∃ d2, (d1.append nm dt).2 = d2 := ⟨_, rfl⟩
  rw [hd2] at hok2 hst2
  simp only [hE2, hd2] at HA2 HR2
  have HOK1 := Lib.hid hok1
  have HOK2 := Lib.hid hok2
  have HST := Lib.hid (show d2.steps + 3 < 4611686018427387904 by omega)
  have HSU := Lib.hid (show d2.steps ≤ d.steps + 2 by omega)
  clear h hs hok hok1 hok2 hst1 hst2 hE1 hd1 hE2 hd2 hnm hdt
  go_enter Tryz.func10, Tryz.ntmps10
  go_upto_region 13 with fail
  generalize w.alloc (.cells #[.int .i64 8, .int .i64 n, .string nm, .string dt, .slice kp kn kc, .slice tp tn tc] 42) = W at *
  have HDd2 : Hid (DAt W.drew db m d) := DC.below HW.out.D (Below.refl _ _).drew
  have HRb2 : Hid (∀ w2, Kp db m W.drew w2 → RAt w2 rb rg d) := fun w2 hk => HW.out.R.drew.kept hk (fun e => hne.2.2.2.2.1 e.symm) (fun e => hne.2.2.2.2.2.2.1 e.symm) (fun e => hne.2.2.2.2.2.1 e.symm) (fun e => hne.2.2.2.2.2.2.2 e.symm)
  have hneg2 := hne.2.2.2.1
  go_region_held3 (fun w' => ∀ j, w'.cell? ⟨bb, j, none⟩ = W.cell? ⟨bb, j, none⟩ ∧ w'.cell? ⟨w.heap.size, j, none⟩ = W.cell? ⟨w.heap.size, j, none⟩) ((first | assumption | (intro j; exact ⟨rfl, rfl⟩)))
    (first
      | (go_at_call 28; (with_reducible refine (HA.out _ HDd2.out).mono ?_); rintro e w2 ⟨rfl, hd2, hk2⟩; have k2 : ∀ j, w2.cell? ⟨bb, j, none⟩ = W.cell? ⟨bb, j, none⟩ ∧ w2.cell? ⟨w.heap.size, j, none⟩ = W.cell? ⟨w.heap.size, j, none⟩ := fun j => ⟨(hk2.cell (j := bb) (show bb < W.heap.size by omega) hne.1 hne.2.1 j).trans rfl, (hk2.cell (j := w.heap.size) hzW (by omega) (by omega) j).trans rfl⟩; have HD2 := Lib.hid hd2; have HK2 := Lib.hid hk2; have hz2 : w.heap.size < w2.heap.size := Nat.lt_of_lt_of_le hzW hk2.size; have HRd2 := Lib.hid (HRb2.out w2 hk2); clear hd2 hk2)
      | (go_at_call 29; (with_reducible refine (HR.out _ HRd2.out).mono ?_); rintro e w3 ⟨rfl, ho3⟩; have k3 : ∀ j, w3.cell? ⟨bb, j, none⟩ = W.cell? ⟨bb, j, none⟩ ∧ w3.cell? ⟨w.heap.size, j, none⟩ = W.cell? ⟨w.heap.size, j, none⟩ := fun j => ⟨(ho3.2.cell (j := bb) (show bb < w2.heap.size by omega) hne.2.2.1 hneg2 j).trans (k2 j).1, (ho3.2.cell (j := w.heap.size) hz2 (by omega) (by omega) j).trans (k2 j).2⟩; have HO3 := Lib.hid ho3; have hz3 : w.heap.size < w3.heap.size := Nat.lt_of_lt_of_le hz2 ho3.2.size; clear ho3))
  obtain ⟨rg3, hb3, hq3, hB3⟩ := HW.out.drew'.both HD2.out HK2.out HO3.out HOK1.out
  have hzrg : w.heap.size ≠ rg3 := by omega
  have HB3 := Lib.hid ((HBW.out.drew.mono HBE.out.2.2.2.2.2).trans hB3)
  have HW3 := Lib.hid hb3
  have HR3 := Lib.hid (fun wx => HR2.out rg3 wx)
  have hne3 := hb3.ne
  have hrg3 := hb3.lt.2.2.2.2
  have hbb3 := hb3.lt.1
  have hd0 := hb3.c0
  have hd2' := hb3.c2
  have hz3w : ∀ j, w3.cell? ⟨w.heap.size, j, none⟩ = W.cell? ⟨w.heap.size, j, none⟩ := fun j => (k3 j).2
  have hdb3 := hb3.lt
  clear hb3 hB3 hq3
  have HDd4 : Hid (DAt w3.drew db m d1) := DC.below HW3.out.D (Below.refl _ _).drew
  have HRb4 : Hid (∀ w4, Kp db m w3.drew w4 → RAt w4 rb rg3 d1) := fun w4 hk => HW3.out.R.drew.kept hk (fun e => hne3.2.2.2.2.1 e.symm) (fun e => hne3.2.2.2.2.2.2.1 e.symm) (fun e => hne3.2.2.2.2.2.1 e.symm) (fun e => hne3.2.2.2.2.2.2.2 e.symm)
  have hneg4 := hne3.2.2.2.1
  have hzw3 := hz3
  go_upto_region 14 with fail
  go_region_held3 (fun w' => ∀ j, w'.cell? ⟨bb, j, none⟩ = w3.cell? ⟨bb, j, none⟩ ∧ w'.cell? ⟨w.heap.size, j, none⟩ = w3.cell? ⟨w.heap.size, j, none⟩) ((first | assumption | (intro j; exact ⟨rfl, rfl⟩)))
    (first
      | (go_at_call 30; (with_reducible refine (HA2.out _ HDd4.out).mono ?_); rintro e w4 ⟨rfl, hd4, hk4⟩; have k4 : ∀ j, w4.cell? ⟨bb, j, none⟩ = w3.cell? ⟨bb, j, none⟩ ∧ w4.cell? ⟨w.heap.size, j, none⟩ = w3.cell? ⟨w.heap.size, j, none⟩ := fun j => ⟨(hk4.cell (j := bb) (show bb < w3.heap.size by omega) hne.1 hne.2.1 j).trans rfl, (hk4.cell (j := w.heap.size) hzw3 (by omega) (by omega) j).trans rfl⟩; have HD4 := Lib.hid hd4; have HK4 := Lib.hid hk4; have hz4 : w.heap.size < w4.heap.size := Nat.lt_of_lt_of_le hzw3 hk4.size; have HRd4 := Lib.hid (HRb4.out w4 hk4); clear hd4 hk4)
      | (go_at_call 31; (with_reducible refine (HR3.out _ HRd4.out).mono ?_); rintro e w5 ⟨rfl, ho5⟩; have k5 : ∀ j, w5.cell? ⟨bb, j, none⟩ = w3.cell? ⟨bb, j, none⟩ ∧ w5.cell? ⟨w.heap.size, j, none⟩ = w3.cell? ⟨w.heap.size, j, none⟩ := fun j => ⟨(ho5.2.cell (j := bb) (show bb < w4.heap.size by omega) hne.2.2.1 hneg4 j).trans (k4 j).1, (ho5.2.cell (j := w.heap.size) hz4 (by omega) hzrg j).trans (k4 j).2⟩; have HO5 := Lib.hid ho5; have hz5 : w.heap.size < w5.heap.size := Nat.lt_of_lt_of_le hz4 ho5.2.size; clear ho5))
  all_goals
    obtain ⟨rg5, hb5, -, hB5⟩ := HW3.out.drew'.both HD4.out HK4.out HO5.out HOK2.out
    have HB5 := Lib.hid (HB3.out.drew.trans hB5)
    have HO := Lib.hid (bopen_any hb5 HST.out n)
    clear hb5 hB5
    go_wp2_with (first
      | (go_at_call 7; refine HO.out.mono ?_; rintro e w6 ⟨rfl, d', h1, h2, h3⟩; have HX := Lib.hid (And.intro h1 (And.intro (HB5.out.trans h2) h3)); clear h1 h2 h3)
      | fail)
    go_ret
    exact ⟨rfl, d', HX.out.1, HX.out.2.1, by have h9 := HX.out.2.2; have h8 := HSU.out; omega⟩
end
end Go.Proofs.YtnpgjlhnlakgpaaGreatDoor
namespace Go.Proofs.YtnpgjlhnlakgpaaGreatDoor
open Go.RowKit Go.Maps

section
variable {w : World} {B bb db m rb rg lb g mb g2 ga : Nat} {d : Dk} {l : Lg} {r : Rg} {lv mv : Value}
set_option maxRecDepth 100000 in
set_option maxHeartbeats 32000000 in
theorem step_add (h : BL w B bb db m rb rg lb g mb g2 ga d l r) (hs : d.steps + 1000000000010 < 4611686018427387904) (n : Int) (nm dt : ByteArray) (kp : Option Addr) (kn kc : Nat) (tp : Option Addr) (tn tc : Nat) (hdt : dt.size ≤ 140737488351232) :
    Calls Tryz.prog 10 #[.pointer (some ⟨bb, 0, none⟩), .agg #[.int .i64 1, .int .i64 n, .string nm, .string dt, .slice kp kn kc, .slice tp tn tc]] w fun e w' => e = .returned (.bool true) ∧ BOut w w' B bb db rb d := by
  have hbb : bb < w.heap.size := h.K.lt.1
  have hdbl : db < w.heap.size ∧ m < w.heap.size ∧ rb < w.heap.size ∧ rg < w.heap.size := ⟨h.K.lt.2.1, h.K.lt.2.2.1, h.K.lt.2.2.2.1, h.K.lt.2.2.2.2⟩
  have hne := h.K.ne
  have HBW := Lib.hid ((Below.refl w.heap.size w).alloc (Nat.le_refl _) (.cells #[.int .i64 1, .int .i64 n, .string nm, .string dt, .slice kp kn kc, .slice tp tn tc] 42))
  have ox := fun j => World.cell?_alloc_new w #[.int .i64 1, .int .i64 n, .string nm, .string dt, .slice kp kn kc, .slice tp tn tc] 42 j
  have o0 := ox 0
  have o1 := ox 1
  have o2 := ox 2
  have o3 := ox 3
  have o4 := ox 4
  have o5 := ox 5
  simp only [List.getElem?_toArray, List.getElem?_cons_zero, List.getElem?_cons_succ] at o0 o1 o2 o3 o4 o5
  have hz : w.heap.size < (w.alloc (.cells #[.int .i64 1, .int .i64 n, .string nm, .string dt, .slice kp kn kc, .slice tp tn tc] 42)).heap.size := by simp
  clear ox
  have HW := Lib.hid (h.below HBW.out)
  have c1 := HW.out.K.c1
  have c3 := HW.out.K.c3
  have hn1 := h.n1
  have hn2 := h.n2
  have hn3 := h.n3
  have hlt := h.lt
  have HBE := Lib.hid h.K.bel
  have hok := h.K.ok
  obtain ⟨a, init, lst, hP⟩ := h.P
  have hlo := hP.lok
  have hro := hP.rok
  have hfew := hP.few
  have hrn := hP.rnums
  obtain ⟨e1, e2, hp⟩ := hP.add dt.data.toList
  have HP : Hid (∃ a init lst, Pin (addW d l dt.data.toList).2.1 (addW d l dt.data.toList).2.2 (raddW d r dt.data.toList).2.2 a init lst) := ⟨a, hp⟩
  have HSU : Hid ((addW d l dt.data.toList).2.1.steps ≤ d.steps + 2000000000000) := by have := addW_st d l dt.data.toList; show _ ≤ _; omega
  have HA := Lib.hid (show ∀ wx, LgW wx B lb db m g l → DAt wx db m d → _ from fun wx hl hd => add_gen hl hlo hd hok (by omega) (by omega) dt hdt)
  have HR := Lib.hid (show ∀ wx, RgS wx B mb rb rg g2 ga r d → _ from fun wx hs' => radd_gen hs' hro hok (by omega) (by rw [hrn]; omega) dt hdt)
  obtain ⟨E, hE⟩ : ∃ E, (addW d l dt.data.toList).1 = E := ⟨_, rfl⟩
  obtain ⟨d', hd'⟩ : ∃ d', (addW d l dt.data.toList).2.1 = d' := ⟨_, rfl⟩
  obtain ⟨l', hl'⟩ : ∃ l', (addW d l dt.data.toList).2.2 = l' := ⟨_, rfl⟩
  obtain ⟨r', hr'⟩ : ∃ r', (raddW d r dt.data.toList).2.2 = r' := ⟨_, rfl⟩
  simp only [hE, hd', hl'] at HA
  rw [e1, e2] at HR
  simp only [hE, hd', hr'] at HR
  rw [hd', hl', hr'] at HP
  rw [hd'] at HSU
  clear e1 e2 hE hd' hl' hr'
  clear hdt hp
  clear h hs hP hlo hro hfew hrn hok
  go_enter Tryz.func10, Tryz.ntmps10
  go_upto_region 20 with fail
  generalize w.alloc (.cells #[.int .i64 1, .int .i64 n, .string nm, .string dt, .slice kp kn kc, .slice tp tn tc] 42) = W at *
  have HLd := Lib.hid HW.out.L.drew
  have HDd : Hid (DAt W.drew db m d) := DC.below HW.out.K.D (Below.refl _ _).drew
  go_region_held3 (fun w' => ∀ j, w'.cell? ⟨bb, j, none⟩ = W.cell? ⟨bb, j, none⟩ ∧ w'.cell? ⟨w.heap.size, j, none⟩ = W.cell? ⟨w.heap.size, j, none⟩) ((first | assumption | (intro j; exact ⟨rfl, rfl⟩)))
    (first
      | (go_at_call 21; (with_reducible refine (HA.out _ HLd.out HDd.out).mono ?_); rintro e w2 ⟨rfl, g', hl2, hd2, hk2, hg2⟩; have HG2 := Lib.hid hg2; clear hg2; have k2 : ∀ j, w2.cell? ⟨bb, j, none⟩ = W.cell? ⟨bb, j, none⟩ ∧ w2.cell? ⟨w.heap.size, j, none⟩ = W.cell? ⟨w.heap.size, j, none⟩ := fun j => ⟨(hk2.cell (j := bb) (show bb < W.heap.size by omega) (fun e => hn1.1 e.symm) hne.1 hne.2.1 (fun e => hn2.1 e.symm) j).trans rfl, (hk2.cell (j := w.heap.size) hz (by omega) (by omega) (by omega) (by omega) j).trans rfl⟩; have HL2 := Lib.hid hl2; have HD2 := Lib.hid hd2; have HK2 := Lib.hid hk2; have HS2 := Lib.hid (HW.out.drew'.skl hk2); have hz2 : w.heap.size < w2.heap.size := Nat.lt_of_lt_of_le hz hk2.size; clear hl2 hd2 hk2)
      | (go_at_call 32; (with_reducible refine (HR.out _ HS2.out).mono ?_); rintro e w3 ⟨rfl, ho3⟩; have k3 : ∀ j, w3.cell? ⟨bb, j, none⟩ = W.cell? ⟨bb, j, none⟩ ∧ w3.cell? ⟨w.heap.size, j, none⟩ = W.cell? ⟨w.heap.size, j, none⟩ := (by obtain ⟨_, _, _, _, hk3, _⟩ := ho3; exact fun j => ⟨(hk3.cell (j := bb) (show bb < w2.heap.size by omega) hn3.1 hne.2.2.1 hne.2.2.2.1 hn3.2.1 hn3.2.2 j).trans (k2 j).1, (hk3.cell (j := w.heap.size) hz2 (by omega) (by omega) (by omega) (by omega) (by omega) j).trans (k2 j).2⟩); have HO3 := Lib.hid ho3; clear ho3))
  all_goals
    obtain ⟨rg9, g29, ga9, hb9, hB9⟩ := HW.out.drew'.both HD2.out HL2.out HK2.out HG2.out HO3.out HP.out
    have HX := Lib.hid (And.intro hb9 ((HBW.out.drew.mono HBE.out.2.2.2.2.2).trans hB9))
    clear hb9 hB9
    go_wp2_with fail
    go_ret
    exact ⟨rfl, _, ⟨_, _, .inr ⟨_, _, _, _, _, _, _, HX.out.1⟩⟩, HX.out.2, HSU.out⟩
set_option maxRecDepth 100000 in
set_option maxHeartbeats 32000000 in
theorem step_sync (h : BL w B bb db m rb rg lb g mb g2 ga d l r) (hs : d.steps + 1000000000010 < 4611686018427387904) (n : Int) (nm dt : ByteArray) (kp : Option Addr) (kn kc : Nat) (tp : Option Addr) (tn tc : Nat) :
    Calls Tryz.prog 10 #[.pointer (some ⟨bb, 0, none⟩), .agg #[.int .i64 2, .int .i64 n, .string nm, .string dt, .slice kp kn kc, .slice tp tn tc]] w fun e w' => e = .returned (.bool true) ∧ BOut w w' B bb db rb d := by
  have hbb : bb < w.heap.size := h.K.lt.1
  have hdbl : db < w.heap.size ∧ m < w.heap.size ∧ rb < w.heap.size ∧ rg < w.heap.size := ⟨h.K.lt.2.1, h.K.lt.2.2.1, h.K.lt.2.2.2.1, h.K.lt.2.2.2.2⟩
  have hne := h.K.ne
  have HBW := Lib.hid ((Below.refl w.heap.size w).alloc (Nat.le_refl _) (.cells #[.int .i64 2, .int .i64 n, .string nm, .string dt, .slice kp kn kc, .slice tp tn tc] 42))
  have ox := fun j => World.cell?_alloc_new w #[.int .i64 2, .int .i64 n, .string nm, .string dt, .slice kp kn kc, .slice tp tn tc] 42 j
  have o0 := ox 0
  have o1 := ox 1
  have o2 := ox 2
  have o3 := ox 3
  have o4 := ox 4
  have o5 := ox 5
  simp only [List.getElem?_toArray, List.getElem?_cons_zero, List.getElem?_cons_succ] at o0 o1 o2 o3 o4 o5
  have hz : w.heap.size < (w.alloc (.cells #[.int .i64 2, .int .i64 n, .string nm, .string dt, .slice kp kn kc, .slice tp tn tc] 42)).heap.size := by simp
  clear ox
  have HW := Lib.hid (h.below HBW.out)
  have c1 := HW.out.K.c1
  have c3 := HW.out.K.c3
  have hn1 := h.n1
  have hn2 := h.n2
  have hn3 := h.n3
  have hlt := h.lt
  have HBE := Lib.hid h.K.bel
  have hok := h.K.ok
  obtain ⟨a, init, lst, hP⟩ := h.P
  have hlo := hP.lok
  have hro := hP.rok
  have hfew := hP.few
  have hrn := hP.rnums
  obtain ⟨e1, e2, hp⟩ := hP.sync
  have HP : Hid (∃ a init lst, Pin (syncW d l).2.1 (syncW d l).2.2 (rsyncW d r).2.2 a init lst) := ⟨a, init, lst, hp⟩
  have HSU : Hid ((syncW d l).2.1.steps ≤ d.steps + 2000000000000) := by have := syncW_st d l; show _ ≤ _; omega
  have HA := Lib.hid (show ∀ wx, LgW wx B lb db m g l → DAt wx db m d → _ from fun wx hl hd => sync_gen hl hlo hd hok (by omega))
  have HR := Lib.hid (show ∀ wx, RgS wx B mb rb rg g2 ga r d → _ from fun wx hs' => rsync_gen hs' hro hok (by omega))
  obtain ⟨E, hE⟩ : ∃ E, (syncW d l).1 = E := ⟨_, rfl⟩
  obtain ⟨d', hd'⟩ : ∃ d', (syncW d l).2.1 = d' := ⟨_, rfl⟩
  obtain ⟨l', hl'⟩ : ∃ l', (syncW d l).2.2 = l' := ⟨_, rfl⟩
  obtain ⟨r', hr'⟩ : ∃ r', (rsyncW d r).2.2 = r' := ⟨_, rfl⟩
  simp only [hE, hd', hl'] at HA
  rw [e1, e2] at HR
  simp only [hE, hd', hr'] at HR
  rw [hd', hl', hr'] at HP
  rw [hd'] at HSU
  clear e1 e2 hE hd' hl' hr'
  clear hp
  clear h hs hP hlo hro hfew hrn hok
  go_enter Tryz.func10, Tryz.ntmps10
  go_upto_region 22 with fail
  generalize w.alloc (.cells #[.int .i64 2, .int .i64 n, .string nm, .string dt, .slice kp kn kc, .slice tp tn tc] 42) = W at *
  have HLd := Lib.hid HW.out.L.drew
  have HDd : Hid (DAt W.drew db m d) := DC.below HW.out.K.D (Below.refl _ _).drew
  go_region_held3 (fun w' => ∀ j, w'.cell? ⟨bb, j, none⟩ = W.cell? ⟨bb, j, none⟩ ∧ w'.cell? ⟨w.heap.size, j, none⟩ = W.cell? ⟨w.heap.size, j, none⟩) ((first | assumption | (intro j; exact ⟨rfl, rfl⟩)))
    (first
      | (go_at_call 22; (with_reducible refine (HA.out _ HLd.out HDd.out).mono ?_); rintro e w2 ⟨rfl, hl2, hd2, hk2⟩; have k2 : ∀ j, w2.cell? ⟨bb, j, none⟩ = W.cell? ⟨bb, j, none⟩ ∧ w2.cell? ⟨w.heap.size, j, none⟩ = W.cell? ⟨w.heap.size, j, none⟩ := fun j => ⟨(hk2.cell (j := bb) (show bb < W.heap.size by omega) (fun e => hn1.1 e.symm) hne.1 hne.2.1 (fun e => hn2.1 e.symm) j).trans rfl, (hk2.cell (j := w.heap.size) hz (by omega) (by omega) (by omega) (by omega) j).trans rfl⟩; have HL2 := Lib.hid hl2; have HD2 := Lib.hid hd2; have HK2 := Lib.hid hk2; have HS2 := Lib.hid (HW.out.drew'.skl hk2); have hz2 : w.heap.size < w2.heap.size := Nat.lt_of_lt_of_le hz hk2.size; clear hl2 hd2 hk2)
      | (go_at_call 33; (with_reducible refine (HR.out _ HS2.out).mono ?_); rintro e w3 ⟨rfl, ho3⟩; have k3 : ∀ j, w3.cell? ⟨bb, j, none⟩ = W.cell? ⟨bb, j, none⟩ ∧ w3.cell? ⟨w.heap.size, j, none⟩ = W.cell? ⟨w.heap.size, j, none⟩ := (by obtain ⟨_, _, _, _, hk3, _⟩ := ho3; exact fun j => ⟨(hk3.cell (j := bb) (show bb < w2.heap.size by omega) hn3.1 hne.2.2.1 hne.2.2.2.1 hn3.2.1 hn3.2.2 j).trans (k2 j).1, (hk3.cell (j := w.heap.size) hz2 (by omega) (by omega) (by omega) (by omega) (by omega) j).trans (k2 j).2⟩); have HO3 := Lib.hid ho3; clear ho3))
  all_goals
    obtain ⟨rg9, g29, ga9, hb9, hB9⟩ := HW.out.drew'.both HD2.out HL2.out HK2.out (.inl rfl) HO3.out HP.out
    have HX := Lib.hid (And.intro hb9 ((HBW.out.drew.mono HBE.out.2.2.2.2.2).trans hB9))
    clear hb9 hB9
    go_wp2_with fail
    go_ret
    exact ⟨rfl, _, ⟨_, _, .inr ⟨_, _, _, _, _, _, _, HX.out.1⟩⟩, HX.out.2, HSU.out⟩
set_option maxRecDepth 100000 in
set_option maxHeartbeats 32000000 in
theorem step_trim (h : BL w B bb db m rb rg lb g mb g2 ga d l r) (hs : d.steps + 1000000000010 < 4611686018427387904) (n : Int) (nm dt : ByteArray) (kp : Option Addr) (kn kc : Nat) (tp : Option Addr) (tn tc : Nat) :
    Calls Tryz.prog 10 #[.pointer (some ⟨bb, 0, none⟩), .agg #[.int .i64 3, .int .i64 n, .string nm, .string dt, .slice kp kn kc, .slice tp tn tc]] w fun e w' => e = .returned (.bool true) ∧ BOut w w' B bb db rb d := by
  have hbb : bb < w.heap.size := h.K.lt.1
  have hdbl : db < w.heap.size ∧ m < w.heap.size ∧ rb < w.heap.size ∧ rg < w.heap.size := ⟨h.K.lt.2.1, h.K.lt.2.2.1, h.K.lt.2.2.2.1, h.K.lt.2.2.2.2⟩
  have hne := h.K.ne
  have HBW := Lib.hid ((Below.refl w.heap.size w).alloc (Nat.le_refl _) (.cells #[.int .i64 3, .int .i64 n, .string nm, .string dt, .slice kp kn kc, .slice tp tn tc] 42))
  have ox := fun j => World.cell?_alloc_new w #[.int .i64 3, .int .i64 n, .string nm, .string dt, .slice kp kn kc, .slice tp tn tc] 42 j
  have o0 := ox 0
  have o1 := ox 1
  have o2 := ox 2
  have o3 := ox 3
  have o4 := ox 4
  have o5 := ox 5
  simp only [List.getElem?_toArray, List.getElem?_cons_zero, List.getElem?_cons_succ] at o0 o1 o2 o3 o4 o5
  have hz : w.heap.size < (w.alloc (.cells #[.int .i64 3, .int .i64 n, .string nm, .string dt, .slice kp kn kc, .slice tp tn tc] 42)).heap.size := by simp
  clear ox
  have HW := Lib.hid (h.below HBW.out)
  have c1 := HW.out.K.c1
  have c3 := HW.out.K.c3
  have hn1 := h.n1
  have hn2 := h.n2
  have hn3 := h.n3
  have hlt := h.lt
  have HBE := Lib.hid h.K.bel
  have hok := h.K.ok
  obtain ⟨a, init, lst, hP⟩ := h.P
  have hlo := hP.lok
  have hro := hP.rok
  have hfew := hP.few
  have hrn := hP.rnums
  obtain ⟨e1, e2, a', init', hp⟩ := hP.trim n
  have e1 : (rtrimW d r n).1 = (trimW d l n).1 := e1
  have e2 : (rtrimW d r n).2.1 = (trimW d l n).2.1 := e2
  have HP : Hid (∃ a init lst, Pin (trimW d l n).2.1 (trimW d l n).2.2 (rtrimW d r n).2.2 a init lst) := ⟨a', init', lst, hp⟩
  have HSU : Hid ((trimW d l n).2.1.steps ≤ d.steps + 2000000000000) := by have : (trimW d l n).2.1.steps ≤ d.steps + l.nums.length := trimN_st n l.nums d; show _ ≤ _; omega
  have hto := hP.trimOk
  have HA := Lib.hid (show ∀ wx, LgW wx B lb db m g l → DAt wx db m d → _ from fun wx hl hd => trim_gen hl hlo hd hok (by omega) n)
  have HR := Lib.hid (show ∀ wx, RgS wx B mb rb rg g2 ga r d → _ from fun wx hs' => rtrim_gen hs' hro hok (by rw [hrn]; omega) hto n)
  obtain ⟨E, hE⟩ : ∃ E, (trimW d l n).1 = E := ⟨_, rfl⟩
  obtain ⟨d', hd'⟩ : ∃ d', (trimW d l n).2.1 = d' := ⟨_, rfl⟩
  obtain ⟨l', hl'⟩ : ∃ l', (trimW d l n).2.2 = l' := ⟨_, rfl⟩
  obtain ⟨r', hr'⟩ : ∃ r', (rtrimW d r n).2.2 = r' := ⟨_, rfl⟩
  simp only [hE, hd', hl'] at HA
  rw [e1, e2] at HR
  simp only [hE, hd', hr'] at HR
  rw [hd', hl', hr'] at HP
  rw [hd'] at HSU
  clear e1 e2 hE hd' hl' hr'
  clear hp hto
  clear h hs hP hlo hro hfew hrn hok
  go_enter Tryz.func10, Tryz.ntmps10
  go_upto_region 24 with fail
  generalize w.alloc (.cells #[.int .i64 3, .int .i64 n, .string nm, .string dt, .slice kp kn kc, .slice tp tn tc] 42) = W at *
  have HLd := Lib.hid HW.out.L.drew
  have HDd : Hid (DAt W.drew db m d) := DC.below HW.out.K.D (Below.refl _ _).drew
  go_region_held3 (fun w' => ∀ j, w'.cell? ⟨bb, j, none⟩ = W.cell? ⟨bb, j, none⟩ ∧ w'.cell? ⟨w.heap.size, j, none⟩ = W.cell? ⟨w.heap.size, j, none⟩) ((first | assumption | (intro j; exact ⟨rfl, rfl⟩)))
    (first
      | (go_at_call 34; (with_reducible refine (HA.out _ HLd.out HDd.out).mono ?_); rintro e w2 ⟨rfl, hl2, hd2, hk2⟩; have k2 : ∀ j, w2.cell? ⟨bb, j, none⟩ = W.cell? ⟨bb, j, none⟩ ∧ w2.cell? ⟨w.heap.size, j, none⟩ = W.cell? ⟨w.heap.size, j, none⟩ := fun j => ⟨(hk2.cell (j := bb) (show bb < W.heap.size by omega) (fun e => hn1.1 e.symm) hne.1 hne.2.1 (fun e => hn2.1 e.symm) j).trans rfl, (hk2.cell (j := w.heap.size) hz (by omega) (by omega) (by omega) (by omega) j).trans rfl⟩; have HL2 := Lib.hid hl2; have HD2 := Lib.hid hd2; have HK2 := Lib.hid hk2; have HS2 := Lib.hid (HW.out.drew'.skl hk2); have hz2 : w.heap.size < w2.heap.size := Nat.lt_of_lt_of_le hz hk2.size; clear hl2 hd2 hk2)
      | (go_at_call 35; (with_reducible refine (HR.out _ HS2.out).mono ?_); rintro e w3 ⟨rfl, ho3⟩; have k3 : ∀ j, w3.cell? ⟨bb, j, none⟩ = W.cell? ⟨bb, j, none⟩ ∧ w3.cell? ⟨w.heap.size, j, none⟩ = W.cell? ⟨w.heap.size, j, none⟩ := (by obtain ⟨_, _, _, _, hk3, _⟩ := ho3; exact fun j => ⟨(hk3.cell (j := bb) (show bb < w2.heap.size by omega) hn3.1 hne.2.2.1 hne.2.2.2.1 hn3.2.1 hn3.2.2 j).trans (k2 j).1, (hk3.cell (j := w.heap.size) hz2 (by omega) (by omega) (by omega) (by omega) (by omega) j).trans (k2 j).2⟩); have HO3 := Lib.hid ho3; clear ho3))
  all_goals
    obtain ⟨rg9, g29, ga9, hb9, hB9⟩ := HW.out.drew'.both HD2.out HL2.out HK2.out (.inl rfl) HO3.out HP.out
    have HX := Lib.hid (And.intro hb9 ((HBW.out.drew.mono HBE.out.2.2.2.2.2).trans hB9))
    clear hb9 hB9
    go_wp2_with fail
    go_ret
    exact ⟨rfl, _, ⟨_, _, .inr ⟨_, _, _, _, _, _, _, HX.out.1⟩⟩, HX.out.2, HSU.out⟩
set_option maxRecDepth 100000 in
set_option maxHeartbeats 16000000 in
theorem step_nil (h : BK w B bb db m rb rg (.pointer none) (.pointer none) d) (k : Int) (n : Int) (nm dt : ByteArray) (kp : Option Addr) (kn kc : Nat) (tp : Option Addr) (tn tc : Nat) (h5 : ¬ k = 5) (h6 : ¬ k = 6) (h7 : ¬ k = 7) (h8 : ¬ k = 8) :
    Calls Tryz.prog 10 #[.pointer (some ⟨bb, 0, none⟩), .agg #[.int .i64 k, .int .i64 n, .string nm, .string dt, .slice kp kn kc, .slice tp tn tc]] w fun e w' => e = .returned (.bool true) ∧ BOut w w' B bb db rb d := by
  have hbb : bb < w.heap.size := h.lt.1
  have hdbl : db < w.heap.size ∧ m < w.heap.size ∧ rb < w.heap.size ∧ rg < w.heap.size := ⟨h.lt.2.1, h.lt.2.2.1, h.lt.2.2.2.1, h.lt.2.2.2.2⟩
  have hne := h.ne
  have HBW := Lib.hid ((Below.refl w.heap.size w).alloc (Nat.le_refl _) (.cells #[.int .i64 k, .int .i64 n, .string nm, .string dt, .slice kp kn kc, .slice tp tn tc] 42))
  have ox := fun j => World.cell?_alloc_new w #[.int .i64 k, .int .i64 n, .string nm, .string dt, .slice kp kn kc, .slice tp tn tc] 42 j
  have o0 := ox 0
  have o1 := ox 1
  have o2 := ox 2
  have o3 := ox 3
  have o4 := ox 4
  have o5 := ox 5
  simp only [List.getElem?_toArray, List.getElem?_cons_zero, List.getElem?_cons_succ] at o0 o1 o2 o3 o4 o5
  have hz : w.heap.size < (w.alloc (.cells #[.int .i64 k, .int .i64 n, .string nm, .string dt, .slice kp kn kc, .slice tp tn tc] 42)).heap.size := by simp
  clear ox
  have HW := Lib.hid (h.below HBW.out)
  have HBE := Lib.hid h.bel
  have c1 := HW.out.c1
  have b5 : (k == 5) = false := by simpa using h5
  have b6 : (k == 6) = false := by simpa using h6
  have b7 : (k == 7) = false := by simpa using h7
  have b8 : (k == 8) = false := by simpa using h8
  clear h h5 h6 h7 h8
  go_enter Tryz.func10, Tryz.ntmps10
  go_wp2_with fail
  go_ret
  exact ⟨rfl, d, ⟨_, _, .inl HW.out⟩, HBW.out.mono HBE.out.2.2.2.2.2, by omega⟩
set_option maxRecDepth 100000 in
set_option maxHeartbeats 16000000 in
theorem step_none (h : BL w B bb db m rb rg lb g mb g2 ga d l r) (k : Int) (n : Int) (nm dt : ByteArray) (kp : Option Addr) (kn kc : Nat) (tp : Option Addr) (tn tc : Nat) (h5 : ¬ k = 5) (h6 : ¬ k = 6) (h7 : ¬ k = 7) (h8 : ¬ k = 8) (h1 : ¬ k = 1) (h2 : ¬ k = 2) (h3 : ¬ k = 3) (h4 : ¬ k = 4) :
    Calls Tryz.prog 10 #[.pointer (some ⟨bb, 0, none⟩), .agg #[.int .i64 k, .int .i64 n, .string nm, .string dt, .slice kp kn kc, .slice tp tn tc]] w fun e w' => e = .returned (.bool true) ∧ BOut w w' B bb db rb d := by
  have hbb : bb < w.heap.size := h.K.lt.1
  have hdbl : db < w.heap.size ∧ m < w.heap.size ∧ rb < w.heap.size ∧ rg < w.heap.size := ⟨h.K.lt.2.1, h.K.lt.2.2.1, h.K.lt.2.2.2.1, h.K.lt.2.2.2.2⟩
  have hne := h.K.ne
  have HBW := Lib.hid ((Below.refl w.heap.size w).alloc (Nat.le_refl _) (.cells #[.int .i64 k, .int .i64 n, .string nm, .string dt, .slice kp kn kc, .slice tp tn tc] 42))
  have ox := fun j => World.cell?_alloc_new w #[.int .i64 k, .int .i64 n, .string nm, .string dt, .slice kp kn kc, .slice tp tn tc] 42 j
  have o0 := ox 0
  have o1 := ox 1
  have o2 := ox 2
  have o3 := ox 3
  have o4 := ox 4
  have o5 := ox 5
  simp only [List.getElem?_toArray, List.getElem?_cons_zero, List.getElem?_cons_succ] at o0 o1 o2 o3 o4 o5
  have hz : w.heap.size < (w.alloc (.cells #[.int .i64 k, .int .i64 n, .string nm, .string dt, .slice kp kn kc, .slice tp tn tc] 42)).heap.size := by simp
  clear ox
  have HW := Lib.hid (h.below HBW.out)
  have HBE := Lib.hid h.K.bel
  have c1 := HW.out.K.c1
  have b5 : (k == 5) = false := by simpa using h5
  have b6 : (k == 6) = false := by simpa using h6
  have b7 : (k == 7) = false := by simpa using h7
  have b8 : (k == 8) = false := by simpa using h8
  have b1 : (k == 1) = false := by simpa using h1
  have b2 : (k == 2) = false := by simpa using h2
  have b3 : (k == 3) = false := by simpa using h3
  have b4 : (k == 4) = false := by simpa using h4
  clear h h5 h6 h7 h8 h1 h2 h3 h4
  go_enter Tryz.func10, Tryz.ntmps10
  go_wp2_with fail
  go_ret
  exact ⟨rfl, d, ⟨_, _, .inr ⟨_, _, _, _, _, _, _, HW.out⟩⟩, HBW.out.mono HBE.out.2.2.2.2.2, by omega⟩
end
end Go.Proofs.YtnpgjlhnlakgpaaGreatDoor
namespace Go.Proofs.YtnpgjlhnlakgpaaGreatDoor
open Go.RowKit Go.Maps

section
variable {w : World} {B bb db m rb rg lb g mb g2 ga : Nat} {d : Dk} {l : Lg} {r : Rg} {lv mv : Value}
/-- What both Reads tell. -/
theorem both_read (h : BL w B bb db m rb rg lb g mb g2 ga d l r) (n : Int) : ∃ (E : Int) (L : List (List UInt8)), L.length ≤ 1000000000000 ∧
    (∀ wx, Below w.heap.size w wx → Calls Tryz.prog 36 #[.pointer (some ⟨lb, 0, none⟩), .int .i64 n] wx fun e w2 => ∃ p cap, e = .returned (.tuple #[.slice p L.length cap, .int .i64 E]) ∧ TxtAt w2 (.slice p L.length cap) L ∧ Below wx.heap.size wx w2 ∧
      (0 < L.length → ∃ gx, p = some ⟨gx, 0, none⟩ ∧ wx.heap.size ≤ gx ∧ L.length ≤ cap ∧ ∀ i, i < L.length → (w2.cell? ⟨gx, i, none⟩).isSome = true ∧ w2.frozen? ⟨gx, i, none⟩ = false)) ∧
    (∀ wx, Below w.heap.size w wx → Calls Tryz.prog 37 #[.pointer (some ⟨mb, 0, none⟩), .int .i64 n] wx fun e w2 => ∃ p cap, e = .returned (.tuple #[.slice p L.length cap, .int .i64 E]) ∧ TxtAt w2 (.slice p L.length cap) L ∧ Below wx.heap.size wx w2) := by
  obtain ⟨a, init, lst, hP⟩ := h.P
  by_cases hbad : n < (l.first : Int) ∨ (l.next : Int) < n
  · refine ⟨1, [], by simp, fun wx hb => (read_bad (h.below hb).L hP.lok hbad).mono ?_, fun wx hb => (rread_bad (h.below hb).S hP.rok n (by rw [hP.rfirst, ← hP.first, hP.rnext]; exact hbad)).mono ?_⟩
    · rintro e w2 ⟨rfl, hb2⟩
      exact ⟨none, 0, rfl, ⟨none, 0, rfl, .inl rfl⟩, hb2, fun hq => by simp at hq⟩
    · rintro e w2 ⟨rfl, hb2⟩
      exact ⟨none, 0, rfl, ⟨none, 0, rfl, .inl rfl⟩, hb2⟩
  · have hlo := hP.lok
    obtain ⟨fr, rfl⟩ : ∃ fr : Nat, n = (fr : Int) := ⟨n.toNat, by omega⟩
    have f1 : l.first ≤ fr := by omega
    have f2 : fr ≤ l.next := by omega
    have hrd : readR d l fr = rreadW d r fr := hP.read fr
    have hall : r.all.length ≤ 1000000000000 := hP.rok.all
    refine ⟨(rreadW d r fr).2, (rreadW d r fr).1, ?_, fun wx hb => (read_gen (h.below hb).L hlo (h.below hb).K.D h.K.ok hP.few fr f1 f2).mono ?_, fun wx hb => (rread_gen (h.below hb).S hP.rok fr (by rw [hP.rfirst, ← hP.first]; exact f1) (by rw [hP.rnext]; exact f2)).mono ?_⟩
    · unfold rreadW
      split
      · simp
      · rw [List.length_drop]; omega
    · rintro e w2 ⟨he1, he2⟩
      rw [hrd] at he1 he2
      by_cases hE : (rreadW d r fr).2 = 0
      · obtain ⟨v, rfl, hsl⟩ := he1 hE
        obtain ⟨p, cap, hv⟩ := owns_sl2 hsl.o
        subst hv
        refine ⟨p, cap, by rw [hE], hsl.at, hsl.B, fun hq => ?_⟩
        obtain ⟨gx, cap', hv, hS, hg⟩ := StrAt.of_own hsl.o rfl hq
        cases hv
        exact ⟨gx, rfl, hg, hS.le, fun i hi => by have := hS.spare i (by have := hS.le; omega); rwa [Nat.zero_add] at this⟩
      · obtain ⟨rfl, hb2⟩ := he2 hE
        have hL : (rreadW d r fr).1 = [] := by
          unfold rreadW at hE ⊢
          split
          · rfl
          · rename_i hq; rw [if_neg hq] at hE; exact absurd rfl hE
        rw [hL]
        exact ⟨none, 0, rfl, ⟨none, 0, rfl, .inl rfl⟩, hb2, fun hq => by simp at hq⟩
    · rintro e w2 ⟨v, rfl, ht, hb2⟩
      obtain ⟨p, cap, rfl, ht2⟩ := id ht
      exact ⟨p, cap, rfl, ht, hb2⟩
set_option maxRecDepth 100000 in
set_option maxHeartbeats 32000000 in
theorem step_read (h : BL w B bb db m rb rg lb g mb g2 ga d l r) (n : Int) (nm dt : ByteArray) (kp : Option Addr) (kn kc : Nat) (tp : Option Addr) (tn tc : Nat) :
    Calls Tryz.prog 10 #[.pointer (some ⟨bb, 0, none⟩), .agg #[.int .i64 4, .int .i64 n, .string nm, .string dt, .slice kp kn kc, .slice tp tn tc]] w fun e w' => e = .returned (.bool true) ∧ BOut w w' B bb db rb d := by
  have hbb : bb < w.heap.size := h.K.lt.1
  have hdbl : db < w.heap.size ∧ m < w.heap.size ∧ rb < w.heap.size ∧ rg < w.heap.size := ⟨h.K.lt.2.1, h.K.lt.2.2.1, h.K.lt.2.2.2.1, h.K.lt.2.2.2.2⟩
  have hne := h.K.ne
  have HBW := Lib.hid ((Below.refl w.heap.size w).alloc (Nat.le_refl _) (.cells #[.int .i64 4, .int .i64 n, .string nm, .string dt, .slice kp kn kc, .slice tp tn tc] 42))
  have ox := fun j => World.cell?_alloc_new w #[.int .i64 4, .int .i64 n, .string nm, .string dt, .slice kp kn kc, .slice tp tn tc] 42 j
  have o0 := ox 0
  have o1 := ox 1
  have o2 := ox 2
  have o3 := ox 3
  have o4 := ox 4
  have o5 := ox 5
  simp only [List.getElem?_toArray, List.getElem?_cons_zero, List.getElem?_cons_succ] at o0 o1 o2 o3 o4 o5
  have hz : w.heap.size < (w.alloc (.cells #[.int .i64 4, .int .i64 n, .string nm, .string dt, .slice kp kn kc, .slice tp tn tc] 42)).heap.size := by simp
  clear ox
  have HW := Lib.hid (h.below HBW.out)
  have c1 := HW.out.K.c1
  have c3 := HW.out.K.c3
  have HBE := Lib.hid h.K.bel
  obtain ⟨E, L, hLl, hX, hY⟩ := both_read h n
  have HX := Lib.hid hX
  have HY := Lib.hid hY
  obtain ⟨K, hK⟩ : ∃ K, L.length = K := ⟨_, rfl⟩
  rw [hK] at HX HY hLl
  have HKK := Lib.hid hK
  have HTX := Lib.hid (show ∀ wx va vb, TxtAt wx va L → TxtAt wx vb L → Calls Tryz.prog 38 #[va, vb] wx fun e w' => e = .returned (.bool true) ∧ Below wx.heap.size wx w' from fun wx va vb h1 h2 => (texts_any h1 h2 (by rw [hK]; omega) (by rw [hK]; omega)).mono fun e w' h3 => by rw [decide_eq_true rfl] at h3; exact h3)
  clear hX hY hK h
  go_enter Tryz.func10, Tryz.ntmps10
  go_upto_region 26 with fail
  generalize w.alloc (.cells #[.int .i64 4, .int .i64 n, .string nm, .string dt, .slice kp kn kc, .slice tp tn tc] 42) = W at *
  go_region_held3 (fun w' => ∀ j, w'.cell? ⟨bb, j, none⟩ = W.cell? ⟨bb, j, none⟩ ∧ w'.cell? ⟨w.heap.size, j, none⟩ = W.cell? ⟨w.heap.size, j, none⟩) ((first | assumption | (intro j; exact ⟨rfl, rfl⟩)))
    (first
      | (go_at_call 36; (with_reducible refine (HX.out _ HBW.out.drew).mono ?_); rintro e w2 ⟨p, cap, rfl, ht2, hb2, hc2⟩; have k2 : ∀ j, w2.cell? ⟨bb, j, none⟩ = W.cell? ⟨bb, j, none⟩ ∧ w2.cell? ⟨w.heap.size, j, none⟩ = W.cell? ⟨w.heap.size, j, none⟩ := fun j => ⟨(hb2.cell (p := ⟨bb, j, none⟩) (show bb < W.heap.size by omega)).trans rfl, (hb2.cell (p := ⟨w.heap.size, j, none⟩) hz).trans rfl⟩; have HT2 := Lib.hid ht2; have HB2 := Lib.hid (((Below.refl W.heap.size W).drew).trans hb2); have HC2 := Lib.hid hc2; have hz2 : w.heap.size < w2.heap.size := Nat.lt_of_lt_of_le hz hb2.size; clear ht2 hb2 hc2))
  go_upto_region 27 with fail
  have HBd2 := Lib.hid ((HBW.out.trans (HB2.out.mono (Nat.le_of_lt hz))).drew)
  go_region_held3 (fun w' => ∀ j, w'.cell? ⟨bb, j, none⟩ = w2.cell? ⟨bb, j, none⟩ ∧ w'.cell? ⟨w.heap.size, j, none⟩ = w2.cell? ⟨w.heap.size, j, none⟩) ((first | assumption | (intro j; exact ⟨rfl, rfl⟩)))
    (first
      | (go_at_call 37; (with_reducible refine (HY.out _ HBd2.out).mono ?_); rintro e w3 ⟨p', cap', rfl, ht3, hb3⟩; have k3 : ∀ j, w3.cell? ⟨bb, j, none⟩ = w2.cell? ⟨bb, j, none⟩ ∧ w3.cell? ⟨w.heap.size, j, none⟩ = w2.cell? ⟨w.heap.size, j, none⟩ := fun j => ⟨(hb3.cell (p := ⟨bb, j, none⟩) (show bb < w2.heap.size by omega)).trans rfl, (hb3.cell (p := ⟨w.heap.size, j, none⟩) hz2).trans rfl⟩; have HT3 := Lib.hid ht3; have HB3 := Lib.hid (((Below.refl w2.heap.size w2).drew).trans hb3); clear ht3 hb3))
  have HT2b := Lib.hid (HT2.out.below HB3.out)
  go_upto_region 29 with (first
    | (go_at_call 38; (with_reducible refine (HTX.out _ _ _ HT2b.out HT3.out).mono ?_); rintro e w4 ⟨rfl, hb4⟩; have HB4 := Lib.hid (HB3.out.trans (hb4.mono HB3.out.size)); clear hb4)
    | fail)
  have HW4 : Hid (Below W.heap.size W w4) := HB2.out.trans (HB4.out.mono HB2.out.size)
  have HC4 : Hid (0 < K → ∃ gx, p = some ⟨gx, 0, none⟩ ∧ W.heap.size ≤ gx ∧ K ≤ cap ∧ ∀ i, i < K → (w4.cell? ⟨gx, i, none⟩).isSome = true ∧ w4.frozen? ⟨gx, i, none⟩ = false) := fun hq => by
    obtain ⟨gx, e1, e2, e3, e4⟩ := HC2.out hq
    refine ⟨gx, e1, e2, e3, fun i hi => ?_⟩
    obtain ⟨q1, q2⟩ := e4 i hi
    have hlt : gx < w2.heap.size := by
      obtain ⟨u, hu⟩ := Option.isSome_iff_exists.1 q1
      exact World.block_lt_of_cell? w2 _ hu
    have hbk := HB4.out.block gx hlt
    rw [World.cell?_of_block (a := ⟨gx, i, none⟩) hbk, World.frozen?_of_block (a := ⟨gx, i, none⟩) hbk]
    exact ⟨q1, q2⟩
  clear k2 k3
  go_wp2_with fail
  go_loopw [188] (fun iv wr => ∃ i : Nat, i ≤ K ∧ iv = .int .i64 (i : Int) ∧ Below W.heap.size W wr ∧ (0 < K → ∃ gx, p = some ⟨gx, 0, none⟩ ∧ W.heap.size ≤ gx ∧ K ≤ cap ∧ ∀ i, i < K → (wr.cell? ⟨gx, i, none⟩).isSome = true ∧ wr.frozen? ⟨gx, i, none⟩ = false)) (fun iv _ => K - (intOf iv).toNat)
  case atStart => exact ⟨0, Nat.zero_le _, rfl, HW4.out, HC4.out⟩
  case round =>
    obtain ⟨i, hi, rfl, hbr, hcr⟩ := hrel
    have HBR := Lib.hid hbr
    clear hbr
    by_cases hlt : i < K
    · obtain ⟨gx, rfl, hgx, hkc, hcc⟩ := hcr (by omega)
      have HCC := Lib.hid hcc
      obtain ⟨q1, q2⟩ := hcc i hlt
      obtain ⟨u, hu⟩ := Option.isSome_iff_exists.1 q1
      have hli : (i : Int) < (K : Int) := by omega
      have hl0 : (0 : Int) ≤ (i : Int) := by omega
      clear hcc q1
      go_wp2_with fail
      go_roundw
      case rel =>
        refine ⟨i + 1, by omega, by go_num, HBR.out.setCell (p := ⟨gx, i, none⟩) hgx _, fun _ => ⟨gx, rfl, hgx, hkc, fun j hj => ?_⟩⟩
        rw [World.frozen?_setCell]
        refine ⟨?_, (HCC.out j hj).2⟩
        by_cases e : j = i
        · subst e; rw [World.cell?_setCell_same _ _ _ hu]; rfl
        · rw [World.cell?_setCell_other _ _ _ _ (fun q => e (Addr.mk.inj q).2.1.symm)]; exact (HCC.out j hj).1
      case measure => simp [intOf]; omega
    · have hli : ¬ (i : Int) < (K : Int) := by omega
      clear hcr
      go_wp2_with fail
      go_ret
      exact ⟨rfl, d, ⟨_, _, .inr ⟨_, _, _, _, _, _, _, HW.out.below HBR.out⟩⟩, (HBW.out.trans (HBR.out.mono (Nat.le_of_lt hz))).mono HBE.out.2.2.2.2.2, by omega⟩
end
end Go.Proofs.YtnpgjlhnlakgpaaGreatDoor

/- Contracts of the reference's disk: Append, Sync (printed by gen_ref.py). Contracts of the reference's disk: Cut (printed by gen_ref.py). Contracts of the reference's disk: Read, Arm, New, Clone, List; of the disk's List; of Texts. Contracts of the reference's Clone and List, of the disk's List, of Texts. -/
import Derived.Test.YtnpgjlhnlakgpaaGreatDoorG14
import Derived.Test.YtnpgjlhnlakgpaaGreatDoorKeep
import Derived.StillTailTactics
import Derived.IntWalk
import Derived.Deep.QuietTactic
import Derived.BigQuiet
import Derived.Test.YtnpgjlhnlakgpaaGreatDoorG06
import Derived.Laws.AppendOwnNone
namespace Go.Proofs.YtnpgjlhnlakgpaaGreatDoor
open Go.RowKit Go.Maps

theorem RAt.drew {w : World} {b g : Nat} {d : Dk} (h : RAt w b g d) : RAt w.drew b g d := h.below (Below.refl _ _).drew
set_option maxRecDepth 100000 in
set_option maxHeartbeats 8000000 in
theorem ref_append {d : Dk} {w : World} {b g : Nat} (h : RAt w b g d) (hok : d.Ok) (hs : d.steps < 4611686018427387904) (nm : ByteArray) (dt : ByteArray) (hdt : dt.size ≤ maxLen) :
    Calls Tryz.prog 31 #[.pointer (some ⟨b, 0, none⟩), .string nm, .string dt] w fun e w' => e = .returned (.int .i64 (d.append nm dt).1) ∧ ROut w w' b g (d.append nm dt).2 := by
  have H := Lib.hid h
  have HOK := Lib.hid hok
  have hm := hok.many
  have hl := hok.left
  have hus := hok.used
  have hrm := hok.room
  unfold maxLen at *
  clear hok h
  by_cases ho : d.off = true
  · have HO := Lib.hid ho
    have E := Lib.hid (show d.append nm dt = (143, d) by simp [Dk.append, ho])
    clear ho
    rw [E.out]
    go_enter Tryz.func31, Tryz.ntmps31
    go_wp2_with fail
    refine (ref_at H.out hm nm).mono ?_
    rintro e w1 ⟨rfl, hB1⟩
    have HD1 := Lib.hid (H.out.below hB1)
    have HK1 := Lib.hid (Kp.of_below (b := b) (m := g) hB1)
    have hz1 := hB1.size
    have c3 := HD1.out.c3
    rw [HO.out] at c3
    clear hB1
    go_wp2_with fail
    go_ret
    exact ⟨rfl, ROut.same HD1.out HK1.out⟩
  · have ho' : d.off = false := by simpa using ho
    have HO := Lib.hid ho'
    cases hf : findF nm.data.toList d.L with
    | none =>
      have HF := Lib.hid hf
      have E := Lib.hid (show d.append nm dt = (140, d) by simp [Dk.append, ho', hf])
      clear ho ho' hf
      rw [E.out]
      go_enter Tryz.func31, Tryz.ntmps31
      go_wp2_with fail
      refine (ref_at_miss H.out hm HF.out).mono ?_
      rintro e w1 ⟨rfl, hB1⟩
      have HD1 := Lib.hid (H.out.below hB1)
      have HK1 := Lib.hid (Kp.of_below (b := b) (m := g) hB1)
      have hz1 := hB1.size
      have c3 := HD1.out.c3
      rw [HO.out] at c3
      clear hB1
      go_wp2_with fail
      go_ret
      exact ⟨rfl, ROut.same HD1.out HK1.out⟩
    | some f =>
      obtain ⟨i, hix, hif⟩ := idx_some hf
      have HI := Lib.hid hix
      have HIF := Lib.hid hif
      have hil : i < d.L.length := (List.getElem?_eq_some_iff.1 hif).1
      have hfu := mem_used (List.mem_of_getElem? hif)
      have hfs := HOK.out.safe f (List.mem_of_getElem? hif)
      have hk : f.name = nm := ba_of_list (findF_key hf)
      have HKN := Lib.hid hk
      clear hix hif hk
      by_cases hrm2 : d.room - usedF d.L < dt.size
      · have E := Lib.hid (show d.append nm dt = (142, d) by simp [Dk.append, ho', hf, hrm2])
        have hrmI : (d.room : Int) - (usedF d.L : Int) < (dt.size : Int) := by omega
        clear ho ho' hf hrm2
        rw [E.out]
        go_enter Tryz.func31, Tryz.ntmps31
        go_wp2_with fail
        refine (ref_at_hit H.out hm HI.out).mono ?_
        rintro e w1 ⟨rfl, hB1⟩
        have HD1 := Lib.hid (H.out.below hB1)
        have HK1 := Lib.hid (Kp.of_below (b := b) (m := g) hB1)
        have hz1 := hB1.size
        have c3 := HD1.out.c3
        rw [HO.out] at c3
        clear hB1
        have c0 := HD1.out.c0
        have hbl := HD1.out.lt
        have HUSED := Lib.hid (show ∀ wx, Below w1.heap.size w1 wx → Calls Tryz.prog 68 #[.pointer (some ⟨b, 0, none⟩)] wx fun e w' => e = .returned (.int .i64 (usedF d.L : Int)) ∧ Below wx.heap.size wx w' from fun wx hb => ref_used (HD1.out.below hb) hm (by omega))
        go_upto_region 6 with fail
        have q0 : ∀ (u : GW (fun w' => Below w1.heap.size w1 w')), u.w.cell? ⟨b, 0, none⟩ = some (.int .i64 (d.room : Int)) := fun u => by rw [u.h.cell (p := ⟨b, 0, none⟩) hbl]; exact c0
        have hne := GW.ne (Inv := fun w' => Below w1.heap.size w1 w') (Below.refl _ _)
        have r1 := IntWalk.i64_in ((d.room : Int) - (usedF d.L : Int)) (by omega)
        refine wp_region_grow (fun w' => Below w1.heap.size w1 w') (by kernel_rfl) (by kernel_rfl) (Below.refl _ _).drew ?_
        repeat (go_big_quiet_step ((go_at_call 68; refine (HUSED.out _ (GW.h _)).mono ?_; rintro e w1 ⟨rfl, hb⟩; exact ⟨rfl, below_next _ hb⟩)))
        refine wpQuiet_nil ?_
        intro _ hw'
        obtain ⟨⟨w4, h4⟩, hw''⟩ := hw'
        subst hw''
        clear r1 q0 hne c0 c3
        have HD4 := Lib.hid (HD1.out.below h4)
        have HK4 := Lib.hid (HK1.out.step h4)
        clear h4 HD1 HK1
        have HD1 := HD4
        have HK1 := HK4
        clear HD4 HK4 HUSED
        go_wp2_with fail
        go_ret
        exact ⟨rfl, ROut.same HD1.out HK1.out⟩
      · have hrmI : ¬ (d.room : Int) - (usedF d.L : Int) < (dt.size : Int) := by omega
        cases hr : d.refuses with
        | true =>
          have HR := Lib.hid hr
          have E := Lib.hid (show d.append nm dt = (143, d.gone) by simp [Dk.append, ho', hf, hrm2, act_no hr])
          clear ho ho' hf hr hrm2
          rw [E.out]
          go_enter Tryz.func31, Tryz.ntmps31
          go_wp2_with fail
          refine (ref_at_hit H.out hm HI.out).mono ?_
          rintro e w1 ⟨rfl, hB1⟩
          have HD1 := Lib.hid (H.out.below hB1)
          have HK1 := Lib.hid (Kp.of_below (b := b) (m := g) hB1)
          have hz1 := hB1.size
          have c3 := HD1.out.c3
          rw [HO.out] at c3
          clear hB1
          have c0 := HD1.out.c0
          have hbl := HD1.out.lt
          have HUSED := Lib.hid (show ∀ wx, Below w1.heap.size w1 wx → Calls Tryz.prog 68 #[.pointer (some ⟨b, 0, none⟩)] wx fun e w' => e = .returned (.int .i64 (usedF d.L : Int)) ∧ Below wx.heap.size wx w' from fun wx hb => ref_used (HD1.out.below hb) hm (by omega))
          go_upto_region 6 with fail
          have q0 : ∀ (u : GW (fun w' => Below w1.heap.size w1 w')), u.w.cell? ⟨b, 0, none⟩ = some (.int .i64 (d.room : Int)) := fun u => by rw [u.h.cell (p := ⟨b, 0, none⟩) hbl]; exact c0
          have hne := GW.ne (Inv := fun w' => Below w1.heap.size w1 w') (Below.refl _ _)
          have r1 := IntWalk.i64_in ((d.room : Int) - (usedF d.L : Int)) (by omega)
          refine wp_region_grow (fun w' => Below w1.heap.size w1 w') (by kernel_rfl) (by kernel_rfl) (Below.refl _ _).drew ?_
          repeat (go_big_quiet_step ((go_at_call 68; refine (HUSED.out _ (GW.h _)).mono ?_; rintro e w1 ⟨rfl, hb⟩; exact ⟨rfl, below_next _ hb⟩)))
          refine wpQuiet_nil ?_
          intro _ hw'
          obtain ⟨⟨w4, h4⟩, hw''⟩ := hw'
          subst hw''
          clear r1 q0 hne c0 c3
          have HD4 := Lib.hid (HD1.out.below h4)
          have HK4 := Lib.hid (HK1.out.step h4)
          clear h4 HD1 HK1
          have HD1 := HD4
          have HK1 := HK4
          clear HD4 HK4 HUSED
          go_wp2_with fail
          refine (ref_step_no HD1.out HR.out).mono ?_
          rintro e w2 ⟨rfl, hd2, hk2⟩
          have HD2 := Lib.hid hd2
          have HK2 := Lib.hid (HK1.out.trans hk2)
          clear hd2 hk2
          go_wp2_with fail
          go_ret
          exact ⟨rfl, ROut.same HD2.out HK2.out⟩
        | false =>
          have HR := Lib.hid hr
          have E := Lib.hid (show d.append nm dt = (0, { d.stepped with L := putF { f with bytes := f.bytes ++ dt } d.L }) by simp [Dk.append, ho', hf, hrm2, act_go hr])
          clear ho ho' hf hr hrm2
          rw [E.out]
          go_enter Tryz.func31, Tryz.ntmps31
          go_wp2_with fail
          refine (ref_at_hit H.out hm HI.out).mono ?_
          rintro e w1 ⟨rfl, hB1⟩
          have HD1 := Lib.hid (H.out.below hB1)
          have HK1 := Lib.hid (Kp.of_below (b := b) (m := g) hB1)
          have hz1 := hB1.size
          have c3 := HD1.out.c3
          rw [HO.out] at c3
          clear hB1
          have c0 := HD1.out.c0
          have hbl := HD1.out.lt
          have HUSED := Lib.hid (show ∀ wx, Below w1.heap.size w1 wx → Calls Tryz.prog 68 #[.pointer (some ⟨b, 0, none⟩)] wx fun e w' => e = .returned (.int .i64 (usedF d.L : Int)) ∧ Below wx.heap.size wx w' from fun wx hb => ref_used (HD1.out.below hb) hm (by omega))
          go_upto_region 6 with fail
          have q0 : ∀ (u : GW (fun w' => Below w1.heap.size w1 w')), u.w.cell? ⟨b, 0, none⟩ = some (.int .i64 (d.room : Int)) := fun u => by rw [u.h.cell (p := ⟨b, 0, none⟩) hbl]; exact c0
          have hne := GW.ne (Inv := fun w' => Below w1.heap.size w1 w') (Below.refl _ _)
          have r1 := IntWalk.i64_in ((d.room : Int) - (usedF d.L : Int)) (by omega)
          refine wp_region_grow (fun w' => Below w1.heap.size w1 w') (by kernel_rfl) (by kernel_rfl) (Below.refl _ _).drew ?_
          repeat (go_big_quiet_step ((go_at_call 68; refine (HUSED.out _ (GW.h _)).mono ?_; rintro e w1 ⟨rfl, hb⟩; exact ⟨rfl, below_next _ hb⟩)))
          refine wpQuiet_nil ?_
          intro _ hw'
          obtain ⟨⟨w4, h4⟩, hw''⟩ := hw'
          subst hw''
          clear r1 q0 hne c0 c3
          have HD4 := Lib.hid (HD1.out.below h4)
          have HK4 := Lib.hid (HK1.out.step h4)
          clear h4 HD1 HK1
          have HD1 := HD4
          have HK1 := HK4
          clear HD4 HK4 HUSED
          go_wp2_with fail
          refine (ref_step_go HD1.out HR.out hl hs).mono ?_
          rintro e w2 ⟨rfl, hd2, hk2⟩
          have HD2 := Lib.hid hd2
          have HK2 := Lib.hid (HK1.out.trans hk2)
          have hz2 := HK2.out.size
          clear hd2 hk2
          obtain ⟨fn, fb, fs⟩ := f
          obtain ⟨c, x1, hgb, a0, a1, a2, e1, e2⟩ := HD2.out.file HIF.out
          have HLL := Lib.hid (show d.stepped.L.length = d.L.length from rfl)
          have x1' : w2.cell? ⟨b, 1, none⟩ = some (.slice (some ⟨g, 0, none⟩) d.L.length c) := x1
          clear x1 a0 a2 e2
          simp only at a1
          have HNEW := Lib.hid (HD2.out.set_bytes HIF.out (fb ++ dt))
          go_wp2_with fail
          go_ret
          refine ⟨rfl, ROut.same ?_ (HK2.out.set2 _ _)⟩
          have h9 := HNEW.out
          rw [show d.stepped.L.set i ⟨fn, fb ++ dt, fs⟩ = putF ⟨fn, fb ++ dt, fs⟩ d.L from (putF_set (f := ⟨fn, fb ++ dt, fs⟩) HOK.out.rise HIF.out rfl).symm] at h9
          exact h9
set_option maxRecDepth 100000 in
set_option maxHeartbeats 8000000 in
theorem ref_sync {d : Dk} {w : World} {b g : Nat} (h : RAt w b g d) (hok : d.Ok) (hs : d.steps < 4611686018427387904) (nm : ByteArray) :
    Calls Tryz.prog 59 #[.pointer (some ⟨b, 0, none⟩), .string nm] w fun e w' => e = .returned (.int .i64 (d.sync nm).1) ∧ ROut w w' b g (d.sync nm).2 := by
  have H := Lib.hid h
  have HOK := Lib.hid hok
  have hm := hok.many
  have hl := hok.left
  have hus := hok.used
  have hrm := hok.room
  unfold maxLen at *
  clear hok h
  by_cases ho : d.off = true
  · have HO := Lib.hid ho
    have E := Lib.hid (show d.sync nm = (143, d) by simp [Dk.sync, ho])
    clear ho
    rw [E.out]
    go_enter Tryz.func59, Tryz.ntmps59
    go_wp2_with fail
    refine (ref_at H.out hm nm).mono ?_
    rintro e w1 ⟨rfl, hB1⟩
    have HD1 := Lib.hid (H.out.below hB1)
    have HK1 := Lib.hid (Kp.of_below (b := b) (m := g) hB1)
    have hz1 := hB1.size
    have c3 := HD1.out.c3
    rw [HO.out] at c3
    clear hB1
    go_wp2_with fail
    go_ret
    exact ⟨rfl, ROut.same HD1.out HK1.out⟩
  · have ho' : d.off = false := by simpa using ho
    have HO := Lib.hid ho'
    cases hf : findF nm.data.toList d.L with
    | none =>
      have HF := Lib.hid hf
      have E := Lib.hid (show d.sync nm = (140, d) by simp [Dk.sync, ho', hf])
      clear ho ho' hf
      rw [E.out]
      go_enter Tryz.func59, Tryz.ntmps59
      go_wp2_with fail
      refine (ref_at_miss H.out hm HF.out).mono ?_
      rintro e w1 ⟨rfl, hB1⟩
      have HD1 := Lib.hid (H.out.below hB1)
      have HK1 := Lib.hid (Kp.of_below (b := b) (m := g) hB1)
      have hz1 := hB1.size
      have c3 := HD1.out.c3
      rw [HO.out] at c3
      clear hB1
      go_wp2_with fail
      go_ret
      exact ⟨rfl, ROut.same HD1.out HK1.out⟩
    | some f =>
      obtain ⟨i, hix, hif⟩ := idx_some hf
      have HI := Lib.hid hix
      have HIF := Lib.hid hif
      have hil : i < d.L.length := (List.getElem?_eq_some_iff.1 hif).1
      have hfu := mem_used (List.mem_of_getElem? hif)
      have hfs := HOK.out.safe f (List.mem_of_getElem? hif)
      have hk : f.name = nm := ba_of_list (findF_key hf)
      have HKN := Lib.hid hk
      clear hix hif hk
      cases hr : d.refuses with
      | true =>
        have HR := Lib.hid hr
        have E := Lib.hid (show d.sync nm = (143, d.gone) by simp [Dk.sync, ho', hf, act_no hr])
        clear ho ho' hf hr 
        rw [E.out]
        go_enter Tryz.func59, Tryz.ntmps59
        go_wp2_with fail
        refine (ref_at_hit H.out hm HI.out).mono ?_
        rintro e w1 ⟨rfl, hB1⟩
        have HD1 := Lib.hid (H.out.below hB1)
        have HK1 := Lib.hid (Kp.of_below (b := b) (m := g) hB1)
        have hz1 := hB1.size
        have c3 := HD1.out.c3
        rw [HO.out] at c3
        clear hB1
        go_wp2_with fail
        refine (ref_step_no HD1.out HR.out).mono ?_
        rintro e w2 ⟨rfl, hd2, hk2⟩
        have HD2 := Lib.hid hd2
        have HK2 := Lib.hid (HK1.out.trans hk2)
        clear hd2 hk2
        go_wp2_with fail
        go_ret
        exact ⟨rfl, ROut.same HD2.out HK2.out⟩
      | false =>
        have HR := Lib.hid hr
        have E := Lib.hid (show d.sync nm = (0, { d.stepped with L := putF { f with safe := f.bytes.size } d.L }) by simp [Dk.sync, ho', hf, act_go hr])
        clear ho ho' hf hr 
        rw [E.out]
        go_enter Tryz.func59, Tryz.ntmps59
        go_wp2_with fail
        refine (ref_at_hit H.out hm HI.out).mono ?_
        rintro e w1 ⟨rfl, hB1⟩
        have HD1 := Lib.hid (H.out.below hB1)
        have HK1 := Lib.hid (Kp.of_below (b := b) (m := g) hB1)
        have hz1 := hB1.size
        have c3 := HD1.out.c3
        rw [HO.out] at c3
        clear hB1
        go_wp2_with fail
        refine (ref_step_go HD1.out HR.out hl hs).mono ?_
        rintro e w2 ⟨rfl, hd2, hk2⟩
        have HD2 := Lib.hid hd2
        have HK2 := Lib.hid (HK1.out.trans hk2)
        have hz2 := HK2.out.size
        clear hd2 hk2
        obtain ⟨fn, fb, fs⟩ := f
        obtain ⟨c, x1, hgb, a0, a1, a2, e1, e2⟩ := HD2.out.file HIF.out
        have x1' : w2.cell? ⟨b, 1, none⟩ = some (.slice (some ⟨g, 0, none⟩) d.L.length c) := x1
        simp only at a1 a2 hfu hfs
        clear x1 a0 c3
        have HNEW := Lib.hid (HD2.out.drew.set_safe HIF.out fb.size)
        have HK3 := Lib.hid (HK2.out.drew)
        have hli : (i : Int) < (d.L.length : Int) := by omega
        have hi0 : (0 : Int) ≤ (i : Int) := by omega
        go_upto_region 8 with fail
        go_still_tail 16, (by kernel_rfl)
        change wpList _ _ _ _ _ w2.drew
        have e3 : w2.drew.frozen? ⟨g, i * 3 + 2, none⟩ = false := e2
        have a3 : w2.drew.cell? ⟨g, i * 3 + 2, none⟩ = some (.int .i64 (fs : Int)) := a2
        clear x1' a1 a2 e1 e2
        generalize w2.drew = w3 at *
        go_wp2_with fail
        go_ret
        refine ⟨rfl, ROut.same ?_ (HK3.out.set2 _ _)⟩
        have h9 := HNEW.out
        rw [show d.stepped.L.set i ⟨fn, fb, fb.size⟩ = putF ⟨fn, fb, fb.size⟩ d.L from (putF_set (f := ⟨fn, fb, fb.size⟩) HOK.out.rise HIF.out rfl).symm] at h9
        exact h9
end Go.Proofs.YtnpgjlhnlakgpaaGreatDoor
namespace Go.Proofs.YtnpgjlhnlakgpaaGreatDoor
open Go.RowKit Go.Maps

set_option maxRecDepth 100000 in
set_option maxHeartbeats 8000000 in
theorem ref_cut {d : Dk} {w : World} {b g : Nat} (h : RAt w b g d) (hok : d.Ok) (hs : d.steps < 4611686018427387904) (nm : ByteArray) (n : Int) (hn : n ≤ 9223372036854775807) :
    Calls Tryz.prog 58 #[.pointer (some ⟨b, 0, none⟩), .string nm, .int .i64 n] w fun e w' => e = .returned (.int .i64 (d.cut nm n).1) ∧ ROut w w' b g (d.cut nm n).2 := by
  have H := Lib.hid h
  have HOK := Lib.hid hok
  have hm := hok.many
  have hl := hok.left
  have hus := hok.used
  have hrm := hok.room
  unfold maxLen at *
  clear hok h
  by_cases ho : d.off = true
  · have HO := Lib.hid ho
    have E := Lib.hid (show d.cut nm n = (143, d) by simp [Dk.cut, ho])
    clear ho
    rw [E.out]
    go_enter Tryz.func58, Tryz.ntmps58
    go_wp2_with fail
    refine (ref_at H.out hm nm).mono ?_
    rintro e w1 ⟨rfl, hB1⟩
    have HD1 := Lib.hid (H.out.below hB1)
    have HK1 := Lib.hid (Kp.of_below (b := b) (m := g) hB1)
    have hz1 := hB1.size
    have c3 := HD1.out.c3
    rw [HO.out] at c3
    clear hB1
    go_wp2_with fail
    go_ret
    exact ⟨rfl, ROut.same HD1.out HK1.out⟩
  · have ho' : d.off = false := by simpa using ho
    have HO := Lib.hid ho'
    cases hf : findF nm.data.toList d.L with
    | none =>
      have HF := Lib.hid hf
      have E := Lib.hid (show d.cut nm n = (140, d) by simp [Dk.cut, ho', hf])
      clear ho ho' hf
      rw [E.out]
      go_enter Tryz.func58, Tryz.ntmps58
      go_wp2_with fail
      refine (ref_at_miss H.out hm HF.out).mono ?_
      rintro e w1 ⟨rfl, hB1⟩
      have HD1 := Lib.hid (H.out.below hB1)
      have HK1 := Lib.hid (Kp.of_below (b := b) (m := g) hB1)
      have hz1 := hB1.size
      have c3 := HD1.out.c3
      rw [HO.out] at c3
      clear hB1
      go_wp2_with fail
      go_ret
      exact ⟨rfl, ROut.same HD1.out HK1.out⟩
    | some f =>
      obtain ⟨i, hix, hif⟩ := idx_some hf
      have HI := Lib.hid hix
      have HIF := Lib.hid hif
      have hil : i < d.L.length := (List.getElem?_eq_some_iff.1 hif).1
      have hfu := mem_used (List.mem_of_getElem? hif)
      have hfs := HOK.out.safe f (List.mem_of_getElem? hif)
      have hk : f.name = nm := ba_of_list (findF_key hf)
      have HKN := Lib.hid hk
      clear hix hif hk
      obtain ⟨fn, fb, fs⟩ := f
      simp only at hfu hfs
      by_cases hn0 : n < 0
      · have E := Lib.hid (show d.cut nm n = (1, d) by simp only [Dk.cut, ho', hf]; rw [if_neg (by simp), if_pos (by omega)])
        clear ho ho' hf
        rw [E.out]
        go_enter Tryz.func58, Tryz.ntmps58
        go_wp2_with fail
        refine (ref_at_hit H.out hm HI.out).mono ?_
        rintro e w1 ⟨rfl, hB1⟩
        have HD1 := Lib.hid (H.out.below hB1)
        have HK1 := Lib.hid (Kp.of_below (b := b) (m := g) hB1)
        have hz1 := hB1.size
        have c3 := HD1.out.c3
        rw [HO.out] at c3
        clear hB1
        obtain ⟨c, x1, hgb, a0, a1, a2, e1, e2⟩ := HD1.out.file HIF.out
        simp only at a1 a2 hfu hfs
        clear a0 e1 e2 a2

        go_wp2_with fail
        go_ret
        exact ⟨rfl, ROut.same HD1.out HK1.out⟩
      · obtain ⟨k, rfl⟩ : ∃ k : Nat, n = (k : Int) := ⟨n.toNat, by omega⟩
        by_cases hkz : fb.size < k
        · have E := Lib.hid (show d.cut nm (k : Int) = (1, d) by simp only [Dk.cut, ho', hf]; rw [if_neg (by simp), if_pos (by omega)])
          clear ho ho' hf
          rw [E.out]
          go_enter Tryz.func58, Tryz.ntmps58
          go_wp2_with fail
          refine (ref_at_hit H.out hm HI.out).mono ?_
          rintro e w1 ⟨rfl, hB1⟩
          have HD1 := Lib.hid (H.out.below hB1)
          have HK1 := Lib.hid (Kp.of_below (b := b) (m := g) hB1)
          have hz1 := hB1.size
          have c3 := HD1.out.c3
          rw [HO.out] at c3
          clear hB1
          obtain ⟨c, x1, hgb, a0, a1, a2, e1, e2⟩ := HD1.out.file HIF.out
          simp only at a1 a2 hfu hfs
          clear a0 e1 e2 a2

          go_wp2_with fail
          go_ret
          exact ⟨rfl, ROut.same HD1.out HK1.out⟩
        · cases hr : d.refuses with
          | true =>
            have HR := Lib.hid hr
            have E := Lib.hid (show d.cut nm (k : Int) = (143, d.gone) by simp only [Dk.cut, ho', hf]; rw [if_neg (by simp), if_neg (by omega), act_no hr])
            clear ho ho' hf hr 
            rw [E.out]
            go_enter Tryz.func58, Tryz.ntmps58
            go_wp2_with fail
            refine (ref_at_hit H.out hm HI.out).mono ?_
            rintro e w1 ⟨rfl, hB1⟩
            have HD1 := Lib.hid (H.out.below hB1)
            have HK1 := Lib.hid (Kp.of_below (b := b) (m := g) hB1)
            have hz1 := hB1.size
            have c3 := HD1.out.c3
            rw [HO.out] at c3
            clear hB1
            obtain ⟨c, x1, hgb, a0, a1, a2, e1, e2⟩ := HD1.out.file HIF.out
            simp only at a1 a2 hfu hfs
            clear a0 e1 e2 a2
            go_wp2_with fail
            refine (ref_step_no HD1.out HR.out).mono ?_
            rintro e w2 ⟨rfl, hd2, hk2⟩
            have HD2 := Lib.hid hd2
            have HK2 := Lib.hid (HK1.out.trans hk2)
            clear hd2 hk2
            go_wp2_with fail
            go_ret
            exact ⟨rfl, ROut.same HD2.out HK2.out⟩
          | false =>
            by_cases hmin : k < fs
            · have hmm : min fs k = k := Nat.min_eq_right (by omega)
              have HR := Lib.hid hr
              have E := Lib.hid (show d.cut nm (k : Int) = (0, { d.stepped with L := putF ⟨fn, fb.extract 0 k, k⟩ d.L }) by simp only [Dk.cut, ho', hf]; rw [if_neg (by simp), if_neg (by omega), act_go hr, Int.toNat_natCast, hmm])
              clear ho ho' hf hr hmm
              rw [E.out]
              go_enter Tryz.func58, Tryz.ntmps58
              go_wp2_with fail
              refine (ref_at_hit H.out hm HI.out).mono ?_
              rintro e w1 ⟨rfl, hB1⟩
              have HD1 := Lib.hid (H.out.below hB1)
              have HK1 := Lib.hid (Kp.of_below (b := b) (m := g) hB1)
              have hz1 := hB1.size
              have c3 := HD1.out.c3
              rw [HO.out] at c3
              clear hB1
              obtain ⟨c, x1, hgb, a0, a1, a2, e1, e2⟩ := HD1.out.file HIF.out
              simp only at a1 a2 hfu hfs
              clear a0 e1 e2 a2
              go_wp2_with fail
              refine (ref_step_go HD1.out HR.out hl hs).mono ?_
              rintro e w2 ⟨rfl, hd2, hk2⟩
              have HD2 := Lib.hid hd2
              have HK2 := Lib.hid (HK1.out.trans hk2)
              have hz2 := HK2.out.size
              clear hd2 hk2
              obtain ⟨c', x1', hgb, b0, b1, b2, e1, e2⟩ := HD2.out.file HIF.out
              have x2' : w2.cell? ⟨b, 1, none⟩ = some (.slice (some ⟨g, 0, none⟩) d.L.length c') := x1'
              clear x1 x1' a1 b0 c3
              have HNEW := Lib.hid (HD2.out.drew.set_bytes HIF.out (fb.extract 0 k))
              have HK3 := Lib.hid (HK2.out.drew)
              have hli : (i : Int) < (d.L.length : Int) := by omega
              have hi0 : (0 : Int) ≤ (i : Int) := by omega
              have hk0 : (0 : Int) ≤ (k : Int) := by omega
              have hk1 : (k : Int) ≤ (fb.size : Int) := by omega
              go_upto_region 10 with fail
              go_still_tail 17, (by kernel_rfl)
              change wpList _ _ _ _ _ w2.drew
              have y1 : w2.drew.cell? ⟨b, 1, none⟩ = some (.slice (some ⟨g, 0, none⟩) d.L.length c') := x2'
              have y2 : w2.drew.cell? ⟨g, i * 3 + 2, none⟩ = some (.int .i64 (fs : Int)) := b2
              have y3 : w2.drew.cell? ⟨g, i * 3 + 1, none⟩ = some (.string fb) := b1
              have z1 : w2.drew.frozen? ⟨g, i * 3 + 1, none⟩ = false := e1
              have z2 : w2.drew.frozen? ⟨g, i * 3 + 2, none⟩ = false := e2
              clear x2' b1 b2 e1 e2
              generalize w2.drew = w3 at *
              have HK4 := Lib.hid (HK3.out.set2 (i * 3 + 1) (.string (fb.extract 0 k)))
              have u1 : (w3.setCell ⟨g, i * 3 + 1, none⟩ (.string (fb.extract 0 k))).cell? ⟨b, 1, none⟩ = some (.slice (some ⟨g, 0, none⟩) d.L.length c') := by
                rw [World.cell?_setCell_other (h := fun e => hgb (Addr.mk.inj e).1)]; exact y1
              have u2 : (w3.setCell ⟨g, i * 3 + 1, none⟩ (.string (fb.extract 0 k))).cell? ⟨g, i * 3 + 2, none⟩ = some (.int .i64 (fs : Int)) := setc (by omega) y2
              have u3 : (w3.setCell ⟨g, i * 3 + 1, none⟩ (.string (fb.extract 0 k))).frozen? ⟨g, i * 3 + 2, none⟩ = false := setf z2
              go_upto_region 11 with fail
              clear y1 y2 y3 z1 z2
              generalize w3.setCell ⟨g, i * 3 + 1, none⟩ (.string (fb.extract 0 k)) = w4 at *
              go_still_tail 17, (by kernel_rfl)
              change wpList _ _ _ _ _ w4.drew
              have v2 : w4.drew.cell? ⟨g, i * 3 + 2, none⟩ = some (.int .i64 (fs : Int)) := u2
              have v3 : w4.drew.frozen? ⟨g, i * 3 + 2, none⟩ = false := u3
              clear u1 u2 u3
              have HNEW2 := Lib.hid (HNEW.out.drew.set_safe (i := i) (f := ⟨fn, fb.extract 0 k, fs⟩) (by show (d.stepped.L.set i _)[i]? = _; rw [List.getElem?_set_self (by exact hil)]) (k))
              have HK5 := Lib.hid (HK4.out.drew)
              generalize w4.drew = w5 at *
              go_wp2_with fail
              go_ret
              refine ⟨rfl, ROut.same ?_ (HK5.out.set2 _ _)⟩
              have h9 := HNEW2.out
              rw [List.set_set] at h9
              rw [show d.stepped.L.set i ⟨fn, fb.extract 0 k, k⟩ = putF ⟨fn, fb.extract 0 k, k⟩ d.L from (putF_set (f := ⟨fn, fb.extract 0 k, k⟩) HOK.out.rise HIF.out rfl).symm] at h9
              first
                | exact h9
                | (have e : min (fs : Int) (k : Int) = (k : Int) := by omega
                   rw [e]; exact h9)
            · have hmm : min fs k = fs := Nat.min_eq_left (by omega)
              have HR := Lib.hid hr
              have E := Lib.hid (show d.cut nm (k : Int) = (0, { d.stepped with L := putF ⟨fn, fb.extract 0 k, fs⟩ d.L }) by simp only [Dk.cut, ho', hf]; rw [if_neg (by simp), if_neg (by omega), act_go hr, Int.toNat_natCast, hmm])
              clear ho ho' hf hr hmm
              rw [E.out]
              go_enter Tryz.func58, Tryz.ntmps58
              go_wp2_with fail
              refine (ref_at_hit H.out hm HI.out).mono ?_
              rintro e w1 ⟨rfl, hB1⟩
              have HD1 := Lib.hid (H.out.below hB1)
              have HK1 := Lib.hid (Kp.of_below (b := b) (m := g) hB1)
              have hz1 := hB1.size
              have c3 := HD1.out.c3
              rw [HO.out] at c3
              clear hB1
              obtain ⟨c, x1, hgb, a0, a1, a2, e1, e2⟩ := HD1.out.file HIF.out
              simp only at a1 a2 hfu hfs
              clear a0 e1 e2 a2
              go_wp2_with fail
              refine (ref_step_go HD1.out HR.out hl hs).mono ?_
              rintro e w2 ⟨rfl, hd2, hk2⟩
              have HD2 := Lib.hid hd2
              have HK2 := Lib.hid (HK1.out.trans hk2)
              have hz2 := HK2.out.size
              clear hd2 hk2
              obtain ⟨c', x1', hgb, b0, b1, b2, e1, e2⟩ := HD2.out.file HIF.out
              have x2' : w2.cell? ⟨b, 1, none⟩ = some (.slice (some ⟨g, 0, none⟩) d.L.length c') := x1'
              clear x1 x1' a1 b0 c3
              have HNEW := Lib.hid (HD2.out.drew.set_bytes HIF.out (fb.extract 0 k))
              have HK3 := Lib.hid (HK2.out.drew)
              have hli : (i : Int) < (d.L.length : Int) := by omega
              have hi0 : (0 : Int) ≤ (i : Int) := by omega
              have hk0 : (0 : Int) ≤ (k : Int) := by omega
              have hk1 : (k : Int) ≤ (fb.size : Int) := by omega
              go_upto_region 10 with fail
              go_still_tail 17, (by kernel_rfl)
              change wpList _ _ _ _ _ w2.drew
              have y1 : w2.drew.cell? ⟨b, 1, none⟩ = some (.slice (some ⟨g, 0, none⟩) d.L.length c') := x2'
              have y2 : w2.drew.cell? ⟨g, i * 3 + 2, none⟩ = some (.int .i64 (fs : Int)) := b2
              have y3 : w2.drew.cell? ⟨g, i * 3 + 1, none⟩ = some (.string fb) := b1
              have z1 : w2.drew.frozen? ⟨g, i * 3 + 1, none⟩ = false := e1
              have z2 : w2.drew.frozen? ⟨g, i * 3 + 2, none⟩ = false := e2
              clear x2' b1 b2 e1 e2
              generalize w2.drew = w3 at *
              have HK4 := Lib.hid (HK3.out.set2 (i * 3 + 1) (.string (fb.extract 0 k)))
              have u1 : (w3.setCell ⟨g, i * 3 + 1, none⟩ (.string (fb.extract 0 k))).cell? ⟨b, 1, none⟩ = some (.slice (some ⟨g, 0, none⟩) d.L.length c') := by
                rw [World.cell?_setCell_other (h := fun e => hgb (Addr.mk.inj e).1)]; exact y1
              have u2 : (w3.setCell ⟨g, i * 3 + 1, none⟩ (.string (fb.extract 0 k))).cell? ⟨g, i * 3 + 2, none⟩ = some (.int .i64 (fs : Int)) := setc (by omega) y2
              have u3 : (w3.setCell ⟨g, i * 3 + 1, none⟩ (.string (fb.extract 0 k))).frozen? ⟨g, i * 3 + 2, none⟩ = false := setf z2
              go_upto_region 11 with fail
              clear y1 y2 y3 z1 z2
              generalize w3.setCell ⟨g, i * 3 + 1, none⟩ (.string (fb.extract 0 k)) = w4 at *
              go_still_tail 17, (by kernel_rfl)
              change wpList _ _ _ _ _ w4.drew
              have v2 : w4.drew.cell? ⟨g, i * 3 + 2, none⟩ = some (.int .i64 (fs : Int)) := u2
              have v3 : w4.drew.frozen? ⟨g, i * 3 + 2, none⟩ = false := u3
              clear u1 u2 u3
              have HNEW2 := Lib.hid (HNEW.out.drew.set_safe (i := i) (f := ⟨fn, fb.extract 0 k, fs⟩) (by show (d.stepped.L.set i _)[i]? = _; rw [List.getElem?_set_self (by exact hil)]) (fs))
              have HK5 := Lib.hid (HK4.out.drew)
              generalize w4.drew = w5 at *
              go_wp2_with fail
              go_ret
              refine ⟨rfl, ROut.same ?_ (HK5.out.set2 _ _)⟩
              have h9 := HNEW2.out
              rw [List.set_set] at h9
              rw [show d.stepped.L.set i ⟨fn, fb.extract 0 k, fs⟩ = putF ⟨fn, fb.extract 0 k, fs⟩ d.L from (putF_set (f := ⟨fn, fb.extract 0 k, fs⟩) HOK.out.rise HIF.out rfl).symm] at h9
              first
                | exact h9
                | (have e : min (fs : Int) (k : Int) = (fs : Int) := by omega
                   rw [e]; exact h9)
end Go.Proofs.YtnpgjlhnlakgpaaGreatDoor
namespace Go.Proofs.YtnpgjlhnlakgpaaGreatDoor
open Go.RowKit Go.Maps

set_option maxRecDepth 100000 in
set_option maxHeartbeats 4000000 in
theorem ref_read {d : Dk} {w : World} {b g : Nat} (h : RAt w b g d) (hok : d.Ok) (nm : ByteArray) :
    Calls Tryz.prog 54 #[.pointer (some ⟨b, 0, none⟩), .string nm] w fun e w' => e = .returned (.tuple #[.string (d.read nm).1, .int .i64 (d.read nm).2]) ∧ Below w.heap.size w w' := by
  have H := Lib.hid h
  have hm := hok.many
  clear h
  by_cases ho : d.off = true
  · have E := Lib.hid (show d.read nm = (⟨#[]⟩, 143) by simp [Dk.read, ho]; rfl)
    have HO := Lib.hid ho
    clear ho
    rw [E.out]
    go_enter Tryz.func54, Tryz.ntmps54
    go_wp2_with fail
    refine (ref_at H.out hm nm).mono ?_
    rintro e w1 ⟨rfl, hB1⟩
    have c3 := (H.out.below hB1).c3
    rw [HO.out] at c3
    have HB1 := Lib.hid hB1
    clear hB1
    go_wp2_with fail
    go_ret2
    exact ⟨rfl, HB1.out⟩
  · have ho' : d.off = false := by simpa using ho
    have HO := Lib.hid ho'
    cases hf : findF nm.data.toList d.L with
    | none =>
      have E := Lib.hid (show d.read nm = (⟨#[]⟩, 140) by simp [Dk.read, ho', hf]; rfl)
      have HF := Lib.hid hf
      clear ho ho' hf
      rw [E.out]
      go_enter Tryz.func54, Tryz.ntmps54
      go_wp2_with fail
      refine (ref_at_miss H.out hm HF.out).mono ?_
      rintro e w1 ⟨rfl, hB1⟩
      have c3 := (H.out.below hB1).c3
      rw [HO.out] at c3
      have HB1 := Lib.hid hB1
      clear hB1
      go_wp2_with fail
      go_ret2
      exact ⟨rfl, HB1.out⟩
    | some f =>
      have E := Lib.hid (show d.read nm = (f.bytes, 0) by simp [Dk.read, ho', hf])
      obtain ⟨i, hix, hif⟩ := idx_some hf
      have HI := Lib.hid hix
      have HIF := Lib.hid hif
      have hil : i < d.L.length := (List.getElem?_eq_some_iff.1 hif).1
      clear ho ho' hf hix hif
      rw [E.out]
      go_enter Tryz.func54, Tryz.ntmps54
      go_wp2_with fail
      refine (ref_at_hit H.out hm HI.out).mono ?_
      rintro e w1 ⟨rfl, hB1⟩
      have HD1 := H.out.below hB1
      have c3 := HD1.c3
      rw [HO.out] at c3
      obtain ⟨c, x1, hgb, a0, a1, a2, e1, e2⟩ := HD1.file HIF.out
      obtain ⟨fn, fb, fs⟩ := f
      simp only at a1
      have HB1 := Lib.hid hB1
      clear hB1 HD1 a0 a2 e1 e2
      go_wp2_with fail
      go_ret2
      exact ⟨rfl, HB1.out⟩

set_option maxHeartbeats 2000000 in
theorem ref_arm {d : Dk} {w : World} {b g : Nat} (h : RAt w b g d) (n : Int) :
    Calls Tryz.prog 25 #[.pointer (some ⟨b, 0, none⟩), .int .i64 n] w fun e w' => e = .returned (.tuple #[]) ∧ ROut w w' b g (d.arm n) := by
  have c3 := h.c3
  obtain ⟨lv, hc, hr⟩ := id h
  have c2 := hc.c2
  have f2 := hc.f2
  have H := Lib.hid h
  have HC := Lib.hid hc
  have HR := Lib.hid hr
  clear h hc hr
  by_cases ho : d.off = true
  · have E := Lib.hid (show d.arm n = d by simp [Dk.arm, ho])
    rw [ho] at c3
    clear ho
    rw [E.out]
    go_enter Tryz.func25, Tryz.ntmps25
    go_wp2_with fail
    exact bodyPost_ret (results_none rfl _ _ _) rfl ⟨rfl, ROut.same H.out (Kp.refl _ _ _)⟩
  · have ho' : d.off = false := by simpa using ho
    rw [ho'] at c3
    by_cases hn : 0 ≤ n
    · obtain ⟨k, rfl⟩ : ∃ k : Nat, n = (k : Int) := ⟨n.toNat, by omega⟩
      have E := Lib.hid (show d.arm k = { d with armed := true, left := k } by simp [Dk.arm, ho'])
      clear ho ho' hn
      rw [E.out]
      go_enter Tryz.func25, Tryz.ntmps25
      go_wp2_with fail
      all_goals first
        | (exfalso; omega)
        | (go_end0
           refine ⟨rfl, ROut.same ?_ ((Kp.refl _ _ _).setCell 2 _)⟩
           (try rw [show max (k : Int) (-1) = (k : Int) by omega])
           exact ⟨lv, HC.out.set2 (k : Int), HR.out.of fun hgb => Below.heap_setCell _ _ _ _ hgb⟩)
    · have E := Lib.hid (show d.arm n = { d with armed := false, left := 0 } by simp [Dk.arm, ho']; omega)
      have hn' : n < 0 := by omega
      clear ho ho' hn
      rw [E.out]
      go_enter Tryz.func25, Tryz.ntmps25
      go_wp2_with fail
      all_goals first
        | (go_end0
           refine ⟨rfl, ROut.same ?_ ((Kp.refl _ _ _).setCell 2 _)⟩
           (try rw [show max n (-1) = (-1 : Int) by omega])
           exact ⟨lv, HC.out.set2 (-1), HR.out.of fun hgb => Below.heap_setCell _ _ _ _ hgb⟩)
        | (obtain rfl : n = -1 := by omega
           go_end0
           refine ⟨rfl, ROut.same ?_ ((Kp.refl _ _ _).setCell 2 _)⟩
           exact ⟨lv, HC.out.set2 (-1), HR.out.of fun hgb => Below.heap_setCell _ _ _ _ hgb⟩)
theorem rc_new (w : World) (room : Int) (lv : Value) (armed : Int) (off : Bool) (count : Int) (t : TypeId) :
    RC (w.alloc (.cells #[.int .i64 room, lv, .int .i64 armed, .bool off, .int .i64 count] t)) w.heap.size room lv armed off count := by
  have hc : ∀ o, (w.alloc (.cells #[.int .i64 room, lv, .int .i64 armed, .bool off, .int .i64 count] t)).cell? ⟨w.heap.size, o, none⟩ = (#[.int .i64 room, lv, .int .i64 armed, .bool off, .int .i64 count] : Array Value)[o]? := fun o => World.cell?_alloc_new _ _ _ _
  have hf : ∀ o, (w.alloc (.cells #[.int .i64 room, lv, .int .i64 armed, .bool off, .int .i64 count] t)).frozen? ⟨w.heap.size, o, none⟩ = false := fun o => World.frozen?_alloc_new ..
  exact ⟨by rw [hc]; rfl, by rw [hc]; rfl, by rw [hc]; rfl, by rw [hc]; rfl, by rw [hc]; rfl, hf 1, hf 2, hf 3, hf 4⟩
set_option maxHeartbeats 1000000 in
theorem ref_new_bad (r : Int) (w : World) (h : r < 0 ∨ 4194304 < r) : Calls Tryz.prog 5 #[.int .i64 r] w fun e w' => e = .returned (.tuple #[.pointer none, .int .i64 1]) ∧ w = w' := by
  rcases h with h | h
  · go_enter Tryz.func5, Tryz.ntmps5
    go_wp2_with fail
    go_ret2
    exact ⟨rfl, rfl⟩
  · have h0 : ¬ r < 0 := by omega
    go_enter Tryz.func5, Tryz.ntmps5
    go_wp2_with fail
    go_ret2
    exact ⟨rfl, rfl⟩
set_option maxHeartbeats 1000000 in
theorem ref_new_ok (r : Nat) (w : World) (h : r ≤ 4194304) : Calls Tryz.prog 5 #[.int .i64 (r : Int)] w fun e w' => e = .returned (.tuple #[.pointer (some ⟨w.heap.size, 0, none⟩), .int .i64 0]) ∧ RAt w' w.heap.size w.heap.size (Dk.new r) ∧ Below w.heap.size w w' := by
  go_enter Tryz.func5, Tryz.ntmps5
  go_wp2_with fail
  go_ret2
  exact ⟨rfl, ⟨_, rc_new _ _ _ _ _ _ _, World.ownsRow_nil _ _ _ _, rfl⟩, (Below.refl _ _).alloc (Nat.le_refl _) _⟩
end Go.Proofs.YtnpgjlhnlakgpaaGreatDoor
namespace Go.Proofs.YtnpgjlhnlakgpaaGreatDoor
open Go.RowKit Go.Maps

theorem cells_of_row {w : World} {b g : Nat} {lv : Value} {L : List Fl} (h : RowAt w b g lv L) (hne : L ≠ []) : ∃ c, lv = .slice (some ⟨g, 0, none⟩) L.length c ∧ L.length ≤ c ∧ g < w.heap.size ∧ ∀ j u, (fileCells L)[j]? = some u → w.cell? ⟨g, j, none⟩ = some u := by
  obtain ⟨p, c, rfl, hlc, hf⟩ := h.files
  obtain ⟨rfl, hg, -⟩ := hf.resolve_left hne
  refine ⟨c, rfl, hlc, hg, fun j u hj => ?_⟩
  have h9 := h.1.cells (g := g) rfl j u hj
  have hadd : (⟨g, 0, none⟩ : Addr).add j = ⟨g, j, none⟩ := by unfold Addr.add; split <;> simp_all
  rwa [hadd] at h9

set_option maxRecDepth 100000 in
set_option maxHeartbeats 4000000 in
theorem ref_list {d : Dk} {w : World} {b g : Nat} (h : RAt w b g d) (hm : d.L.length ≤ 64) (ho : d.off = false) :
    Calls Tryz.prog 52 #[.pointer (some ⟨b, 0, none⟩)] w fun e w' => ∃ v, e = .returned (.tuple #[v, .int .i64 0]) ∧ w'.ownsRow w.heap.size 9 1 v d.L.length (nameVals d.L) ∧ Below w.heap.size w w' := by
  obtain ⟨i0, hi, hz0, hz1, hz2⟩ := info_parts strinfo
  have c3 := h.c3
  rw [ho] at c3
  obtain ⟨lv, hc, hr⟩ := h
  obtain ⟨p, c, rfl, hlc, hf⟩ := hr.files
  have c1 := hc.c1
  have HF := Lib.hid hf
  clear hc hr hf hlc ho
  generalize hn : d.L.length = n at *
  have HN := Lib.hid hn
  clear hn
  go_enter Tryz.func52, Tryz.ntmps52
  go_wp2_with fail
  go_loopw [4, 16] (fun ov iv wr => ∃ i : Nat, i ≤ n ∧ iv = .int .i64 (i : Int) ∧ wr.ownsRow w.heap.size 9 1 ov i (nameVals (d.L.take i)) ∧ Below w.heap.size w wr) (fun _ iv _ => n - (intOf iv).toNat)
  case atStart => exact ⟨0, Nat.zero_le _, rfl, World.ownsRow_nil _ _ _ _, Below.refl _ _⟩
  case round =>
    obtain ⟨i, hi', rfl, hrow, hbw⟩ := hrel
    have HBW := Lib.hid hbw
    have HROW := Lib.hid hrow
    have hzr := hbw.size
    obtain ⟨op, on, oc, hov⟩ := owns_slice HROW.out
    subst hov
    clear hbw hrow
    by_cases hlt : i < n
    · have hla : d.L.length = n := HN.out
      obtain ⟨f, hf⟩ : ∃ f, d.L[i]? = some f := ⟨d.L[i], List.getElem?_eq_getElem (by omega)⟩
      obtain ⟨rfl, hg, hcs⟩ := HF.out.resolve_left (fun e => by rw [e] at hla; simp at hla; omega)
      obtain ⟨a0, a1, a2⟩ := file_cells (w' := wr) hg HBW.out (hcs i f hf)
      have HE := Lib.hid (show nameVals (d.L.take (i + 1)) = nameVals (d.L.take i) ++ [.string f.name] by rw [List.take_add_one, hf]; simp [nameVals])
      obtain ⟨fn, fb, fs⟩ := f
      simp only at a0 a1 a2
      clear hf hcs hla
      go_upto_region 7 with fail
      obtain ⟨z0, z1, z2⟩ := file_box (W := wr) (.string fn) (.string fb) (.int .i64 (fs : Int)) 75 rfl
      have HBA := Lib.hid (HBW.out.alloc hzr (.cells #[.string fn, .string fb, .int .i64 (fs : Int)] 75))
      have HRA := Lib.hid (HROW.out.alloc (.cells #[.string fn, .string fb, .int .i64 (fs : Int)] 75))
      have hza : wr.heap.size < (wr.alloc (.cells #[.string fn, .string fb, .int .i64 (fs : Int)] 75)).heap.size := by simp
      generalize wr.alloc (.cells #[.string fn, .string fb, .int .i64 (fs : Int)] 75) = wa at *
      clear a0 a1 a2 HROW HBW
      go_wp2_with (first
        | (at_builtin; refine wpList_append_own _ rfl _ _ 55 rfl w.heap.size 9 i0 (.string ⟨#[]⟩) 1 16 Tryz.underlying55 hi hz0 hz1 hz2 rfl (by decide) _ _ _ rfl (HRA.out.alloc _) ⟨wa.heap.size, 0, none⟩ 1 1 [.string fn] rfl rfl (cell_one_new _ _ _) (by simp [Value.oneCell']) (by unfold maxLen; omega) (by omega) (by simp; omega) ?_; intro v' w3 hown' hg3 _; have HO3 := Lib.hid hown'; have HG3 := Lib.hid hg3; clear hown' hg3; go_frame)
        | fail)
      go_roundw
      case rel =>
        refine ⟨i + 1, by omega, by go_num, ?_, ?_⟩
        · rw [HE.out]; exact HO3.out
        · exact (HBA.out.alloc (by omega) _).grown HG3.out (by simp; omega) (fun j hj => (HRA.out.lt j hj).1)
      case measure => simp [intOf]; omega
    · obtain rfl : i = n := by omega
      have HE := Lib.hid (show d.L.take i = d.L from List.take_of_length_le (by rw [HN.out]; omega))
      go_wp2_with fail
      go_ret2
      refine ⟨_, rfl, ?_, HBW.out⟩
      rw [← HE.out]
      exact HROW.out
set_option maxHeartbeats 2000000 in
theorem ref_list_off {d : Dk} {w : World} {b g : Nat} (h : RAt w b g d) (ho : d.off = true) :
    Calls Tryz.prog 52 #[.pointer (some ⟨b, 0, none⟩)] w fun e w' => e = .returned (.tuple #[.slice none 0 0, .int .i64 143]) ∧ w = w' := by
  have c3 := h.c3
  rw [ho] at c3
  clear h ho
  go_enter Tryz.func52, Tryz.ntmps52
  go_wp2_with fail
  go_ret2
  exact ⟨rfl, rfl⟩
end Go.Proofs.YtnpgjlhnlakgpaaGreatDoor

/- Contracts of the reference's disk: Append, Sync (printed by gen_ref.py). -/
import Derived.Test.YtcjhkonjlhpmhaaVfsR3
import Derived.Test.YtcjhkonjlhpmhaaKeep
import Derived.StillTailTactics
import Derived.IntWalk
namespace Go.Proofs.Ytcjhkonjlhpmhaa
open Go.RowKit Go.Maps

theorem RAt.drew {w : World} {b g : Nat} {d : Dk} (h : RAt w b g d) : RAt w.drew b g d := h.below (Below.refl _ _).drew
set_option maxRecDepth 100000 in
set_option maxHeartbeats 8000000 in
theorem ref_append {d : Dk} {w : World} {b g : Nat} (h : RAt w b g d) (hok : d.Ok) (hs : d.steps < 4611686018427387904) (nm : ByteArray) (dt : ByteArray) (hdt : dt.size ≤ maxLen) :
    Calls Try.prog 43 #[.pointer (some ⟨b, 0, none⟩), .string nm, .string dt] w fun e w' => e = .returned (.int .i64 (d.append nm dt).1) ∧ ROut w w' b g (d.append nm dt).2 := by
  have H := Lib.hid h
  have HOK := Lib.hid hok
  have hm := hok.many
  have hl := hok.left
  have hus := hok.used
  have hrm := hok.room
  unfold maxLen at *
  clear hok h
  by_cases ho : d.off = true
  · have HO := Lib.hid ho
    have E := Lib.hid (show d.append nm dt = (143, d) by simp [Dk.append, ho])
    clear ho
    rw [E.out]
    go_enter Try.func43, Try.ntmps43
    go_wp2_with fail
    refine (ref_at H.out hm nm).mono ?_
    rintro e w1 ⟨rfl, hB1⟩
    have HD1 := Lib.hid (H.out.below hB1)
    have HK1 := Lib.hid (Kp.of_below (b := b) (m := g) hB1)
    have hz1 := hB1.size
    have c3 := HD1.out.c3
    rw [HO.out] at c3
    clear hB1
    go_wp2_with fail
    go_ret
    exact ⟨rfl, ROut.same HD1.out HK1.out⟩
  · have ho' : d.off = false := by simpa using ho
    have HO := Lib.hid ho'
    cases hf : findF nm.data.toList d.L with
    | none =>
      have HF := Lib.hid hf
      have E := Lib.hid (show d.append nm dt = (140, d) by simp [Dk.append, ho', hf])
      clear ho ho' hf
      rw [E.out]
      go_enter Try.func43, Try.ntmps43
      go_wp2_with fail
      refine (ref_at_miss H.out hm HF.out).mono ?_
      rintro e w1 ⟨rfl, hB1⟩
      have HD1 := Lib.hid (H.out.below hB1)
      have HK1 := Lib.hid (Kp.of_below (b := b) (m := g) hB1)
      have hz1 := hB1.size
      have c3 := HD1.out.c3
      rw [HO.out] at c3
      clear hB1
      go_wp2_with fail
      go_ret
      exact ⟨rfl, ROut.same HD1.out HK1.out⟩
    | some f =>
      obtain ⟨i, hix, hif⟩ := idx_some hf
      have HI := Lib.hid hix
      have HIF := Lib.hid hif
      have hil : i < d.L.length := (List.getElem?_eq_some_iff.1 hif).1
      have hfu := mem_used (List.mem_of_getElem? hif)
      have hfs := HOK.out.safe f (List.mem_of_getElem? hif)
      have hk : f.name = nm := ba_of_list (findF_key hf)
      have HKN := Lib.hid hk
      clear hix hif hk
      by_cases hrm2 : d.room - usedF d.L < dt.size
      · have E := Lib.hid (show d.append nm dt = (142, d) by simp [Dk.append, ho', hf, hrm2])
        have hrmI : (d.room : Int) - (usedF d.L : Int) < (dt.size : Int) := by omega
        clear ho ho' hf hrm2
        rw [E.out]
        go_enter Try.func43, Try.ntmps43
        go_wp2_with fail
        refine (ref_at_hit H.out hm HI.out).mono ?_
        rintro e w1 ⟨rfl, hB1⟩
        have HD1 := Lib.hid (H.out.below hB1)
        have HK1 := Lib.hid (Kp.of_below (b := b) (m := g) hB1)
        have hz1 := hB1.size
        have c3 := HD1.out.c3
        rw [HO.out] at c3
        clear hB1
        have c0 := HD1.out.c0
        have hbl := HD1.out.lt
        have HUSED := Lib.hid (show ∀ wx, Below w1.heap.size w1 wx → Calls Try.prog 60 #[.pointer (some ⟨b, 0, none⟩)] wx fun e w' => e = .returned (.int .i64 (usedF d.L : Int)) ∧ Below wx.heap.size wx w' from fun wx hb => ref_used (HD1.out.below hb) hm (by omega))
        go_upto_region 6 with fail
        have q0 : ∀ (u : GW (fun w' => Below w1.heap.size w1 w')), u.w.cell? ⟨b, 0, none⟩ = some (.int .i64 (d.room : Int)) := fun u => by rw [u.h.cell (p := ⟨b, 0, none⟩) hbl]; exact c0
        have hne := GW.ne (Inv := fun w' => Below w1.heap.size w1 w') (Below.refl _ _)
        have r1 := IntWalk.i64_in ((d.room : Int) - (usedF d.L : Int)) (by omega)
        refine wp_region_grow (fun w' => Below w1.heap.size w1 w') (by kernel_rfl) (by kernel_rfl) (Below.refl _ _).drew ?_
        repeat (go_big_quiet_step ((go_at_call 60; refine (HUSED.out _ (GW.h _)).mono ?_; rintro e w1 ⟨rfl, hb⟩; exact ⟨rfl, below_next _ hb⟩)))
        refine wpQuiet_nil ?_
        intro _ hw'
        obtain ⟨⟨w4, h4⟩, hw''⟩ := hw'
        subst hw''
        clear r1 q0 hne c0 c3
        have HD4 := Lib.hid (HD1.out.below h4)
        have HK4 := Lib.hid (HK1.out.step h4)
        clear h4 HD1 HK1
        have HD1 := HD4
        have HK1 := HK4
        clear HD4 HK4 HUSED
        go_wp2_with fail
        go_ret
        exact ⟨rfl, ROut.same HD1.out HK1.out⟩
      · have hrmI : ¬ (d.room : Int) - (usedF d.L : Int) < (dt.size : Int) := by omega
        cases hr : d.refuses with
        | true =>
          have HR := Lib.hid hr
          have E := Lib.hid (show d.append nm dt = (143, d.gone) by simp [Dk.append, ho', hf, hrm2, act_no hr])
          clear ho ho' hf hr hrm2
          rw [E.out]
          go_enter Try.func43, Try.ntmps43
          go_wp2_with fail
          refine (ref_at_hit H.out hm HI.out).mono ?_
          rintro e w1 ⟨rfl, hB1⟩
          have HD1 := Lib.hid (H.out.below hB1)
          have HK1 := Lib.hid (Kp.of_below (b := b) (m := g) hB1)
          have hz1 := hB1.size
          have c3 := HD1.out.c3
          rw [HO.out] at c3
          clear hB1
          have c0 := HD1.out.c0
          have hbl := HD1.out.lt
          have HUSED := Lib.hid (show ∀ wx, Below w1.heap.size w1 wx → Calls Try.prog 60 #[.pointer (some ⟨b, 0, none⟩)] wx fun e w' => e = .returned (.int .i64 (usedF d.L : Int)) ∧ Below wx.heap.size wx w' from fun wx hb => ref_used (HD1.out.below hb) hm (by omega))
          go_upto_region 6 with fail
          have q0 : ∀ (u : GW (fun w' => Below w1.heap.size w1 w')), u.w.cell? ⟨b, 0, none⟩ = some (.int .i64 (d.room : Int)) := fun u => by rw [u.h.cell (p := ⟨b, 0, none⟩) hbl]; exact c0
          have hne := GW.ne (Inv := fun w' => Below w1.heap.size w1 w') (Below.refl _ _)
          have r1 := IntWalk.i64_in ((d.room : Int) - (usedF d.L : Int)) (by omega)
          refine wp_region_grow (fun w' => Below w1.heap.size w1 w') (by kernel_rfl) (by kernel_rfl) (Below.refl _ _).drew ?_
          repeat (go_big_quiet_step ((go_at_call 60; refine (HUSED.out _ (GW.h _)).mono ?_; rintro e w1 ⟨rfl, hb⟩; exact ⟨rfl, below_next _ hb⟩)))
          refine wpQuiet_nil ?_
          intro _ hw'
          obtain ⟨⟨w4, h4⟩, hw''⟩ := hw'
          subst hw''
          clear r1 q0 hne c0 c3
          have HD4 := Lib.hid (HD1.out.below h4)
          have HK4 := Lib.hid (HK1.out.step h4)
          clear h4 HD1 HK1
          have HD1 := HD4
          have HK1 := HK4
          clear HD4 HK4 HUSED
          go_wp2_with fail
          refine (ref_step_no HD1.out HR.out).mono ?_
          rintro e w2 ⟨rfl, hd2, hk2⟩
          have HD2 := Lib.hid hd2
          have HK2 := Lib.hid (HK1.out.trans hk2)
          clear hd2 hk2
          go_wp2_with fail
          go_ret
          exact ⟨rfl, ROut.same HD2.out HK2.out⟩
        | false =>
          have HR := Lib.hid hr
          have E := Lib.hid (show d.append nm dt = (0, { d.stepped with L := putF { f with bytes := f.bytes ++ dt } d.L }) by simp [Dk.append, ho', hf, hrm2, act_go hr])
          clear ho ho' hf hr hrm2
          rw [E.out]
          go_enter Try.func43, Try.ntmps43
          go_wp2_with fail
          refine (ref_at_hit H.out hm HI.out).mono ?_
          rintro e w1 ⟨rfl, hB1⟩
          have HD1 := Lib.hid (H.out.below hB1)
          have HK1 := Lib.hid (Kp.of_below (b := b) (m := g) hB1)
          have hz1 := hB1.size
          have c3 := HD1.out.c3
          rw [HO.out] at c3
          clear hB1
          have c0 := HD1.out.c0
          have hbl := HD1.out.lt
          have HUSED := Lib.hid (show ∀ wx, Below w1.heap.size w1 wx → Calls Try.prog 60 #[.pointer (some ⟨b, 0, none⟩)] wx fun e w' => e = .returned (.int .i64 (usedF d.L : Int)) ∧ Below wx.heap.size wx w' from fun wx hb => ref_used (HD1.out.below hb) hm (by omega))
          go_upto_region 6 with fail
          have q0 : ∀ (u : GW (fun w' => Below w1.heap.size w1 w')), u.w.cell? ⟨b, 0, none⟩ = some (.int .i64 (d.room : Int)) := fun u => by rw [u.h.cell (p := ⟨b, 0, none⟩) hbl]; exact c0
          have hne := GW.ne (Inv := fun w' => Below w1.heap.size w1 w') (Below.refl _ _)
          have r1 := IntWalk.i64_in ((d.room : Int) - (usedF d.L : Int)) (by omega)
          refine wp_region_grow (fun w' => Below w1.heap.size w1 w') (by kernel_rfl) (by kernel_rfl) (Below.refl _ _).drew ?_
          repeat (go_big_quiet_step ((go_at_call 60; refine (HUSED.out _ (GW.h _)).mono ?_; rintro e w1 ⟨rfl, hb⟩; exact ⟨rfl, below_next _ hb⟩)))
          refine wpQuiet_nil ?_
          intro _ hw'
          obtain ⟨⟨w4, h4⟩, hw''⟩ := hw'
          subst hw''
          clear r1 q0 hne c0 c3
          have HD4 := Lib.hid (HD1.out.below h4)
          have HK4 := Lib.hid (HK1.out.step h4)
          clear h4 HD1 HK1
          have HD1 := HD4
          have HK1 := HK4
          clear HD4 HK4 HUSED
          go_wp2_with fail
          refine (ref_step_go HD1.out HR.out hl hs).mono ?_
          rintro e w2 ⟨rfl, hd2, hk2⟩
          have HD2 := Lib.hid hd2
          have HK2 := Lib.hid (HK1.out.trans hk2)
          have hz2 := HK2.out.size
          clear hd2 hk2
          obtain ⟨fn, fb, fs⟩ := f
          obtain ⟨c, x1, hgb, a0, a1, a2, e1, e2⟩ := HD2.out.file HIF.out
          have HLL := Lib.hid (show d.stepped.L.length = d.L.length from rfl)
          have x1' : w2.cell? ⟨b, 1, none⟩ = some (.slice (some ⟨g, 0, none⟩) d.L.length c) := x1
          clear x1 a0 a2 e2
          simp only at a1
          have HNEW := Lib.hid (HD2.out.set_bytes HIF.out (fb ++ dt))
          go_wp2_with fail
          go_ret
          refine ⟨rfl, ROut.same ?_ (HK2.out.set2 _ _)⟩
          have h9 := HNEW.out
          rw [show d.stepped.L.set i ⟨fn, fb ++ dt, fs⟩ = putF ⟨fn, fb ++ dt, fs⟩ d.L from (putF_set (f := ⟨fn, fb ++ dt, fs⟩) HOK.out.rise HIF.out rfl).symm] at h9
          exact h9
set_option maxRecDepth 100000 in
set_option maxHeartbeats 8000000 in
theorem ref_sync {d : Dk} {w : World} {b g : Nat} (h : RAt w b g d) (hok : d.Ok) (hs : d.steps < 4611686018427387904) (nm : ByteArray) :
    Calls Try.prog 44 #[.pointer (some ⟨b, 0, none⟩), .string nm] w fun e w' => e = .returned (.int .i64 (d.sync nm).1) ∧ ROut w w' b g (d.sync nm).2 := by
  have H := Lib.hid h
  have HOK := Lib.hid hok
  have hm := hok.many
  have hl := hok.left
  have hus := hok.used
  have hrm := hok.room
  unfold maxLen at *
  clear hok h
  by_cases ho : d.off = true
  · have HO := Lib.hid ho
    have E := Lib.hid (show d.sync nm = (143, d) by simp [Dk.sync, ho])
    clear ho
    rw [E.out]
    go_enter Try.func44, Try.ntmps44
    go_wp2_with fail
    refine (ref_at H.out hm nm).mono ?_
    rintro e w1 ⟨rfl, hB1⟩
    have HD1 := Lib.hid (H.out.below hB1)
    have HK1 := Lib.hid (Kp.of_below (b := b) (m := g) hB1)
    have hz1 := hB1.size
    have c3 := HD1.out.c3
    rw [HO.out] at c3
    clear hB1
    go_wp2_with fail
    go_ret
    exact ⟨rfl, ROut.same HD1.out HK1.out⟩
  · have ho' : d.off = false := by simpa using ho
    have HO := Lib.hid ho'
    cases hf : findF nm.data.toList d.L with
    | none =>
      have HF := Lib.hid hf
      have E := Lib.hid (show d.sync nm = (140, d) by simp [Dk.sync, ho', hf])
      clear ho ho' hf
      rw [E.out]
      go_enter Try.func44, Try.ntmps44
      go_wp2_with fail
      refine (ref_at_miss H.out hm HF.out).mono ?_
      rintro e w1 ⟨rfl, hB1⟩
      have HD1 := Lib.hid (H.out.below hB1)
      have HK1 := Lib.hid (Kp.of_below (b := b) (m := g) hB1)
      have hz1 := hB1.size
      have c3 := HD1.out.c3
      rw [HO.out] at c3
      clear hB1
      go_wp2_with fail
      go_ret
      exact ⟨rfl, ROut.same HD1.out HK1.out⟩
    | some f =>
      obtain ⟨i, hix, hif⟩ := idx_some hf
      have HI := Lib.hid hix
      have HIF := Lib.hid hif
      have hil : i < d.L.length := (List.getElem?_eq_some_iff.1 hif).1
      have hfu := mem_used (List.mem_of_getElem? hif)
      have hfs := HOK.out.safe f (List.mem_of_getElem? hif)
      have hk : f.name = nm := ba_of_list (findF_key hf)
      have HKN := Lib.hid hk
      clear hix hif hk
      cases hr : d.refuses with
      | true =>
        have HR := Lib.hid hr
        have E := Lib.hid (show d.sync nm = (143, d.gone) by simp [Dk.sync, ho', hf, act_no hr])
        clear ho ho' hf hr 
        rw [E.out]
        go_enter Try.func44, Try.ntmps44
        go_wp2_with fail
        refine (ref_at_hit H.out hm HI.out).mono ?_
        rintro e w1 ⟨rfl, hB1⟩
        have HD1 := Lib.hid (H.out.below hB1)
        have HK1 := Lib.hid (Kp.of_below (b := b) (m := g) hB1)
        have hz1 := hB1.size
        have c3 := HD1.out.c3
        rw [HO.out] at c3
        clear hB1
        go_wp2_with fail
        refine (ref_step_no HD1.out HR.out).mono ?_
        rintro e w2 ⟨rfl, hd2, hk2⟩
        have HD2 := Lib.hid hd2
        have HK2 := Lib.hid (HK1.out.trans hk2)
        clear hd2 hk2
        go_wp2_with fail
        go_ret
        exact ⟨rfl, ROut.same HD2.out HK2.out⟩
      | false =>
        have HR := Lib.hid hr
        have E := Lib.hid (show d.sync nm = (0, { d.stepped with L := putF { f with safe := f.bytes.size } d.L }) by simp [Dk.sync, ho', hf, act_go hr])
        clear ho ho' hf hr 
        rw [E.out]
        go_enter Try.func44, Try.ntmps44
        go_wp2_with fail
        refine (ref_at_hit H.out hm HI.out).mono ?_
        rintro e w1 ⟨rfl, hB1⟩
        have HD1 := Lib.hid (H.out.below hB1)
        have HK1 := Lib.hid (Kp.of_below (b := b) (m := g) hB1)
        have hz1 := hB1.size
        have c3 := HD1.out.c3
        rw [HO.out] at c3
        clear hB1
        go_wp2_with fail
        refine (ref_step_go HD1.out HR.out hl hs).mono ?_
        rintro e w2 ⟨rfl, hd2, hk2⟩
        have HD2 := Lib.hid hd2
        have HK2 := Lib.hid (HK1.out.trans hk2)
        have hz2 := HK2.out.size
        clear hd2 hk2
        obtain ⟨fn, fb, fs⟩ := f
        obtain ⟨c, x1, hgb, a0, a1, a2, e1, e2⟩ := HD2.out.file HIF.out
        have x1' : w2.cell? ⟨b, 1, none⟩ = some (.slice (some ⟨g, 0, none⟩) d.L.length c) := x1
        simp only at a1 a2 hfu hfs
        clear x1 a0 c3
        have HNEW := Lib.hid (HD2.out.drew.set_safe HIF.out fb.size)
        have HK3 := Lib.hid (HK2.out.drew)
        have hli : (i : Int) < (d.L.length : Int) := by omega
        have hi0 : (0 : Int) ≤ (i : Int) := by omega
        go_upto_region 8 with fail
        go_still_tail 16, (by kernel_rfl)
        change wpList _ _ _ _ _ w2.drew
        have e3 : w2.drew.frozen? ⟨g, i * 3 + 2, none⟩ = false := e2
        have a3 : w2.drew.cell? ⟨g, i * 3 + 2, none⟩ = some (.int .i64 (fs : Int)) := a2
        clear x1' a1 a2 e1 e2
        generalize w2.drew = w3 at *
        go_wp2_with fail
        go_ret
        refine ⟨rfl, ROut.same ?_ (HK3.out.set2 _ _)⟩
        have h9 := HNEW.out
        rw [show d.stepped.L.set i ⟨fn, fb, fb.size⟩ = putF ⟨fn, fb, fb.size⟩ d.L from (putF_set (f := ⟨fn, fb, fb.size⟩) HOK.out.rise HIF.out rfl).symm] at h9
        exact h9
end Go.Proofs.Ytcjhkonjlhpmhaa

/- Contracts of the reference's disk: Cut (printed by gen_ref.py). -/
import Derived.Test.YtcjhkonjlhpmhaaVfsR4
namespace Go.Proofs.Ytcjhkonjlhpmhaa
open Go.RowKit Go.Maps

set_option maxRecDepth 100000 in
set_option maxHeartbeats 8000000 in
theorem ref_cut {d : Dk} {w : World} {b g : Nat} (h : RAt w b g d) (hok : d.Ok) (hs : d.steps < 4611686018427387904) (nm : ByteArray) (n : Int) (hn : n ≤ 9223372036854775807) :
    Calls Try.prog 45 #[.pointer (some ⟨b, 0, none⟩), .string nm, .int .i64 n] w fun e w' => e = .returned (.int .i64 (d.cut nm n).1) ∧ ROut w w' b g (d.cut nm n).2 := by
  have H := Lib.hid h
  have HOK := Lib.hid hok
  have hm := hok.many
  have hl := hok.left
  have hus := hok.used
  have hrm := hok.room
  unfold maxLen at *
  clear hok h
  by_cases ho : d.off = true
  · have HO := Lib.hid ho
    have E := Lib.hid (show d.cut nm n = (143, d) by simp [Dk.cut, ho])
    clear ho
    rw [E.out]
    go_enter Try.func45, Try.ntmps45
    go_wp2_with fail
    refine (ref_at H.out hm nm).mono ?_
    rintro e w1 ⟨rfl, hB1⟩
    have HD1 := Lib.hid (H.out.below hB1)
    have HK1 := Lib.hid (Kp.of_below (b := b) (m := g) hB1)
    have hz1 := hB1.size
    have c3 := HD1.out.c3
    rw [HO.out] at c3
    clear hB1
    go_wp2_with fail
    go_ret
    exact ⟨rfl, ROut.same HD1.out HK1.out⟩
  · have ho' : d.off = false := by simpa using ho
    have HO := Lib.hid ho'
    cases hf : findF nm.data.toList d.L with
    | none =>
      have HF := Lib.hid hf
      have E := Lib.hid (show d.cut nm n = (140, d) by simp [Dk.cut, ho', hf])
      clear ho ho' hf
      rw [E.out]
      go_enter Try.func45, Try.ntmps45
      go_wp2_with fail
      refine (ref_at_miss H.out hm HF.out).mono ?_
      rintro e w1 ⟨rfl, hB1⟩
      have HD1 := Lib.hid (H.out.below hB1)
      have HK1 := Lib.hid (Kp.of_below (b := b) (m := g) hB1)
      have hz1 := hB1.size
      have c3 := HD1.out.c3
      rw [HO.out] at c3
      clear hB1
      go_wp2_with fail
      go_ret
      exact ⟨rfl, ROut.same HD1.out HK1.out⟩
    | some f =>
      obtain ⟨i, hix, hif⟩ := idx_some hf
      have HI := Lib.hid hix
      have HIF := Lib.hid hif
      have hil : i < d.L.length := (List.getElem?_eq_some_iff.1 hif).1
      have hfu := mem_used (List.mem_of_getElem? hif)
      have hfs := HOK.out.safe f (List.mem_of_getElem? hif)
      have hk : f.name = nm := ba_of_list (findF_key hf)
      have HKN := Lib.hid hk
      clear hix hif hk
      obtain ⟨fn, fb, fs⟩ := f
      simp only at hfu hfs
      by_cases hn0 : n < 0
      · have E := Lib.hid (show d.cut nm n = (1, d) by simp only [Dk.cut, ho', hf]; rw [if_neg (by simp), if_pos (by omega)])
        clear ho ho' hf
        rw [E.out]
        go_enter Try.func45, Try.ntmps45
        go_wp2_with fail
        refine (ref_at_hit H.out hm HI.out).mono ?_
        rintro e w1 ⟨rfl, hB1⟩
        have HD1 := Lib.hid (H.out.below hB1)
        have HK1 := Lib.hid (Kp.of_below (b := b) (m := g) hB1)
        have hz1 := hB1.size
        have c3 := HD1.out.c3
        rw [HO.out] at c3
        clear hB1
        obtain ⟨c, x1, hgb, a0, a1, a2, e1, e2⟩ := HD1.out.file HIF.out
        simp only at a1 a2 hfu hfs
        clear a0 e1 e2 a2

        go_wp2_with fail
        go_ret
        exact ⟨rfl, ROut.same HD1.out HK1.out⟩
      · obtain ⟨k, rfl⟩ : ∃ k : Nat, n = (k : Int) := ⟨n.toNat, by omega⟩
        by_cases hkz : fb.size < k
        · have E := Lib.hid (show d.cut nm (k : Int) = (1, d) by simp only [Dk.cut, ho', hf]; rw [if_neg (by simp), if_pos (by omega)])
          clear ho ho' hf
          rw [E.out]
          go_enter Try.func45, Try.ntmps45
          go_wp2_with fail
          refine (ref_at_hit H.out hm HI.out).mono ?_
          rintro e w1 ⟨rfl, hB1⟩
          have HD1 := Lib.hid (H.out.below hB1)
          have HK1 := Lib.hid (Kp.of_below (b := b) (m := g) hB1)
          have hz1 := hB1.size
          have c3 := HD1.out.c3
          rw [HO.out] at c3
          clear hB1
          obtain ⟨c, x1, hgb, a0, a1, a2, e1, e2⟩ := HD1.out.file HIF.out
          simp only at a1 a2 hfu hfs
          clear a0 e1 e2 a2

          go_wp2_with fail
          go_ret
          exact ⟨rfl, ROut.same HD1.out HK1.out⟩
        · cases hr : d.refuses with
          | true =>
            have HR := Lib.hid hr
            have E := Lib.hid (show d.cut nm (k : Int) = (143, d.gone) by simp only [Dk.cut, ho', hf]; rw [if_neg (by simp), if_neg (by omega), act_no hr])
            clear ho ho' hf hr 
            rw [E.out]
            go_enter Try.func45, Try.ntmps45
            go_wp2_with fail
            refine (ref_at_hit H.out hm HI.out).mono ?_
            rintro e w1 ⟨rfl, hB1⟩
            have HD1 := Lib.hid (H.out.below hB1)
            have HK1 := Lib.hid (Kp.of_below (b := b) (m := g) hB1)
            have hz1 := hB1.size
            have c3 := HD1.out.c3
            rw [HO.out] at c3
            clear hB1
            obtain ⟨c, x1, hgb, a0, a1, a2, e1, e2⟩ := HD1.out.file HIF.out
            simp only at a1 a2 hfu hfs
            clear a0 e1 e2 a2
            go_wp2_with fail
            refine (ref_step_no HD1.out HR.out).mono ?_
            rintro e w2 ⟨rfl, hd2, hk2⟩
            have HD2 := Lib.hid hd2
            have HK2 := Lib.hid (HK1.out.trans hk2)
            clear hd2 hk2
            go_wp2_with fail
            go_ret
            exact ⟨rfl, ROut.same HD2.out HK2.out⟩
          | false =>
            by_cases hmin : k < fs
            · have hmm : min fs k = k := Nat.min_eq_right (by omega)
              have HR := Lib.hid hr
              have E := Lib.hid (show d.cut nm (k : Int) = (0, { d.stepped with L := putF ⟨fn, fb.extract 0 k, k⟩ d.L }) by simp only [Dk.cut, ho', hf]; rw [if_neg (by simp), if_neg (by omega), act_go hr, Int.toNat_natCast, hmm])
              clear ho ho' hf hr hmm
              rw [E.out]
              go_enter Try.func45, Try.ntmps45
              go_wp2_with fail
              refine (ref_at_hit H.out hm HI.out).mono ?_
              rintro e w1 ⟨rfl, hB1⟩
              have HD1 := Lib.hid (H.out.below hB1)
              have HK1 := Lib.hid (Kp.of_below (b := b) (m := g) hB1)
              have hz1 := hB1.size
              have c3 := HD1.out.c3
              rw [HO.out] at c3
              clear hB1
              obtain ⟨c, x1, hgb, a0, a1, a2, e1, e2⟩ := HD1.out.file HIF.out
              simp only at a1 a2 hfu hfs
              clear a0 e1 e2 a2
              go_wp2_with fail
              refine (ref_step_go HD1.out HR.out hl hs).mono ?_
              rintro e w2 ⟨rfl, hd2, hk2⟩
              have HD2 := Lib.hid hd2
              have HK2 := Lib.hid (HK1.out.trans hk2)
              have hz2 := HK2.out.size
              clear hd2 hk2
              obtain ⟨c', x1', hgb, b0, b1, b2, e1, e2⟩ := HD2.out.file HIF.out
              have x2' : w2.cell? ⟨b, 1, none⟩ = some (.slice (some ⟨g, 0, none⟩) d.L.length c') := x1'
              clear x1 x1' a1 b0 c3
              have HNEW := Lib.hid (HD2.out.drew.set_bytes HIF.out (fb.extract 0 k))
              have HK3 := Lib.hid (HK2.out.drew)
              have hli : (i : Int) < (d.L.length : Int) := by omega
              have hi0 : (0 : Int) ≤ (i : Int) := by omega
              have hk0 : (0 : Int) ≤ (k : Int) := by omega
              have hk1 : (k : Int) ≤ (fb.size : Int) := by omega
              go_upto_region 10 with fail
              go_still_tail 17, (by kernel_rfl)
              change wpList _ _ _ _ _ w2.drew
              have y1 : w2.drew.cell? ⟨b, 1, none⟩ = some (.slice (some ⟨g, 0, none⟩) d.L.length c') := x2'
              have y2 : w2.drew.cell? ⟨g, i * 3 + 2, none⟩ = some (.int .i64 (fs : Int)) := b2
              have y3 : w2.drew.cell? ⟨g, i * 3 + 1, none⟩ = some (.string fb) := b1
              have z1 : w2.drew.frozen? ⟨g, i * 3 + 1, none⟩ = false := e1
              have z2 : w2.drew.frozen? ⟨g, i * 3 + 2, none⟩ = false := e2
              clear x2' b1 b2 e1 e2
              generalize w2.drew = w3 at *
              have HK4 := Lib.hid (HK3.out.set2 (i * 3 + 1) (.string (fb.extract 0 k)))
              have u1 : (w3.setCell ⟨g, i * 3 + 1, none⟩ (.string (fb.extract 0 k))).cell? ⟨b, 1, none⟩ = some (.slice (some ⟨g, 0, none⟩) d.L.length c') := by
                rw [World.cell?_setCell_other (h := fun e => hgb (Addr.mk.inj e).1)]; exact y1
              have u2 : (w3.setCell ⟨g, i * 3 + 1, none⟩ (.string (fb.extract 0 k))).cell? ⟨g, i * 3 + 2, none⟩ = some (.int .i64 (fs : Int)) := setc (by omega) y2
              have u3 : (w3.setCell ⟨g, i * 3 + 1, none⟩ (.string (fb.extract 0 k))).frozen? ⟨g, i * 3 + 2, none⟩ = false := setf z2
              go_upto_region 11 with fail
              clear y1 y2 y3 z1 z2
              generalize w3.setCell ⟨g, i * 3 + 1, none⟩ (.string (fb.extract 0 k)) = w4 at *
              go_still_tail 17, (by kernel_rfl)
              change wpList _ _ _ _ _ w4.drew
              have v2 : w4.drew.cell? ⟨g, i * 3 + 2, none⟩ = some (.int .i64 (fs : Int)) := u2
              have v3 : w4.drew.frozen? ⟨g, i * 3 + 2, none⟩ = false := u3
              clear u1 u2 u3
              have HNEW2 := Lib.hid (HNEW.out.drew.set_safe (i := i) (f := ⟨fn, fb.extract 0 k, fs⟩) (by show (d.stepped.L.set i _)[i]? = _; rw [List.getElem?_set_self (by exact hil)]) (k))
              have HK5 := Lib.hid (HK4.out.drew)
              generalize w4.drew = w5 at *
              go_wp2_with fail
              go_ret
              refine ⟨rfl, ROut.same ?_ (HK5.out.set2 _ _)⟩
              have h9 := HNEW2.out
              rw [List.set_set] at h9
              rw [show d.stepped.L.set i ⟨fn, fb.extract 0 k, k⟩ = putF ⟨fn, fb.extract 0 k, k⟩ d.L from (putF_set (f := ⟨fn, fb.extract 0 k, k⟩) HOK.out.rise HIF.out rfl).symm] at h9
              first
                | exact h9
                | (have e : min (fs : Int) (k : Int) = (k : Int) := by omega
                   rw [e]; exact h9)
            · have hmm : min fs k = fs := Nat.min_eq_left (by omega)
              have HR := Lib.hid hr
              have E := Lib.hid (show d.cut nm (k : Int) = (0, { d.stepped with L := putF ⟨fn, fb.extract 0 k, fs⟩ d.L }) by simp only [Dk.cut, ho', hf]; rw [if_neg (by simp), if_neg (by omega), act_go hr, Int.toNat_natCast, hmm])
              clear ho ho' hf hr hmm
              rw [E.out]
              go_enter Try.func45, Try.ntmps45
              go_wp2_with fail
              refine (ref_at_hit H.out hm HI.out).mono ?_
              rintro e w1 ⟨rfl, hB1⟩
              have HD1 := Lib.hid (H.out.below hB1)
              have HK1 := Lib.hid (Kp.of_below (b := b) (m := g) hB1)
              have hz1 := hB1.size
              have c3 := HD1.out.c3
              rw [HO.out] at c3
              clear hB1
              obtain ⟨c, x1, hgb, a0, a1, a2, e1, e2⟩ := HD1.out.file HIF.out
              simp only at a1 a2 hfu hfs
              clear a0 e1 e2 a2
              go_wp2_with fail
              refine (ref_step_go HD1.out HR.out hl hs).mono ?_
              rintro e w2 ⟨rfl, hd2, hk2⟩
              have HD2 := Lib.hid hd2
              have HK2 := Lib.hid (HK1.out.trans hk2)
              have hz2 := HK2.out.size
              clear hd2 hk2
              obtain ⟨c', x1', hgb, b0, b1, b2, e1, e2⟩ := HD2.out.file HIF.out
              have x2' : w2.cell? ⟨b, 1, none⟩ = some (.slice (some ⟨g, 0, none⟩) d.L.length c') := x1'
              clear x1 x1' a1 b0 c3
              have HNEW := Lib.hid (HD2.out.drew.set_bytes HIF.out (fb.extract 0 k))
              have HK3 := Lib.hid (HK2.out.drew)
              have hli : (i : Int) < (d.L.length : Int) := by omega
              have hi0 : (0 : Int) ≤ (i : Int) := by omega
              have hk0 : (0 : Int) ≤ (k : Int) := by omega
              have hk1 : (k : Int) ≤ (fb.size : Int) := by omega
              go_upto_region 10 with fail
              go_still_tail 17, (by kernel_rfl)
              change wpList _ _ _ _ _ w2.drew
              have y1 : w2.drew.cell? ⟨b, 1, none⟩ = some (.slice (some ⟨g, 0, none⟩) d.L.length c') := x2'
              have y2 : w2.drew.cell? ⟨g, i * 3 + 2, none⟩ = some (.int .i64 (fs : Int)) := b2
              have y3 : w2.drew.cell? ⟨g, i * 3 + 1, none⟩ = some (.string fb) := b1
              have z1 : w2.drew.frozen? ⟨g, i * 3 + 1, none⟩ = false := e1
              have z2 : w2.drew.frozen? ⟨g, i * 3 + 2, none⟩ = false := e2
              clear x2' b1 b2 e1 e2
              generalize w2.drew = w3 at *
              have HK4 := Lib.hid (HK3.out.set2 (i * 3 + 1) (.string (fb.extract 0 k)))
              have u1 : (w3.setCell ⟨g, i * 3 + 1, none⟩ (.string (fb.extract 0 k))).cell? ⟨b, 1, none⟩ = some (.slice (some ⟨g, 0, none⟩) d.L.length c') := by
                rw [World.cell?_setCell_other (h := fun e => hgb (Addr.mk.inj e).1)]; exact y1
              have u2 : (w3.setCell ⟨g, i * 3 + 1, none⟩ (.string (fb.extract 0 k))).cell? ⟨g, i * 3 + 2, none⟩ = some (.int .i64 (fs : Int)) := setc (by omega) y2
              have u3 : (w3.setCell ⟨g, i * 3 + 1, none⟩ (.string (fb.extract 0 k))).frozen? ⟨g, i * 3 + 2, none⟩ = false := setf z2
              go_upto_region 11 with fail
              clear y1 y2 y3 z1 z2
              generalize w3.setCell ⟨g, i * 3 + 1, none⟩ (.string (fb.extract 0 k)) = w4 at *
              go_still_tail 17, (by kernel_rfl)
              change wpList _ _ _ _ _ w4.drew
              have v2 : w4.drew.cell? ⟨g, i * 3 + 2, none⟩ = some (.int .i64 (fs : Int)) := u2
              have v3 : w4.drew.frozen? ⟨g, i * 3 + 2, none⟩ = false := u3
              clear u1 u2 u3
              have HNEW2 := Lib.hid (HNEW.out.drew.set_safe (i := i) (f := ⟨fn, fb.extract 0 k, fs⟩) (by show (d.stepped.L.set i _)[i]? = _; rw [List.getElem?_set_self (by exact hil)]) (fs))
              have HK5 := Lib.hid (HK4.out.drew)
              generalize w4.drew = w5 at *
              go_wp2_with fail
              go_ret
              refine ⟨rfl, ROut.same ?_ (HK5.out.set2 _ _)⟩
              have h9 := HNEW2.out
              rw [List.set_set] at h9
              rw [show d.stepped.L.set i ⟨fn, fb.extract 0 k, fs⟩ = putF ⟨fn, fb.extract 0 k, fs⟩ d.L from (putF_set (f := ⟨fn, fb.extract 0 k, fs⟩) HOK.out.rise HIF.out rfl).symm] at h9
              first
                | exact h9
                | (have e : min (fs : Int) (k : Int) = (fs : Int) := by omega
                   rw [e]; exact h9)
end Go.Proofs.Ytcjhkonjlhpmhaa

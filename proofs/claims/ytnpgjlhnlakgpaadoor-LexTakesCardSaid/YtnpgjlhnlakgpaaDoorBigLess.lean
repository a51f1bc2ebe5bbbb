/- The document's less: a difference of amounts. -/
import Derived.Test.YtnpgjlhnlakgpaaDoorG09
namespace Go.Proofs.YtnpgjlhnlakgpaaDoor
open Go.RowKit

set_option maxRecDepth 100000 in
set_option maxHeartbeats 4000000 in
theorem less_any (ma mb : Bool) (va vb : Value) (x y : Nat) (hxy : y ≤ x) (w : World) (ha : URow w va (digs x)) (hb : URow w vb (digs y)) (hla : (digs x).length ≤ 1900) (_hlb : (digs y).length ≤ 1900) :
    Calls Tryd.prog 142 #[.agg #[.bool ma, va], .agg #[.bool mb, vb]] w fun e w' => ∃ v, e = .returned v ∧ BigV w' v ((x - y : Nat) : Int) ∧ Below w.heap.size w w' := by
  obtain ⟨i0, hi, hz0, hz1, hz2⟩ := info_parts u64info
  obtain ⟨pa, ca, rfl, -, ha⟩ := ha
  obtain ⟨pb, cb, rfl, -, hb⟩ := hb
  have HA := Lib.hid ha
  have HB := Lib.hid hb
  clear ha hb
  generalize hna : (digs x).length = na at *
  generalize hnb : (digs y).length = nb at *
  have HNA := Lib.hid hna
  have HNB := Lib.hid hnb
  have HXY := Lib.hid hxy
  clear hna hnb hxy
  go_enter Tryd.func142, Tryd.ntmps142
  go_wp2_with fail
  obtain ⟨hB3, hz3, -⟩ := boxes3 w #[.bool ma, .slice pa na ca] #[.bool mb, .slice pb nb cb] #[.bool false, .slice none 0 0] 149 149 149
  have b0 := (((Bg.new w ma (.slice pa na ca) 149).alloc (.cells #[.bool mb, .slice pb nb cb] 149)).alloc (.cells #[.bool false, .slice none 0 0] 149)).alloc (.cells #[.bool false, .slice none 0 0] 149)
  have b1 := ((Bg.new (w.alloc (.cells #[.bool ma, .slice pa na ca] 149)) mb (.slice pb nb cb) 149).alloc (.cells #[.bool false, .slice none 0 0] 149)).alloc (.cells #[.bool false, .slice none 0 0] 149)
  have b2 := (Bg.new ((w.alloc (.cells #[.bool ma, .slice pa na ca] 149)).alloc (.cells #[.bool mb, .slice pb nb cb] 149)) false (.slice none 0 0) 149).alloc (.cells #[.bool false, .slice none 0 0] 149)
  have b3 := Bg.new (((w.alloc (.cells #[.bool ma, .slice pa na ca] 149)).alloc (.cells #[.bool mb, .slice pb nb cb] 149)).alloc (.cells #[.bool false, .slice none 0 0] 149)) false (.slice none 0 0) 149
  have hB4 := hB3.alloc (by omega) (.cells #[.bool false, .slice none 0 0] 149)
  rw [hz3] at b3
  have e2 : ((w.alloc (.cells #[.bool ma, .slice pa na ca] 149)).alloc (.cells #[.bool mb, .slice pb nb cb] 149)).heap.size = w.heap.size + 2 := by simp
  have e1 : (w.alloc (.cells #[.bool ma, .slice pa na ca] 149)).heap.size = w.heap.size + 1 := by simp
  rw [e2] at b2
  rw [e1] at b1
  clear hB3 hz3 e1 e2
  generalize ((((w.alloc (.cells #[.bool ma, .slice pa na ca] 149)).alloc (.cells #[.bool mb, .slice pb nb cb] 149)).alloc (.cells #[.bool false, .slice none 0 0] 149)).alloc (.cells #[.bool false, .slice none 0 0] 149)) = W0 at *
  have kk := b0.c1
  go_wp2_with fail
  clear kk
  go_loopw [6, 14] (fun c i wr => ∃ (br k : Nat) (ds : List Nat) (v : Value), c = .int .u64 (br : Int) ∧ i = .int .i64 (k : Int) ∧ SubR (digs x) (digs y) ds k br ∧ k ≤ na ∧
      wr.ownsRow (w.heap.size + 4) 98 1 v ds.length (u64s ds) ∧ Bg wr w.heap.size ma (.slice pa na ca) ∧ Bg wr (w.heap.size + 1) mb (.slice pb nb cb) ∧ Bg wr (w.heap.size + 2) false (.slice none 0 0) ∧ Bg wr (w.heap.size + 3) false v ∧ Below w.heap.size w wr)
    (fun _ i _ => (na - intOf i).toNat)
  case atStart => exact ⟨0, 0, [], .slice none 0 0, rfl, rfl, SubR.start _ _, by omega, World.ownsRow_nil _ _ _ _, b0, b1, b2, b3, hB4⟩
  case round =>
    clear b0 b1 b2 b3 hB4
    obtain ⟨br, k, ds, v, rfl, rfl, hR, hk, hown, b0, b1, b2, b3, hB⟩ := hrel
    have HW := Lib.hid hB
    have HR := Lib.hid hR
    have HO := Lib.hid hown
    have hbr : br ≤ 1 := hR.hbr
    have hl3 := b3.lt
    have k1 := b1.c1
    have k20 := b2.c0
    have k21 := b2.c1
    have k2f := b2.f0
    have k2g := b2.f1
    have k30 := b3.c0
    have k31 := b3.c1
    have k3f := b3.f1
    have H0 := Lib.hid b0
    have H1 := Lib.hid b1
    have H2 := Lib.hid b2
    have H3 := Lib.hid b3
    obtain ⟨p, ln, cp, rfl⟩ := owns_slice hown
    clear hB hR hown b0 b1 b2 b3
    have hsx : (digs x).getD k 0 < 1000000 := small_getD (small_digs x) k
    have hsy : (digs y).getD k 0 < 1000000 := small_getD (small_digs y) k
    by_cases hx : k < na
    · obtain ⟨ga, rfl, kx⟩ := URow.at HA.out HW.out hx HNA.out
      by_cases hy : k < nb
      · obtain ⟨gb, rfl, ky⟩ := URow.at HB.out HW.out hy HNB.out
        obtain ⟨t, ht⟩ : ∃ t, t = br + (digs y).getD k 0 := ⟨_, rfl⟩
        have HT := Lib.hid ht
        obtain ⟨dx, hdx⟩ : ∃ dx, dx = (digs x).getD k 0 := ⟨_, rfl⟩
        have HDX := Lib.hid hdx
        rw [← hdx] at kx hsx
        generalize (digs y).getD k 0 = dy at ky ht hsy
        have et : (br : Int) + (dy : Int) = (t : Int) := by omega
        have ht3 : t ≤ 1000000 := by omega
        clear ht hdx
        by_cases hlt : dx < t
        · obtain ⟨z, hz⟩ : ∃ z, z = dx + 1000000 := ⟨_, rfl⟩
          obtain ⟨s, hs⟩ : ∃ s, s = z - t := ⟨_, rfl⟩
          have ez : (dx : Int) + 1000000 = (z : Int) := by omega
          have es : (z : Int) - (t : Int) = (s : Int) := by omega
          have hz3 : t ≤ z := by omega
          have hs3 : s < 1000000 := by omega
          have HR2 : Hid (SubR (digs x) (digs y) (ds ++ [s]) (k + 1) 1) := HR.out.round hs3 (by omega) (by rw [← HT.out, ← HDX.out]; omega)
          have hz4 : z < 2000000 := by omega
          clear hz hs
          go_wp2_with (at_builtin; refine wpList_append_own _ rfl _ _ 147 rfl (w.heap.size + 4) 98 i0 (.int .u64 0) 1 8 Tryd.underlying147 hi hz0 hz1 hz2 rfl (by decide) _ _ _ rfl (HO.out.alloc _) ⟨wr.heap.size, 0, none⟩ 1 1 [.int .u64 (s : Int)] rfl rfl ?c1 ?c2 ?c3 ?c4 ?c5 ?_)
          case c1 =>
            intro j u hj
            match j, hj with
            | 0, hj => simp at hj; subst hj; simp [Addr.add]
          case c2 => intro u hu; simp at hu; subst hu; rfl
          case c3 => have := HR.out.len; unfold maxLen; omega
          case c4 => have := HR.out.len; omega
          case c5 => simp; omega
          intro v' w1 hown' hgrow _
          obtain ⟨p', ln', cp', rfl⟩ := owns_slice hown'
          have hne : ∀ j, j < w.heap.size + 4 → some j ≠ (Value.slice p ln cp).ownBlock := fun j hj h => by have := HO.out.lt j h.symm; omega
          have G0 := Lib.hid ((H0.out.alloc _).grown hgrow (hne _ (by omega)))
          have G1 := Lib.hid ((H1.out.alloc _).grown hgrow (hne _ (by omega)))
          have G2 := Lib.hid ((H2.out.alloc _).grown hgrow (hne _ (by omega)))
          have G3 := Lib.hid ((H3.out.alloc _).grown hgrow (hne _ (by omega)))
          have HB1 := Lib.hid ((HW.out.alloc (by omega) _).grown hgrow (by simp; omega) (fun j hj => by have := (HO.out.lt j hj).1; omega))
          have HO1 := Lib.hid hown'
          clear hown' hgrow hne HO HR H0 H1 H2 H3 HW k1 k20 k21 k2f k2g k30 k31 k3f
          have k1 := G3.out.c1
          have k2 := G3.out.f1
          go_wp2_with fail
          go_roundw
          case rel =>
            refine ⟨1, k + 1, ds ++ [s], .slice p' ln' cp', by go_num, by go_num, HR2.out, by omega, ?_, G0.out.set (by show w.heap.size + 3 ≠ w.heap.size; omega) _, G1.out.set (by show w.heap.size + 3 ≠ w.heap.size + 1; omega) _, G2.out.set (by show w.heap.size + 3 ≠ w.heap.size + 2; omega) _, G3.out.set1 _, ?_⟩
            · have := ownsRow_setCell_below HO1.out (a := ⟨w.heap.size + 3, 1, none⟩) (by show w.heap.size + 3 < w.heap.size + 4; omega) (.slice p' ln' cp')
              simpa [u64s] using this
            · exact HB1.out.setCell (p := ⟨w.heap.size + 3, 1, none⟩) (Nat.le_add_right _ _) _
          case measure => simp [intOf]; omega
        · obtain ⟨s, hs⟩ : ∃ s, s = dx - t := ⟨_, rfl⟩
          have es : (dx : Int) - (t : Int) = (s : Int) := by omega
          have hs3 : s < 1000000 := by omega
          have hz3 : t ≤ dx := by omega
          have HR2 : Hid (SubR (digs x) (digs y) (ds ++ [s]) (k + 1) 0) := HR.out.round hs3 (by omega) (by rw [← HT.out, ← HDX.out]; omega)
          clear hs
          go_wp2_with (at_builtin; refine wpList_append_own _ rfl _ _ 147 rfl (w.heap.size + 4) 98 i0 (.int .u64 0) 1 8 Tryd.underlying147 hi hz0 hz1 hz2 rfl (by decide) _ _ _ rfl (HO.out.alloc _) ⟨wr.heap.size, 0, none⟩ 1 1 [.int .u64 (s : Int)] rfl rfl ?c1 ?c2 ?c3 ?c4 ?c5 ?_)
          case c1 =>
            intro j u hj
            match j, hj with
            | 0, hj => simp at hj; subst hj; simp [Addr.add]
          case c2 => intro u hu; simp at hu; subst hu; rfl
          case c3 => have := HR.out.len; unfold maxLen; omega
          case c4 => have := HR.out.len; omega
          case c5 => simp; omega
          intro v' w1 hown' hgrow _
          obtain ⟨p', ln', cp', rfl⟩ := owns_slice hown'
          have hne : ∀ j, j < w.heap.size + 4 → some j ≠ (Value.slice p ln cp).ownBlock := fun j hj h => by have := HO.out.lt j h.symm; omega
          have G0 := Lib.hid ((H0.out.alloc _).grown hgrow (hne _ (by omega)))
          have G1 := Lib.hid ((H1.out.alloc _).grown hgrow (hne _ (by omega)))
          have G2 := Lib.hid ((H2.out.alloc _).grown hgrow (hne _ (by omega)))
          have G3 := Lib.hid ((H3.out.alloc _).grown hgrow (hne _ (by omega)))
          have HB1 := Lib.hid ((HW.out.alloc (by omega) _).grown hgrow (by simp; omega) (fun j hj => by have := (HO.out.lt j hj).1; omega))
          have HO1 := Lib.hid hown'
          clear hown' hgrow hne HO HR H0 H1 H2 H3 HW k1 k20 k21 k2f k2g k30 k31 k3f
          have k1 := G3.out.c1
          have k2 := G3.out.f1
          go_wp2_with fail
          go_roundw
          case rel =>
            refine ⟨0, k + 1, ds ++ [s], .slice p' ln' cp', by go_num, by go_num, HR2.out, by omega, ?_, G0.out.set (by show w.heap.size + 3 ≠ w.heap.size; omega) _, G1.out.set (by show w.heap.size + 3 ≠ w.heap.size + 1; omega) _, G2.out.set (by show w.heap.size + 3 ≠ w.heap.size + 2; omega) _, G3.out.set1 _, ?_⟩
            · have := ownsRow_setCell_below HO1.out (a := ⟨w.heap.size + 3, 1, none⟩) (by show w.heap.size + 3 < w.heap.size + 4; omega) (.slice p' ln' cp')
              simpa [u64s] using this
            · exact HB1.out.setCell (p := ⟨w.heap.size + 3, 1, none⟩) (Nat.le_add_right _ _) _
          case measure => simp [intOf]; omega
      · have HY0 : Hid ((digs y).getD k 0 = 0) := getD_out (by rw [HNB.out]; omega)
        obtain ⟨t, ht⟩ : ∃ t, t = br := ⟨_, rfl⟩
        have HT : Hid (t = br + (digs y).getD k 0) := by show _ = _; rw [ht, HY0.out]; rfl
        obtain ⟨dx, hdx⟩ : ∃ dx, dx = (digs x).getD k 0 := ⟨_, rfl⟩
        have HDX := Lib.hid hdx
        rw [← hdx] at kx hsx
        subst ht
        have ht3 : t ≤ 1000000 := by omega
        clear hdx
        by_cases hlt : dx < t
        · obtain ⟨z, hz⟩ : ∃ z, z = dx + 1000000 := ⟨_, rfl⟩
          obtain ⟨s, hs⟩ : ∃ s, s = z - t := ⟨_, rfl⟩
          have ez : (dx : Int) + 1000000 = (z : Int) := by omega
          have es : (z : Int) - (t : Int) = (s : Int) := by omega
          have hz3 : t ≤ z := by omega
          have hs3 : s < 1000000 := by omega
          have HR2 : Hid (SubR (digs x) (digs y) (ds ++ [s]) (k + 1) 1) := HR.out.round hs3 (by omega) (by rw [← HT.out, ← HDX.out]; omega)
          have hz4 : z < 2000000 := by omega
          clear hz hs
          go_wp2_with (at_builtin; refine wpList_append_own _ rfl _ _ 147 rfl (w.heap.size + 4) 98 i0 (.int .u64 0) 1 8 Tryd.underlying147 hi hz0 hz1 hz2 rfl (by decide) _ _ _ rfl (HO.out.alloc _) ⟨wr.heap.size, 0, none⟩ 1 1 [.int .u64 (s : Int)] rfl rfl ?c1 ?c2 ?c3 ?c4 ?c5 ?_)
          case c1 =>
            intro j u hj
            match j, hj with
            | 0, hj => simp at hj; subst hj; simp [Addr.add]
          case c2 => intro u hu; simp at hu; subst hu; rfl
          case c3 => have := HR.out.len; unfold maxLen; omega
          case c4 => have := HR.out.len; omega
          case c5 => simp; omega
          intro v' w1 hown' hgrow _
          obtain ⟨p', ln', cp', rfl⟩ := owns_slice hown'
          have hne : ∀ j, j < w.heap.size + 4 → some j ≠ (Value.slice p ln cp).ownBlock := fun j hj h => by have := HO.out.lt j h.symm; omega
          have G0 := Lib.hid ((H0.out.alloc _).grown hgrow (hne _ (by omega)))
          have G1 := Lib.hid ((H1.out.alloc _).grown hgrow (hne _ (by omega)))
          have G2 := Lib.hid ((H2.out.alloc _).grown hgrow (hne _ (by omega)))
          have G3 := Lib.hid ((H3.out.alloc _).grown hgrow (hne _ (by omega)))
          have HB1 := Lib.hid ((HW.out.alloc (by omega) _).grown hgrow (by simp; omega) (fun j hj => by have := (HO.out.lt j hj).1; omega))
          have HO1 := Lib.hid hown'
          clear hown' hgrow hne HO HR H0 H1 H2 H3 HW k1 k20 k21 k2f k2g k30 k31 k3f
          have k1 := G3.out.c1
          have k2 := G3.out.f1
          go_wp2_with fail
          go_roundw
          case rel =>
            refine ⟨1, k + 1, ds ++ [s], .slice p' ln' cp', by go_num, by go_num, HR2.out, by omega, ?_, G0.out.set (by show w.heap.size + 3 ≠ w.heap.size; omega) _, G1.out.set (by show w.heap.size + 3 ≠ w.heap.size + 1; omega) _, G2.out.set (by show w.heap.size + 3 ≠ w.heap.size + 2; omega) _, G3.out.set1 _, ?_⟩
            · have := ownsRow_setCell_below HO1.out (a := ⟨w.heap.size + 3, 1, none⟩) (by show w.heap.size + 3 < w.heap.size + 4; omega) (.slice p' ln' cp')
              simpa [u64s] using this
            · exact HB1.out.setCell (p := ⟨w.heap.size + 3, 1, none⟩) (Nat.le_add_right _ _) _
          case measure => simp [intOf]; omega
        · obtain ⟨s, hs⟩ : ∃ s, s = dx - t := ⟨_, rfl⟩
          have es : (dx : Int) - (t : Int) = (s : Int) := by omega
          have hs3 : s < 1000000 := by omega
          have hz3 : t ≤ dx := by omega
          have HR2 : Hid (SubR (digs x) (digs y) (ds ++ [s]) (k + 1) 0) := HR.out.round hs3 (by omega) (by rw [← HT.out, ← HDX.out]; omega)
          clear hs
          go_wp2_with (at_builtin; refine wpList_append_own _ rfl _ _ 147 rfl (w.heap.size + 4) 98 i0 (.int .u64 0) 1 8 Tryd.underlying147 hi hz0 hz1 hz2 rfl (by decide) _ _ _ rfl (HO.out.alloc _) ⟨wr.heap.size, 0, none⟩ 1 1 [.int .u64 (s : Int)] rfl rfl ?c1 ?c2 ?c3 ?c4 ?c5 ?_)
          case c1 =>
            intro j u hj
            match j, hj with
            | 0, hj => simp at hj; subst hj; simp [Addr.add]
          case c2 => intro u hu; simp at hu; subst hu; rfl
          case c3 => have := HR.out.len; unfold maxLen; omega
          case c4 => have := HR.out.len; omega
          case c5 => simp; omega
          intro v' w1 hown' hgrow _
          obtain ⟨p', ln', cp', rfl⟩ := owns_slice hown'
          have hne : ∀ j, j < w.heap.size + 4 → some j ≠ (Value.slice p ln cp).ownBlock := fun j hj h => by have := HO.out.lt j h.symm; omega
          have G0 := Lib.hid ((H0.out.alloc _).grown hgrow (hne _ (by omega)))
          have G1 := Lib.hid ((H1.out.alloc _).grown hgrow (hne _ (by omega)))
          have G2 := Lib.hid ((H2.out.alloc _).grown hgrow (hne _ (by omega)))
          have G3 := Lib.hid ((H3.out.alloc _).grown hgrow (hne _ (by omega)))
          have HB1 := Lib.hid ((HW.out.alloc (by omega) _).grown hgrow (by simp; omega) (fun j hj => by have := (HO.out.lt j hj).1; omega))
          have HO1 := Lib.hid hown'
          clear hown' hgrow hne HO HR H0 H1 H2 H3 HW k1 k20 k21 k2f k2g k30 k31 k3f
          have k1 := G3.out.c1
          have k2 := G3.out.f1
          go_wp2_with fail
          go_roundw
          case rel =>
            refine ⟨0, k + 1, ds ++ [s], .slice p' ln' cp', by go_num, by go_num, HR2.out, by omega, ?_, G0.out.set (by show w.heap.size + 3 ≠ w.heap.size; omega) _, G1.out.set (by show w.heap.size + 3 ≠ w.heap.size + 1; omega) _, G2.out.set (by show w.heap.size + 3 ≠ w.heap.size + 2; omega) _, G3.out.set1 _, ?_⟩
            · have := ownsRow_setCell_below HO1.out (a := ⟨w.heap.size + 3, 1, none⟩) (by show w.heap.size + 3 < w.heap.size + 4; omega) (.slice p' ln' cp')
              simpa [u64s] using this
            · exact HB1.out.setCell (p := ⟨w.heap.size + 3, 1, none⟩) (Nat.le_add_right _ _) _
          case measure => simp [intOf]; omega
    · obtain rfl : k = na := by omega
      have HE : Hid (val ds = x - y) := by
        have h := HR.out
        rw [← HNA.out] at h
        exact h.done HXY.out
      have HS : Hid (Small ds) := HR.out.small
      have HL : Hid (ds.length = k) := HR.out.len
      go_wp2_with fail
      refine (trimmed_v (URow.of_owns HO.out) HS.out (by rw [HL.out]; omega)).mono ?_
      rintro e w1 ⟨v, rfl, hv, hb1⟩
      rw [HE.out] at hv
      obtain ⟨rv, hrv, hv⟩ := hv
      have hneg : decide (((x - y : Nat) : Int) < 0) = false := by simp
      rw [hneg] at hrv
      subst hrv
      have HV := Lib.hid hv
      have g2 := H2.out.below hb1 (by omega)
      have HB2 := Lib.hid (HW.out.trans (hb1.mono (by omega)))
      have k20 := g2.c0
      have k21 := g2.c1
      have k2f := g2.f0
      have k2g := g2.f1
      have GG := Lib.hid g2
      clear hneg hb1 g2 HW HO hv HR H0 H1 H2 H3
      obtain ⟨p', cp', rfl, -, -⟩ := id HV.out
      go_wp2_with fail
      refine bodyPost_ret (v := .agg #[.bool false, .slice p' (digs ((x - y : Nat) : Int).natAbs).length cp']) (by simp [results, Tryd.results142, go_sem, k20, k21]) rfl ⟨_, rfl, ⟨.slice p' (digs ((x - y : Nat) : Int).natAbs).length cp', by simp, ?_⟩, ?_⟩
      · exact (HV.out.set GG.out 0 _).set (GG.out.set0 _) 1 _
      · exact (HB2.out.setCell (p := ⟨w.heap.size + 2, 0, none⟩) (Nat.le_add_right _ _) _).setCell (p := ⟨w.heap.size + 2, 1, none⟩) (Nat.le_add_right _ _) _
end Go.Proofs.YtnpgjlhnlakgpaaDoor

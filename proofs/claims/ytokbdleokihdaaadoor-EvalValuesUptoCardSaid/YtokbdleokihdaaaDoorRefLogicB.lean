/- Contract of the document's AND and OR. -/
import Derived.Test.YtokbdleokihdaaaDoorG16
import Derived.Test.YtokbdleokihdaaaDoorG04
namespace Go.Proofs.YtokbdleokihdaaaDoor
open Go.RowKit

theorem eq_truth {d : Dt} (h : rightD d = true) (st : Int) : eqD d.k d.i d.s 1 st ⟨#[]⟩ = isSt st d := by
  unfold isSt
  by_cases hk : d.k = 1
  · have hs := right_bool h hk
    rw [hs, hk]
    unfold eqD
    simp
  · unfold eqD
    rw [show (d.k == 1) = false by simpa using hk]
    simp
theorem eq_null {d : Dt} (h : rightD d = true) : eqD d.k d.i d.s 0 0 ⟨#[]⟩ = (d.k == 0) := by
  by_cases hk : d.k = 0
  · have h2 := h
    simp [rightD, rightN, hk] at h2
    have hs : d.s = ⟨#[]⟩ := empty_of (s := d.s) (by simpa using h2.2)
    rw [hs, hk, h2.1, eqD_iff.2 ⟨rfl, rfl, rfl⟩]
    rfl
  · unfold eqD
    rw [show (d.k == 0) = false by simpa using hk]
    simp

set_option maxHeartbeats 1000000 in
theorem reflogic_and (d d' : Dt) (b o cap : Nat) (w : World) (hbk : b < w.heap.size) (hc : DCells w b o [d, d']) (hr : rightD d = true) (hr' : rightD d' = true) :
    Calls Tryd.prog 40 #[.int .i64 13, .slice (some ⟨b, o, none⟩) 2 cap] w fun e w' => e = .returned (.tuple #[(andorR 0 d d').1.v, .int .i64 (andorR 0 d d').2]) ∧ Below w.heap.size w w' := by
  have HS : Hid (([d, d'].any fun d => eqD d.k d.i d.s 1 0 ⟨#[]⟩) = [d, d'].any (isSt 0)) := by show _ = _; simp [eq_truth hr, eq_truth hr']
  have HN : Hid (([d, d'].any fun d => eqD d.k d.i d.s 0 0 ⟨#[]⟩) = [d, d'].any (fun d => d.k == 0)) := by show _ = _; simp [eq_null hr, eq_null hr']
  have Hc := Lib.hid hc
  clear hc hr hr'
  go_enter Tryd.func40, Tryd.ntmps40
  go_wp2_with fail
  refine (refonly_any [d, d'] b o cap 1 1 _ (by simp) (by simp; omega) (Hc.out.below ((Below.refl _ _).alloc (Nat.le_refl _) _) hbk)).mono ?_
  rintro e w2 ⟨rfl, hb2⟩
  have hz := (box_new (by rw [← World.size_alloc]; exact hb2 : Below (w.heap.size + 1) (w.alloc (.cells #[.int .i64 0, .int .i64 0, .string ⟨#[]⟩] 23)) w2))
  have hal : [d, d'].all (onlyF 1 1) = [d, d'].all (isOf [1]) := by simp [onlyF_one]
  rw [hal]
  obtain ⟨⟨b1, b2, b3⟩, ⟨f1, f2, f3⟩, hB, hzw⟩ := hz
  have HB := Lib.hid hB
  have KB := Lib.hid (Bx.mk b1 b2 b3 f1 f2 f3 hzw)
  have Hc2 := Lib.hid (Hc.out.below hB hbk)
  clear hb2 hB hal Hc
  cases hall : [d, d'].all (isOf [1])
  · have HE : Hid (andorR 0 d d' = (Dt.zero, 5)) := by show andorR 0 d d' = _; rw [andorR, if_neg (by rw [hall]; simp)]
    clear hall
    go_wp2_with fail
    refine bodyPost_ret (v := .tuple #[Dt.zero.v, .int .i64 5]) (by simp [results, Tryd.results40, go_sem, b1, b2, b3, Dt.zero]) rfl ⟨by rw [HE.out]; try rfl, ?_⟩
    exact ((HB.out.setCell (Nat.le_refl _) _).setCell (Nat.le_refl _) _).setCell (Nat.le_refl _) _
  · have HE : Hid (andorR 0 d d' = (andor 0 [d, d'], 0)) := by show andorR 0 d d' = _; rw [andorR, if_pos hall]
    have HA := Lib.hid (show andor 0 [d, d'] = if [d, d'].any (isSt 0) then ⟨1, 0, ⟨#[]⟩⟩ else if [d, d'].any (fun d => d.k == 0) then Dt.zero else truthD ((0 : Int) == 0) from rfl)
    clear hall
    go_wp2_with fail
    refine (refbool_any _ _).mono ?_
    rintro e w3 ⟨rfl, hb3⟩
    rw [show truthD false = ⟨1, 0, ⟨#[]⟩⟩ from rfl]
    replace KB := Lib.hid (KB.out.below hb3)
    replace HB := Lib.hid (HB.out.trans (hb3.mono (by omega)))
    replace Hc2 := Lib.hid (Hc2.out.below hb3 (by omega))
    have hz3 := hb3.size
    clear hb3
    obtain ⟨b1, b2, b3, f1, f2, f3, -⟩ := KB.out
    go_wp2_with fail
    refine (refhas_any [d, d'] b o cap 1 0 ⟨#[]⟩ _ (by simp) (by omega) Hc2.out).mono ?_
    rintro e w4 ⟨rfl, hb4⟩
    rw [HS.out]
    replace KB := Lib.hid (KB.out.below hb4)
    replace HB := Lib.hid (HB.out.trans (hb4.mono (by omega)))
    replace Hc2 := Lib.hid (Hc2.out.below hb4 (by omega))
    have hz4 := hb4.size
    clear hb4
    obtain ⟨b1, b2, b3, f1, f2, f3, -⟩ := KB.out
    cases h1 : [d, d'].any (isSt 0)
    · go_wp2_with fail
      refine (refhas_any [d, d'] b o cap 0 0 ⟨#[]⟩ _ (by simp) (by omega) Hc2.out).mono ?_
      rintro e w5 ⟨rfl, hb5⟩
      rw [HN.out]
      replace KB := Lib.hid (KB.out.below hb5)
      replace HB := Lib.hid (HB.out.trans (hb5.mono (by omega)))
      replace Hc2 := Lib.hid (Hc2.out.below hb5 (by omega))
      have hz5 := hb5.size
      clear hb5
      obtain ⟨b1, b2, b3, f1, f2, f3, -⟩ := KB.out
      cases h2 : [d, d'].any (fun d => d.k == 0)
      · have HV : Hid (andor 0 [d, d'] = truthD true) := by show _ = _; rw [HA.out, if_neg (by rw [h1]; simp), if_neg (by rw [h2]; simp)]; rfl
        clear h1 h2
        go_wp2_with fail
        refine (refbool_any _ _).mono ?_
        rintro e w6 ⟨rfl, hb6⟩
        replace KB := Lib.hid (KB.out.below hb6)
        replace HB := Lib.hid (HB.out.trans (hb6.mono (by omega)))
        replace Hc2 := Lib.hid (Hc2.out.below hb6 (by omega))
        have hz6 := hb6.size
        clear hb6
        obtain ⟨b1, b2, b3, f1, f2, f3, -⟩ := KB.out
        rw [show truthD true = ⟨1, 1, ⟨#[]⟩⟩ from rfl]
        go_wp2_with fail
        refine bodyPost_ret (v := .tuple #[.agg #[.int .i64 1, .int .i64 1, .string ⟨#[]⟩], .int .i64 0]) (by simp [results, Tryd.results40, go_sem, b1, b2, b3]) rfl ⟨by rw [HE.out, HV.out]; try rfl, ?_⟩
        exact ((HB.out.setCell (Nat.le_refl _) _).setCell (Nat.le_refl _) _).setCell (Nat.le_refl _) _
      · have HV : Hid (andor 0 [d, d'] = Dt.zero) := by show _ = _; rw [HA.out, if_neg (by rw [h1]; simp), if_pos h2]
        clear h1 h2
        go_wp2_with fail
        refine bodyPost_ret (v := .tuple #[Dt.zero.v, .int .i64 0]) (by simp [results, Tryd.results40, go_sem, b1, b2, b3, Dt.zero]) rfl ⟨by rw [HE.out, HV.out]; try rfl, ?_⟩
        exact ((HB.out.setCell (Nat.le_refl _) _).setCell (Nat.le_refl _) _).setCell (Nat.le_refl _) _
    · have HV : Hid (andor 0 [d, d'] = ⟨1, 0, ⟨#[]⟩⟩) := by show _ = _; rw [HA.out, if_pos h1]
      clear h1
      go_wp2_with fail
      refine (refbool_any _ _).mono ?_
      rintro e w6 ⟨rfl, hb6⟩
      replace KB := Lib.hid (KB.out.below hb6)
      replace HB := Lib.hid (HB.out.trans (hb6.mono (by omega)))
      replace Hc2 := Lib.hid (Hc2.out.below hb6 (by omega))
      have hz6 := hb6.size
      clear hb6
      obtain ⟨b1, b2, b3, f1, f2, f3, -⟩ := KB.out
      rw [show truthD false = ⟨1, 0, ⟨#[]⟩⟩ from rfl]
      go_wp2_with fail
      refine bodyPost_ret (v := .tuple #[.agg #[.int .i64 1, .int .i64 0, .string ⟨#[]⟩], .int .i64 0]) (by simp [results, Tryd.results40, go_sem, b1, b2, b3]) rfl ⟨by rw [HE.out, HV.out]; try rfl, ?_⟩
      exact ((HB.out.setCell (Nat.le_refl _) _).setCell (Nat.le_refl _) _).setCell (Nat.le_refl _) _

set_option maxHeartbeats 1000000 in
theorem reflogic_or (d d' : Dt) (b o cap : Nat) (w : World) (hbk : b < w.heap.size) (hc : DCells w b o [d, d']) (hr : rightD d = true) (hr' : rightD d' = true) :
    Calls Tryd.prog 40 #[.int .i64 14, .slice (some ⟨b, o, none⟩) 2 cap] w fun e w' => e = .returned (.tuple #[(andorR 1 d d').1.v, .int .i64 (andorR 1 d d').2]) ∧ Below w.heap.size w w' := by
  have HS : Hid (([d, d'].any fun d => eqD d.k d.i d.s 1 1 ⟨#[]⟩) = [d, d'].any (isSt 1)) := by show _ = _; simp [eq_truth hr, eq_truth hr']
  have HN : Hid (([d, d'].any fun d => eqD d.k d.i d.s 0 0 ⟨#[]⟩) = [d, d'].any (fun d => d.k == 0)) := by show _ = _; simp [eq_null hr, eq_null hr']
  have Hc := Lib.hid hc
  clear hc hr hr'
  go_enter Tryd.func40, Tryd.ntmps40
  go_wp2_with fail
  refine (refonly_any [d, d'] b o cap 1 1 _ (by simp) (by simp; omega) (Hc.out.below ((Below.refl _ _).alloc (Nat.le_refl _) _) hbk)).mono ?_
  rintro e w2 ⟨rfl, hb2⟩
  have hz := (box_new (by rw [← World.size_alloc]; exact hb2 : Below (w.heap.size + 1) (w.alloc (.cells #[.int .i64 0, .int .i64 0, .string ⟨#[]⟩] 23)) w2))
  have hal : [d, d'].all (onlyF 1 1) = [d, d'].all (isOf [1]) := by simp [onlyF_one]
  rw [hal]
  obtain ⟨⟨b1, b2, b3⟩, ⟨f1, f2, f3⟩, hB, hzw⟩ := hz
  have HB := Lib.hid hB
  have KB := Lib.hid (Bx.mk b1 b2 b3 f1 f2 f3 hzw)
  have Hc2 := Lib.hid (Hc.out.below hB hbk)
  clear hb2 hB hal Hc
  cases hall : [d, d'].all (isOf [1])
  · have HE : Hid (andorR 1 d d' = (Dt.zero, 5)) := by show andorR 1 d d' = _; rw [andorR, if_neg (by rw [hall]; simp)]
    clear hall
    go_wp2_with fail
    refine bodyPost_ret (v := .tuple #[Dt.zero.v, .int .i64 5]) (by simp [results, Tryd.results40, go_sem, b1, b2, b3, Dt.zero]) rfl ⟨by rw [HE.out]; try rfl, ?_⟩
    exact ((HB.out.setCell (Nat.le_refl _) _).setCell (Nat.le_refl _) _).setCell (Nat.le_refl _) _
  · have HE : Hid (andorR 1 d d' = (andor 1 [d, d'], 0)) := by show andorR 1 d d' = _; rw [andorR, if_pos hall]
    have HA := Lib.hid (show andor 1 [d, d'] = if [d, d'].any (isSt 1) then ⟨1, 1, ⟨#[]⟩⟩ else if [d, d'].any (fun d => d.k == 0) then Dt.zero else truthD ((1 : Int) == 0) from rfl)
    clear hall
    go_wp2_with fail
    refine (refbool_any _ _).mono ?_
    rintro e w3 ⟨rfl, hb3⟩
    rw [show truthD true = ⟨1, 1, ⟨#[]⟩⟩ from rfl]
    replace KB := Lib.hid (KB.out.below hb3)
    replace HB := Lib.hid (HB.out.trans (hb3.mono (by omega)))
    replace Hc2 := Lib.hid (Hc2.out.below hb3 (by omega))
    have hz3 := hb3.size
    clear hb3
    obtain ⟨b1, b2, b3, f1, f2, f3, -⟩ := KB.out
    go_wp2_with fail
    refine (refhas_any [d, d'] b o cap 1 1 ⟨#[]⟩ _ (by simp) (by omega) Hc2.out).mono ?_
    rintro e w4 ⟨rfl, hb4⟩
    rw [HS.out]
    replace KB := Lib.hid (KB.out.below hb4)
    replace HB := Lib.hid (HB.out.trans (hb4.mono (by omega)))
    replace Hc2 := Lib.hid (Hc2.out.below hb4 (by omega))
    have hz4 := hb4.size
    clear hb4
    obtain ⟨b1, b2, b3, f1, f2, f3, -⟩ := KB.out
    cases h1 : [d, d'].any (isSt 1)
    · go_wp2_with fail
      refine (refhas_any [d, d'] b o cap 0 0 ⟨#[]⟩ _ (by simp) (by omega) Hc2.out).mono ?_
      rintro e w5 ⟨rfl, hb5⟩
      rw [HN.out]
      replace KB := Lib.hid (KB.out.below hb5)
      replace HB := Lib.hid (HB.out.trans (hb5.mono (by omega)))
      replace Hc2 := Lib.hid (Hc2.out.below hb5 (by omega))
      have hz5 := hb5.size
      clear hb5
      obtain ⟨b1, b2, b3, f1, f2, f3, -⟩ := KB.out
      cases h2 : [d, d'].any (fun d => d.k == 0)
      · have HV : Hid (andor 1 [d, d'] = truthD false) := by show _ = _; rw [HA.out, if_neg (by rw [h1]; simp), if_neg (by rw [h2]; simp)]; rfl
        clear h1 h2
        go_wp2_with fail
        refine (refbool_any _ _).mono ?_
        rintro e w6 ⟨rfl, hb6⟩
        replace KB := Lib.hid (KB.out.below hb6)
        replace HB := Lib.hid (HB.out.trans (hb6.mono (by omega)))
        replace Hc2 := Lib.hid (Hc2.out.below hb6 (by omega))
        have hz6 := hb6.size
        clear hb6
        obtain ⟨b1, b2, b3, f1, f2, f3, -⟩ := KB.out
        rw [show truthD false = ⟨1, 0, ⟨#[]⟩⟩ from rfl]
        go_wp2_with fail
        refine bodyPost_ret (v := .tuple #[.agg #[.int .i64 1, .int .i64 0, .string ⟨#[]⟩], .int .i64 0]) (by simp [results, Tryd.results40, go_sem, b1, b2, b3]) rfl ⟨by rw [HE.out, HV.out]; try rfl, ?_⟩
        exact ((HB.out.setCell (Nat.le_refl _) _).setCell (Nat.le_refl _) _).setCell (Nat.le_refl _) _
      · have HV : Hid (andor 1 [d, d'] = Dt.zero) := by show _ = _; rw [HA.out, if_neg (by rw [h1]; simp), if_pos h2]
        clear h1 h2
        go_wp2_with fail
        refine bodyPost_ret (v := .tuple #[Dt.zero.v, .int .i64 0]) (by simp [results, Tryd.results40, go_sem, b1, b2, b3, Dt.zero]) rfl ⟨by rw [HE.out, HV.out]; try rfl, ?_⟩
        exact ((HB.out.setCell (Nat.le_refl _) _).setCell (Nat.le_refl _) _).setCell (Nat.le_refl _) _
    · have HV : Hid (andor 1 [d, d'] = ⟨1, 1, ⟨#[]⟩⟩) := by show _ = _; rw [HA.out, if_pos h1]
      clear h1
      go_wp2_with fail
      refine (refbool_any _ _).mono ?_
      rintro e w6 ⟨rfl, hb6⟩
      replace KB := Lib.hid (KB.out.below hb6)
      replace HB := Lib.hid (HB.out.trans (hb6.mono (by omega)))
      replace Hc2 := Lib.hid (Hc2.out.below hb6 (by omega))
      have hz6 := hb6.size
      clear hb6
      obtain ⟨b1, b2, b3, f1, f2, f3, -⟩ := KB.out
      rw [show truthD true = ⟨1, 1, ⟨#[]⟩⟩ from rfl]
      go_wp2_with fail
      refine bodyPost_ret (v := .tuple #[.agg #[.int .i64 1, .int .i64 1, .string ⟨#[]⟩], .int .i64 0]) (by simp [results, Tryd.results40, go_sem, b1, b2, b3]) rfl ⟨by rw [HE.out, HV.out]; try rfl, ?_⟩
      exact ((HB.out.setCell (Nat.le_refl _) _).setCell (Nat.le_refl _) _).setCell (Nat.le_refl _) _
end Go.Proofs.YtokbdleokihdaaaDoor

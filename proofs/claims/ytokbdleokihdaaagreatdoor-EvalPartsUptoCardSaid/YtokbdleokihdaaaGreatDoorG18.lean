/- Contract of the document's logic. Contract of the document's AND and OR. Contract of datum.Apply where its arguments may not be. -/
import Derived.Test.YtokbdleokihdaaaGreatDoorG02
import Derived.Test.YtokbdleokihdaaaGreatDoorG03
import Derived.Test.YtokbdleokihdaaaGreatDoorG08
import Derived.Test.YtokbdleokihdaaaGreatDoorG05
namespace Go.Proofs.YtokbdleokihdaaaGreatDoor
open Go.RowKit

theorem onlyF_one (d : Dt) : onlyF 1 1 d = isOf [1] d := by
  unfold onlyF isOf
  cases h : (d.k == 0)
  · simp
    rw [Bool.eq_iff_iff]
    simp
    omega
  · simp

set_option maxHeartbeats 1000000 in
theorem reflogic_not (d : Dt) (b o cap : Nat) (w : World) (hbk : b < w.heap.size) (hc : DCells w b o [d]) :
    Calls Tryz.prog 19 #[.int .i64 2, .slice (some ⟨b, o, none⟩) 1 cap] w fun e w' => e = .returned (.tuple #[(notR d).1.v, .int .i64 (notR d).2]) ∧ Below w.heap.size w w' := by
  have Hc := Lib.hid hc
  clear hc
  go_enter Tryz.func19, Tryz.ntmps19
  go_wp2_with fail
  refine (refonly_any [d] b o cap 1 1 _ (by simp) (by simp; omega) (Hc.out.below ((Below.refl _ _).alloc (Nat.le_refl _) _) hbk)).mono ?_
  rintro e w2 ⟨rfl, hb2⟩
  have HR := Lib.hid hb2
  have hz := (box_new (by rw [← World.size_alloc]; exact hb2 : Below (w.heap.size + 1) (w.alloc (.cells #[.int .i64 0, .int .i64 0, .string ⟨#[]⟩] 27)) w2))
  have hal : [d].all (onlyF 1 1) = [d].all (isOf [1]) := by simp [onlyF_one]
  rw [hal]
  obtain ⟨⟨b1, b2, b3⟩, ⟨f1, f2, f3⟩, hB, hzw⟩ := hz
  have HB := Lib.hid hB
  have Hc2 := Lib.hid (Hc.out.below hB hbk)
  clear hb2 hB hal
  cases hall : [d].all (isOf [1])
  · have HE : Hid (notR d = (Dt.zero, 5)) := by show notR d = _; rw [notR, if_neg (by rw [hall]; simp)]
    clear hall
    go_wp2_with fail
    refine bodyPost_ret (v := .tuple #[Dt.zero.v, .int .i64 5]) (by simp [results, Tryz.results19, go_sem, b1, b2, b3, Dt.zero]) rfl ⟨by rw [HE.out], ?_⟩
    exact ((HB.out.setCell (Nat.le_refl _) _).setCell (Nat.le_refl _) _).setCell (Nat.le_refl _) _
  · have e0 := Hc2.out 0 (by simp)
    have d0 : dnth [d] 0 = d := rfl
    rw [d0] at e0
    simp only [Nat.zero_mul, Nat.add_zero] at e0
    obtain ⟨e0, e1, e2⟩ := e0
    clear d0
    have HE : Hid (notR d = (notF d, 0)) := by show notR d = _; rw [notR, if_pos hall]
    clear hall
    have hnf := (show notF d = if d.k = 0 then Dt.zero else truthD (d.i == 0) from rfl)
    cases hk : (d.k == 0)
    · have HN : Hid (notF d = truthD (d.i == 0)) := by show _ = _; rw [hnf, if_neg (by simpa using hk)]
      clear hnf HR
      go_wp2_with fail
      refine (refbool_any _ _).mono ?_
      rintro e w3 ⟨rfl, hb3⟩
      obtain ⟨c1, c2, c3, g1, g2, g3, -⟩ := (Bx.mk b1 b2 b3 f1 f2 f3 hzw).below hb3
      have HB3 := Lib.hid (HB.out.trans (hb3.mono (by omega)))
      clear hb3 e0 e1 e2
      rw [← HN.out]
      generalize hfin : notF d = tv
      have HF := Lib.hid hfin
      clear hfin
      obtain ⟨tk, ti, ts⟩ := tv
      go_wp2_with fail
      refine bodyPost_ret (v := .tuple #[.agg #[.int .i64 tk, .int .i64 ti, .string ts], .int .i64 0]) (by simp [results, Tryz.results19, go_sem, c1, c2, c3]) rfl ⟨by rw [HE.out, HF.out], ?_⟩
      exact ((HB3.out.setCell (Nat.le_refl _) _).setCell (Nat.le_refl _) _).setCell (Nat.le_refl _) _
    · have HN : Hid (notF d = Dt.zero) := by show _ = _; rw [hnf, if_pos (by simpa using hk)]
      clear hnf HR
      go_wp2_with fail
      refine bodyPost_ret (v := .tuple #[Dt.zero.v, .int .i64 0]) (by simp [results, Tryz.results19, go_sem, b1, b2, b3, Dt.zero]) rfl ⟨by rw [HE.out, HN.out], ?_⟩
      exact ((HB.out.setCell (Nat.le_refl _) _).setCell (Nat.le_refl _) _).setCell (Nat.le_refl _) _
end Go.Proofs.YtokbdleokihdaaaGreatDoor
namespace Go.Proofs.YtokbdleokihdaaaGreatDoor
open Go.RowKit

theorem eq_truth {d : Dt} (h : rightD d = true) (st : Int) : eqD d.k d.i d.s 1 st ⟨#[]⟩ = isSt st d := by
  unfold isSt
  by_cases hk : d.k = 1
  · have hs := right_bool h hk
    rw [hs, hk]
    unfold eqD
    simp
  · unfold eqD
    rw [show (d.k == 1) = false by simpa using hk]
    simp
theorem eq_null {d : Dt} (h : rightD d = true) : eqD d.k d.i d.s 0 0 ⟨#[]⟩ = (d.k == 0) := by
  by_cases hk : d.k = 0
  · have h2 := h
    simp [rightD, rightN, hk] at h2
    have hs : d.s = ⟨#[]⟩ := empty_of (s := d.s) (by simpa using h2.2)
    rw [hs, hk, h2.1, eqD_iff.2 ⟨rfl, rfl, rfl⟩]
    rfl
  · unfold eqD
    rw [show (d.k == 0) = false by simpa using hk]
    simp

set_option maxHeartbeats 1000000 in
theorem reflogic_and (d d' : Dt) (b o cap : Nat) (w : World) (hbk : b < w.heap.size) (hc : DCells w b o [d, d']) (hr : rightD d = true) (hr' : rightD d' = true) :
    Calls Tryz.prog 19 #[.int .i64 13, .slice (some ⟨b, o, none⟩) 2 cap] w fun e w' => e = .returned (.tuple #[(andorR 0 d d').1.v, .int .i64 (andorR 0 d d').2]) ∧ Below w.heap.size w w' := by
  have HS : Hid (([d, d'].any fun d => eqD d.k d.i d.s 1 0 ⟨#[]⟩) = [d, d'].any (isSt 0)) := by show _ = _; simp [eq_truth hr, eq_truth hr']
  have HN : Hid (([d, d'].any fun d => eqD d.k d.i d.s 0 0 ⟨#[]⟩) = [d, d'].any (fun d => d.k == 0)) := by show _ = _; simp [eq_null hr, eq_null hr']
  have Hc := Lib.hid hc
  clear hc hr hr'
  go_enter Tryz.func19, Tryz.ntmps19
  go_wp2_with fail
  refine (refonly_any [d, d'] b o cap 1 1 _ (by simp) (by simp; omega) (Hc.out.below ((Below.refl _ _).alloc (Nat.le_refl _) _) hbk)).mono ?_
  rintro e w2 ⟨rfl, hb2⟩
  have hz := (box_new (by rw [← World.size_alloc]; exact hb2 : Below (w.heap.size + 1) (w.alloc (.cells #[.int .i64 0, .int .i64 0, .string ⟨#[]⟩] 27)) w2))
  have hal : [d, d'].all (onlyF 1 1) = [d, d'].all (isOf [1]) := by simp [onlyF_one]
  rw [hal]
  obtain ⟨⟨b1, b2, b3⟩, ⟨f1, f2, f3⟩, hB, hzw⟩ := hz
  have HB := Lib.hid hB
  have KB := Lib.hid (Bx.mk b1 b2 b3 f1 f2 f3 hzw)
  have Hc2 := Lib.hid (Hc.out.below hB hbk)
  clear hb2 hB hal Hc
  cases hall : [d, d'].all (isOf [1])
  · have HE : Hid (andorR 0 d d' = (Dt.zero, 5)) := by show andorR 0 d d' = _; rw [andorR, if_neg (by rw [hall]; simp)]
    clear hall
    go_wp2_with fail
    refine bodyPost_ret (v := .tuple #[Dt.zero.v, .int .i64 5]) (by simp [results, Tryz.results19, go_sem, b1, b2, b3, Dt.zero]) rfl ⟨by rw [HE.out]; try rfl, ?_⟩
    exact ((HB.out.setCell (Nat.le_refl _) _).setCell (Nat.le_refl _) _).setCell (Nat.le_refl _) _
  · have HE : Hid (andorR 0 d d' = (andor 0 [d, d'], 0)) := by show andorR 0 d d' = _; rw [andorR, if_pos hall]
    have HA := Lib.hid (show andor 0 [d, d'] = if [d, d'].any (isSt 0) then ⟨1, 0, ⟨#[]⟩⟩ else if [d, d'].any (fun d => d.k == 0) then Dt.zero else truthD ((0 : Int) == 0) from rfl)
    clear hall
    go_wp2_with fail
    refine (refbool_any _ _).mono ?_
    rintro e w3 ⟨rfl, hb3⟩
    rw [show truthD false = ⟨1, 0, ⟨#[]⟩⟩ from rfl]
    replace KB := Lib.hid (KB.out.below hb3)
    replace HB := Lib.hid (HB.out.trans (hb3.mono (by omega)))
    replace Hc2 := Lib.hid (Hc2.out.below hb3 (by omega))
    have hz3 := hb3.size
    clear hb3
    obtain ⟨b1, b2, b3, f1, f2, f3, -⟩ := KB.out
    go_wp2_with fail
    refine (refhas_any [d, d'] b o cap 1 0 ⟨#[]⟩ _ (by simp) (by omega) Hc2.out).mono ?_
    rintro e w4 ⟨rfl, hb4⟩
    rw [HS.out]
    replace KB := Lib.hid (KB.out.below hb4)
    replace HB := Lib.hid (HB.out.trans (hb4.mono (by omega)))
    replace Hc2 := Lib.hid (Hc2.out.below hb4 (by omega))
    have hz4 := hb4.size
    clear hb4
    obtain ⟨b1, b2, b3, f1, f2, f3, -⟩ := KB.out
    cases h1 : [d, d'].any (isSt 0)
    · go_wp2_with fail
      refine (refhas_any [d, d'] b o cap 0 0 ⟨#[]⟩ _ (by simp) (by omega) Hc2.out).mono ?_
      rintro e w5 ⟨rfl, hb5⟩
      rw [HN.out]
      replace KB := Lib.hid (KB.out.below hb5)
      replace HB := Lib.hid (HB.out.trans (hb5.mono (by omega)))
      replace Hc2 := Lib.hid (Hc2.out.below hb5 (by omega))
      have hz5 := hb5.size
      clear hb5
      obtain ⟨b1, b2, b3, f1, f2, f3, -⟩ := KB.out
      cases h2 : [d, d'].any (fun d => d.k == 0)
      · have HV : Hid (andor 0 [d, d'] = truthD true) := by show _ = _; rw [HA.out, if_neg (by rw [h1]; simp), if_neg (by rw [h2]; simp)]; rfl
        clear h1 h2
        go_wp2_with fail
        refine (refbool_any _ _).mono ?_
        rintro e w6 ⟨rfl, hb6⟩
        replace KB := Lib.hid (KB.out.below hb6)
        replace HB := Lib.hid (HB.out.trans (hb6.mono (by omega)))
        replace Hc2 := Lib.hid (Hc2.out.below hb6 (by omega))
        have hz6 := hb6.size
        clear hb6
        obtain ⟨b1, b2, b3, f1, f2, f3, -⟩ := KB.out
        rw [show truthD true = ⟨1, 1, ⟨#[]⟩⟩ from rfl]
        go_wp2_with fail
        refine bodyPost_ret (v := .tuple #[.agg #[.int .i64 1, .int .i64 1, .string ⟨#[]⟩], .int .i64 0]) (by simp [results, Tryz.results19, go_sem, b1, b2, b3]) rfl ⟨by rw [HE.out, HV.out]; try rfl, ?_⟩
        exact ((HB.out.setCell (Nat.le_refl _) _).setCell (Nat.le_refl _) _).setCell (Nat.le_refl _) _
      · have HV : Hid (andor 0 [d, d'] = Dt.zero) := by show _ = _; rw [HA.out, if_neg (by rw [h1]; simp), if_pos h2]
        clear h1 h2
        go_wp2_with fail
        refine bodyPost_ret (v := .tuple #[Dt.zero.v, .int .i64 0]) (by simp [results, Tryz.results19, go_sem, b1, b2, b3, Dt.zero]) rfl ⟨by rw [HE.out, HV.out]; try rfl, ?_⟩
        exact ((HB.out.setCell (Nat.le_refl _) _).setCell (Nat.le_refl _) _).setCell (Nat.le_refl _) _
    · have HV : Hid (andor 0 [d, d'] = ⟨1, 0, ⟨#[]⟩⟩) := by show _ = _; rw [HA.out, if_pos h1]
      clear h1
      go_wp2_with fail
      refine (refbool_any _ _).mono ?_
      rintro e w6 ⟨rfl, hb6⟩
      replace KB := Lib.hid (KB.out.below hb6)
      replace HB := Lib.hid (HB.out.trans (hb6.mono (by omega)))
      replace Hc2 := Lib.hid (Hc2.out.below hb6 (by omega))
      have hz6 := hb6.size
      clear hb6
      obtain ⟨b1, b2, b3, f1, f2, f3, -⟩ := KB.out
      rw [show truthD false = ⟨1, 0, ⟨#[]⟩⟩ from rfl]
      go_wp2_with fail
      refine bodyPost_ret (v := .tuple #[.agg #[.int .i64 1, .int .i64 0, .string ⟨#[]⟩], .int .i64 0]) (by simp [results, Tryz.results19, go_sem, b1, b2, b3]) rfl ⟨by rw [HE.out, HV.out]; try rfl, ?_⟩
      exact ((HB.out.setCell (Nat.le_refl _) _).setCell (Nat.le_refl _) _).setCell (Nat.le_refl _) _

set_option maxHeartbeats 1000000 in
theorem reflogic_or (d d' : Dt) (b o cap : Nat) (w : World) (hbk : b < w.heap.size) (hc : DCells w b o [d, d']) (hr : rightD d = true) (hr' : rightD d' = true) :
    Calls Tryz.prog 19 #[.int .i64 14, .slice (some ⟨b, o, none⟩) 2 cap] w fun e w' => e = .returned (.tuple #[(andorR 1 d d').1.v, .int .i64 (andorR 1 d d').2]) ∧ Below w.heap.size w w' := by
  have HS : Hid (([d, d'].any fun d => eqD d.k d.i d.s 1 1 ⟨#[]⟩) = [d, d'].any (isSt 1)) := by show _ = _; simp [eq_truth hr, eq_truth hr']
  have HN : Hid (([d, d'].any fun d => eqD d.k d.i d.s 0 0 ⟨#[]⟩) = [d, d'].any (fun d => d.k == 0)) := by show _ = _; simp [eq_null hr, eq_null hr']
  have Hc := Lib.hid hc
  clear hc hr hr'
  go_enter Tryz.func19, Tryz.ntmps19
  go_wp2_with fail
  refine (refonly_any [d, d'] b o cap 1 1 _ (by simp) (by simp; omega) (Hc.out.below ((Below.refl _ _).alloc (Nat.le_refl _) _) hbk)).mono ?_
  rintro e w2 ⟨rfl, hb2⟩
  have hz := (box_new (by rw [← World.size_alloc]; exact hb2 : Below (w.heap.size + 1) (w.alloc (.cells #[.int .i64 0, .int .i64 0, .string ⟨#[]⟩] 27)) w2))
  have hal : [d, d'].all (onlyF 1 1) = [d, d'].all (isOf [1]) := by simp [onlyF_one]
  rw [hal]
  obtain ⟨⟨b1, b2, b3⟩, ⟨f1, f2, f3⟩, hB, hzw⟩ := hz
  have HB := Lib.hid hB
  have KB := Lib.hid (Bx.mk b1 b2 b3 f1 f2 f3 hzw)
  have Hc2 := Lib.hid (Hc.out.below hB hbk)
  clear hb2 hB hal Hc
  cases hall : [d, d'].all (isOf [1])
  · have HE : Hid (andorR 1 d d' = (Dt.zero, 5)) := by show andorR 1 d d' = _; rw [andorR, if_neg (by rw [hall]; simp)]
    clear hall
    go_wp2_with fail
    refine bodyPost_ret (v := .tuple #[Dt.zero.v, .int .i64 5]) (by simp [results, Tryz.results19, go_sem, b1, b2, b3, Dt.zero]) rfl ⟨by rw [HE.out]; try rfl, ?_⟩
    exact ((HB.out.setCell (Nat.le_refl _) _).setCell (Nat.le_refl _) _).setCell (Nat.le_refl _) _
  · have HE : Hid (andorR 1 d d' = (andor 1 [d, d'], 0)) := by show andorR 1 d d' = _; rw [andorR, if_pos hall]
    have HA := Lib.hid (show andor 1 [d, d'] = if [d, d'].any (isSt 1) then ⟨1, 1, ⟨#[]⟩⟩ else if [d, d'].any (fun d => d.k == 0) then Dt.zero else truthD ((1 : Int) == 0) from rfl)
    clear hall
    go_wp2_with fail
    refine (refbool_any _ _).mono ?_
    rintro e w3 ⟨rfl, hb3⟩
    rw [show truthD true = ⟨1, 1, ⟨#[]⟩⟩ from rfl]
    replace KB := Lib.hid (KB.out.below hb3)
    replace HB := Lib.hid (HB.out.trans (hb3.mono (by omega)))
    replace Hc2 := Lib.hid (Hc2.out.below hb3 (by omega))
    have hz3 := hb3.size
    clear hb3
    obtain ⟨b1, b2, b3, f1, f2, f3, -⟩ := KB.out
    go_wp2_with fail
    refine (refhas_any [d, d'] b o cap 1 1 ⟨#[]⟩ _ (by simp) (by omega) Hc2.out).mono ?_
    rintro e w4 ⟨rfl, hb4⟩
    rw [HS.out]
    replace KB := Lib.hid (KB.out.below hb4)
    replace HB := Lib.hid (HB.out.trans (hb4.mono (by omega)))
    replace Hc2 := Lib.hid (Hc2.out.below hb4 (by omega))
    have hz4 := hb4.size
    clear hb4
    obtain ⟨b1, b2, b3, f1, f2, f3, -⟩ := KB.out
    cases h1 : [d, d'].any (isSt 1)
    · go_wp2_with fail
      refine (refhas_any [d, d'] b o cap 0 0 ⟨#[]⟩ _ (by simp) (by omega) Hc2.out).mono ?_
      rintro e w5 ⟨rfl, hb5⟩
      rw [HN.out]
      replace KB := Lib.hid (KB.out.below hb5)
      replace HB := Lib.hid (HB.out.trans (hb5.mono (by omega)))
      replace Hc2 := Lib.hid (Hc2.out.below hb5 (by omega))
      have hz5 := hb5.size
      clear hb5
      obtain ⟨b1, b2, b3, f1, f2, f3, -⟩ := KB.out
      cases h2 : [d, d'].any (fun d => d.k == 0)
      · have HV : Hid (andor 1 [d, d'] = truthD false) := by show _ = _; rw [HA.out, if_neg (by rw [h1]; simp), if_neg (by rw [h2]; simp)]; rfl
        clear h1 h2
        go_wp2_with fail
        refine (refbool_any _ _).mono ?_
        rintro e w6 ⟨rfl, hb6⟩
        replace KB := Lib.hid (KB.out.below hb6)
        replace HB := Lib.hid (HB.out.trans (hb6.mono (by omega)))
        replace Hc2 := Lib.hid (Hc2.out.below hb6 (by omega))
        have hz6 := hb6.size
        clear hb6
        obtain ⟨b1, b2, b3, f1, f2, f3, -⟩ := KB.out
        rw [show truthD false = ⟨1, 0, ⟨#[]⟩⟩ from rfl]
        go_wp2_with fail
        refine bodyPost_ret (v := .tuple #[.agg #[.int .i64 1, .int .i64 0, .string ⟨#[]⟩], .int .i64 0]) (by simp [results, Tryz.results19, go_sem, b1, b2, b3]) rfl ⟨by rw [HE.out, HV.out]; try rfl, ?_⟩
        exact ((HB.out.setCell (Nat.le_refl _) _).setCell (Nat.le_refl _) _).setCell (Nat.le_refl _) _
      · have HV : Hid (andor 1 [d, d'] = Dt.zero) := by show _ = _; rw [HA.out, if_neg (by rw [h1]; simp), if_pos h2]
        clear h1 h2
        go_wp2_with fail
        refine bodyPost_ret (v := .tuple #[Dt.zero.v, .int .i64 0]) (by simp [results, Tryz.results19, go_sem, b1, b2, b3, Dt.zero]) rfl ⟨by rw [HE.out, HV.out]; try rfl, ?_⟩
        exact ((HB.out.setCell (Nat.le_refl _) _).setCell (Nat.le_refl _) _).setCell (Nat.le_refl _) _
    · have HV : Hid (andor 1 [d, d'] = ⟨1, 1, ⟨#[]⟩⟩) := by show _ = _; rw [HA.out, if_pos h1]
      clear h1
      go_wp2_with fail
      refine (refbool_any _ _).mono ?_
      rintro e w6 ⟨rfl, hb6⟩
      replace KB := Lib.hid (KB.out.below hb6)
      replace HB := Lib.hid (HB.out.trans (hb6.mono (by omega)))
      replace Hc2 := Lib.hid (Hc2.out.below hb6 (by omega))
      have hz6 := hb6.size
      clear hb6
      obtain ⟨b1, b2, b3, f1, f2, f3, -⟩ := KB.out
      rw [show truthD true = ⟨1, 1, ⟨#[]⟩⟩ from rfl]
      go_wp2_with fail
      refine bodyPost_ret (v := .tuple #[.agg #[.int .i64 1, .int .i64 1, .string ⟨#[]⟩], .int .i64 0]) (by simp [results, Tryz.results19, go_sem, b1, b2, b3]) rfl ⟨by rw [HE.out, HV.out]; try rfl, ?_⟩
      exact ((HB.out.setCell (Nat.le_refl _) _).setCell (Nat.le_refl _) _).setCell (Nat.le_refl _) _
end Go.Proofs.YtokbdleokihdaaaGreatDoor
namespace Go.Proofs.YtokbdleokihdaaaGreatDoor
open Go.RowKit

set_option maxHeartbeats 1000000 in
theorem apply_count (op : Int) (p : Option Addr) (n cap : Nat) (w : World) (h : manyF op = 0 ∨ (n : Int) ≠ manyF op) :
    Calls Tryz.prog 64 #[.int .i64 op, .slice p n cap] w fun e w' => e = .returned (.tuple #[Dt.zero.v, .int .i64 1]) ∧ Below w.heap.size w w' := by
  by_cases h0 : manyF op = 0
  · have t0 : (manyF op == 0) = true := by simpa using h0
    clear h h0
    go_enter Tryz.func64, Tryz.ntmps64
    go_wp2_with (go_at_call 79; refine (many_any _ _).mono ?_; rintro e w' ⟨rfl, rfl⟩)
    refine bodyPost_ret (v := .tuple #[Dt.zero.v, .int .i64 1]) (by simp [results, Tryz.results64, go_sem, Dt.zero]) rfl ⟨rfl, ?_⟩
    exact (boxes1 w _ _).1
  · have t0 : (manyF op == 0) = false := by simpa using h0
    have t1 : ((n : Int) != manyF op) = true := by simpa using h.resolve_left h0
    clear h h0
    go_enter Tryz.func64, Tryz.ntmps64
    go_wp2_with (go_at_call 79; refine (many_any _ _).mono ?_; rintro e w' ⟨rfl, rfl⟩)
    refine bodyPost_ret (v := .tuple #[Dt.zero.v, .int .i64 1]) (by simp [results, Tryz.results64, go_sem, Dt.zero]) rfl ⟨rfl, ?_⟩
    exact (boxes1 w _ _).1

set_option maxHeartbeats 1000000 in
theorem apply_bad (op : Int) (ds : List Dt) (b o cap : Nat) (w : World) (hn : ds.length ≤ 1000) (hm : manyF op = ds.length) (h0 : 0 < ds.length) (hbk : b < w.heap.size) (hc : DCells w b o ds) (hT : Tabs w) (hbad : ∃ j, j < ds.length ∧ rightD (dnth ds j) = false) :
    Calls Tryz.prog 64 #[.int .i64 op, .slice (some ⟨b, o, none⟩) ds.length cap] w fun e w' => e = .returned (.tuple #[Dt.zero.v, .int .i64 1]) ∧ Below w.heap.size w w' := by
  have t0 : (manyF op == 0) = false := by rw [hm, beq_eq_false_iff_ne]; omega
  have t1 : ((ds.length : Int) != manyF op) = false := by rw [hm]; simp
  have Hc := Lib.hid hc
  have HT := Lib.hid hT
  have HX := Lib.hid hbad
  clear hc hT hbad hm
  generalize hl : ds.length = l at *
  have HL := Lib.hid hl
  clear hl
  go_enter Tryz.func64, Tryz.ntmps64
  go_wp2_with (go_at_call 79; refine (many_any _ _).mono ?_; rintro e w' ⟨rfl, rfl⟩)
  go_loopw [7, 23] (fun _ i wr => ∃ k : Nat, k ≤ l ∧ i = .int .i64 k ∧ Below (w.heap.size + 1) (w.alloc (.cells #[.int .i64 0, .int .i64 0, .string ⟨#[]⟩] 27)) wr ∧ ∀ j, j < k → rightD (dnth ds j) = true) (fun _ i _ => l - (intOf i).toNat)
  case atStart => exact ⟨0, Nat.zero_le _, rfl, Below.refl _ _, fun j hj => by omega⟩
  case round =>
    obtain ⟨k, hk, rfl, hbl, hall⟩ := hrel
    have HA := Lib.hid hall
    have hzw : w.heap.size < wr.heap.size := (box_new hbl).2.2.2
    have HB := Lib.hid (box_new hbl).2.2.1
    have HTr := Lib.hid (round_hyp HT.out Hc.out hbk hbl).1
    have Hcr := Lib.hid (round_hyp HT.out Hc.out hbk hbl).2.1
    have Hb := Lib.hid hbl
    clear hbl hall
    by_cases hlt : k < l
    · have hzero : (0 : Int) ≤ k := by omega
      obtain ⟨hc0, hc1, hc2⟩ := Hcr.out k (by rw [HL.out]; exact hlt)
      cases hrk : rightD (dnth ds k)
      · have Hrk := Lib.hid hrk
        clear hrk
        generalize dnth ds k = dd at *
        obtain ⟨dk, di, dst⟩ := dd
        dsimp only at hc0 hc1 hc2
        go_wp2_with fail
        refine (right_any _ _ _ _ (HTr.out.below ((Below.refl _ _).alloc (Nat.le_refl _) _))).mono ?_
        rintro e w2 ⟨rfl, hb2⟩
        have HR := Lib.hid ((Hb.out.alloc (by omega) _).trans (hb2.mono (by simp; omega)))
        clear hb2
        rw [Hrk.out]
        obtain ⟨⟨b1, b2, b3⟩, ⟨f1, f2, f3⟩, hB, hzw2⟩ := box_new HR.out
        have HB2 := Lib.hid hB
        clear hB
        go_wp2_with fail
        refine bodyPost_ret (v := .tuple #[Dt.zero.v, .int .i64 1]) (by simp [results, Tryz.results64, go_sem, b1, b2, b3, Dt.zero]) rfl ⟨rfl, ?_⟩
        exact ((HB2.out.setCell (Nat.le_refl _) _).setCell (Nat.le_refl _) _).setCell (Nat.le_refl _) _
      · have Hrk := Lib.hid hrk
        have HA2 : Hid (∀ j, j < k + 1 → rightD (dnth ds j) = true) := fun j hj => by
          rcases Nat.lt_succ_iff_lt_or_eq.1 hj with h | h
          · exact HA.out j h
          · rw [h]; exact hrk
        clear hrk
        generalize dnth ds k = dd at *
        obtain ⟨dk, di, dst⟩ := dd
        dsimp only at hc0 hc1 hc2
        go_wp2_with fail
        refine (right_any _ _ _ _ (HTr.out.below ((Below.refl _ _).alloc (Nat.le_refl _) _))).mono ?_
        rintro e w2 ⟨rfl, hb2⟩
        have HR := Lib.hid ((Hb.out.alloc (by omega) _).trans (hb2.mono (by simp; omega)))
        clear hb2
        rw [Hrk.out]
        go_wp2_with fail
        go_roundw
        case rel => exact ⟨k + 1, by omega, by go_num, HR.out, HA2.out⟩
        case measure => simp [intOf]; omega
    · exfalso
      obtain ⟨j, hj, hjr⟩ := HX.out
      have := HA.out j (by omega)
      rw [hjr] at this
      cases this
end Go.Proofs.YtokbdleokihdaaaGreatDoor

/- Contract of datum.number at two values, operator 3. Contract of datum.number at two values, operator 4. Contract of datum.number at two values, operator 5. Contract of datum.number at two values, operator 6. What datum.number answers at two values. -/
import Derived.Test.YtokbdleokihdaaaGreatDoorG07
import Derived.Test.YtokbdleokihdaaaGreatDoorG08
namespace Go.Proofs.YtokbdleokihdaaaGreatDoor
open Go.RowKit

set_option maxHeartbeats 2000000 in
theorem number3_dec (d d' : Dt) (b o cap : Nat) (w : World) (hbk : b < w.heap.size) (hc : DCells w b o [d, d']) (hk : d.k = 3 ∨ d'.k = 3)
    (x0 : -9223372036854775808 ≤ d.i) (x1 : d.i < 9223372036854775808) (y0 : -9223372036854775808 ≤ d'.i) (y1 : d'.i < 9223372036854775808) :
    Calls Tryz.prog 86 #[.int .i64 3, .slice (some ⟨b, o, none⟩) 2 cap] w fun e w' => e = .returned (.tuple #[(numR 3 d d').1.v, .bool (numR 3 d d').2]) ∧ Below w.heap.size w w' := by
  obtain ⟨x2, x3⟩ := asDecR_bd d x0 x1
  obtain ⟨y2, y3⟩ := asDecR_bd d' y0 y1
  have HA := Lib.hid (fun w => asDec_any d.k d.i d.s w x0 x1)
  have HA' := Lib.hid (fun w => asDec_any d'.k d'.i d'.s w y0 y1)
  have HS := Lib.hid (fun w => sum_any (asDecR d).1.i (asDecR d').1.i w x2 x3 y2 y3)
  have e0 := hc 0 (by simp)
  have e1 := hc 1 (by simp)
  have d0 : dnth [d, d'] 0 = d := rfl
  have d1 : dnth [d, d'] 1 = d' := rfl
  rw [d0] at e0
  rw [d1] at e1
  clear d0 d1
  simp only [Nat.zero_mul, Nat.one_mul, Nat.add_zero] at e0 e1
  obtain ⟨c0, c1, c2⟩ := e0
  obtain ⟨c3, c4, c5⟩ := e1
  have hne : (w.heap.size == b) = false := by simp; omega
  have hne2 : (w.heap.size + 1 == b) = false := by simp; omega
  have HE : Hid (asDecR ⟨d.k, d.i, d.s⟩ = asDecR d) := by show _ = _; cases d; rfl
  have HE' : Hid (asDecR ⟨d'.k, d'.i, d'.s⟩ = asDecR d') := by show _ = _; cases d'; rfl
  rw [HE.out] at HA
  rw [HE'.out] at HA'
  have HN := Lib.hid (show numR 3 d d' = (if (asDecR d).2 = true ∧ (asDecR d').2 = true then arith 3 3 (asDecR d).1.i (asDecR d').1.i 10000 else (Dt.zero, false)) from if_pos hk)
  have HK := Lib.hid hk
  clear hc x0 x1 y0 y1 x2 x3 y2 y3 HE HE' hk
  generalize hR : numR 3 d d' = R at *
  clear hR
  generalize (asDecR d).2 = ab at *
  generalize (asDecR d').2 = bb at *
  generalize (asDecR d).1 = ad at *
  generalize (asDecR d').1 = bd at *
  obtain ⟨ak, ai, sa⟩ := ad
  obtain ⟨bk, bi, sb⟩ := bd
  have HN2 := Lib.hid (show ab = true → bb = true → R = (⟨3, ((wrap64 (ai + bi), room (ai + bi))).1, ⟨#[]⟩⟩, ((wrap64 (ai + bi), room (ai + bi))).2) from fun h1 h2 => by rw [HN.out, if_pos ⟨h1, h2⟩]; rfl)
  have HN3 := Lib.hid (show (ab = true → bb = true → False) → R = (Dt.zero, false) from fun h => by rw [HN.out, if_neg (fun h' => h h'.1 h'.2)])
  clear HN
  dsimp only at HA HA' HS
  dsimp only at HN2
  generalize wrap64 (ai + bi) = ri at *
  generalize room (ai + bi) = rb at *
  cases hk1 : (d.k == 3)
  · have hk2 : (d'.k == 3) = true := by rcases HK.out with h | h; exact absurd h (by simpa using hk1); simpa using h
    clear HK
    go_enter Tryz.func86, Tryz.ntmps86
    go_wp2_with fail
    obtain ⟨B0, B1, B2⟩ := Bx.three w (.int .i64 0) (.int .i64 0) (.string ⟨#[]⟩) (.int .i64 d.k) (.int .i64 d.i) (.string d.s) (.int .i64 d'.k) (.int .i64 d'.i) (.string d'.s) 27 27 27
    have hb0 := (boxes3 w #[.int .i64 0, .int .i64 0, .string ⟨#[]⟩] #[.int .i64 d.k, .int .i64 d.i, .string d.s] #[.int .i64 d'.k, .int .i64 d'.i, .string d'.s] 27 27 27).1
    refine (HA.out _).mono ?_
    rintro e w1 ⟨rfl, hb1⟩
    replace B0 := B0.below hb1
    replace B1 := B1.below hb1
    replace B2 := B2.below hb1
    have HB1 := Lib.hid (hb0.trans (hb1.mono (by simp; omega)))
    clear hb0 hb1 c0 c1 c2 c3 c4 c5 HA
    have K0 := Lib.hid B0
    have K1 := Lib.hid B1
    have K2 := Lib.hid B2
    obtain ⟨a1, a2, a3, g1, g2, g3, lt1⟩ := B1
    obtain ⟨a4, a5, a6, g4, g5, g6, lt2⟩ := B2
    clear B0
    go_wp2_with fail
    replace K0 := Lib.hid (K0.out.far (m := w.heap.size + 1) (by omega) (.int .i64 ak) (.int .i64 ai) (.string sa))
    replace K2 := Lib.hid (K2.out.far (m := w.heap.size + 1) (by omega) (.int .i64 ak) (.int .i64 ai) (.string sa))
    replace K1 := Lib.hid (K1.out.store (.int .i64 ak) (.int .i64 ai) (.string sa))
    replace HB1 := Lib.hid (below_store3 HB1.out (n := w.heap.size + 1) (by omega) (.int .i64 ak) (.int .i64 ai) (.string sa))
    have lt3 := K2.out.lt
    clear a1 a2 a3 a4 a5 a6 g1 g2 g3 g4 g5 g6 lt1 lt2
    generalize ((w1.setCell ⟨w.heap.size + 1, 0, none⟩ (.int .i64 ak)).setCell ⟨w.heap.size + 1, 1, none⟩ (.int .i64 ai)).setCell ⟨w.heap.size + 1, 2, none⟩ (.string sa) = W1 at *
    refine (HA'.out _).mono ?_
    rintro e w2 ⟨rfl, hb2⟩
    replace K0 := Lib.hid (K0.out.below hb2)
    replace K1 := Lib.hid (K1.out.below hb2)
    have K2' := K2.out.below hb2
    replace HB1 := Lib.hid (HB1.out.trans (hb2.mono (by omega)))
    clear hb2 HA' K2 lt3
    have K2 := Lib.hid K2'
    obtain ⟨a4, a5, a6, g4, g5, g6, lt2⟩ := K2'
    obtain ⟨a1, a2, a3, g1, g2, g3, lt1⟩ := K1.out
    replace K0 := Lib.hid (K0.out.far (m := w.heap.size + 1 + 1) (by omega) (.int .i64 bk) (.int .i64 bi) (.string sb))
    replace K1 := Lib.hid (K1.out.far (m := w.heap.size + 1 + 1) (by omega) (.int .i64 bk) (.int .i64 bi) (.string sb))
    replace K2 := Lib.hid (K2.out.store (.int .i64 bk) (.int .i64 bi) (.string sb))
    replace HB1 := Lib.hid (below_store3 HB1.out (n := w.heap.size + 1 + 1) (by omega) (.int .i64 bk) (.int .i64 bi) (.string sb))
    by_cases hok : ab = true ∧ bb = true
    · obtain ⟨rfl, rfl⟩ := hok
      replace HN2 := Lib.hid (HN2.out rfl rfl)
      clear HN3
      go_wp2_with fail
      refine (HS.out _).mono ?_
      rintro e w3 ⟨rfl, hb3⟩
      obtain ⟨b1, b2, b3, f1, f2, f3, -⟩ := K0.out.below hb3
      have HB := Lib.hid (HB1.out.trans (hb3.mono (by have := K0.out.lt; omega)))
      clear hb3 HB1 HS K0 K1 K2 a1 a2 a3 a4 a5 a6 g1 g2 g3 g4 g5 g6
      go_wp2_with fail
      refine bodyPost_ret (v := .tuple #[.agg #[.int .i64 3, .int .i64 ri, .string ⟨#[]⟩], .bool rb]) (by simp [results, Tryz.results86, go_sem, b1, b2, b3]) rfl ⟨by rw [HN2.out], ?_⟩
      exact ((HB.out.setCell (Nat.le_refl _) _).setCell (Nat.le_refl _) _).setCell (Nat.le_refl _) _
    · have HN4 := Lib.hid (HN3.out (fun h1 h2 => hok ⟨h1, h2⟩))
      have hok2 : (!ab || !bb) = true := by cases ab <;> cases bb <;> simp at hok ⊢
      obtain ⟨b1, b2, b3, f1, f2, f3, -⟩ := K0.out
      have HB := HB1
      clear HN2 HN3
      cases ab
      all_goals try (cases bb)
      all_goals try (exact absurd ⟨rfl, rfl⟩ hok)
      all_goals
        go_wp2_with fail
        refine bodyPost_ret (v := .tuple #[Dt.zero.v, .bool false]) (by simp [results, Tryz.results86, go_sem, b1, b2, b3, Dt.zero]) rfl ⟨by rw [HN4.out], ?_⟩
        exact ((HB.out.setCell (Nat.le_refl _) _).setCell (Nat.le_refl _) _).setCell (Nat.le_refl _) _
  · clear HK
    go_enter Tryz.func86, Tryz.ntmps86
    go_wp2_with fail
    obtain ⟨B0, B1, B2⟩ := Bx.three w (.int .i64 0) (.int .i64 0) (.string ⟨#[]⟩) (.int .i64 d.k) (.int .i64 d.i) (.string d.s) (.int .i64 d'.k) (.int .i64 d'.i) (.string d'.s) 27 27 27
    have hb0 := (boxes3 w #[.int .i64 0, .int .i64 0, .string ⟨#[]⟩] #[.int .i64 d.k, .int .i64 d.i, .string d.s] #[.int .i64 d'.k, .int .i64 d'.i, .string d'.s] 27 27 27).1
    refine (HA.out _).mono ?_
    rintro e w1 ⟨rfl, hb1⟩
    replace B0 := B0.below hb1
    replace B1 := B1.below hb1
    replace B2 := B2.below hb1
    have HB1 := Lib.hid (hb0.trans (hb1.mono (by simp; omega)))
    clear hb0 hb1 c0 c1 c2 c3 c4 c5 HA
    have K0 := Lib.hid B0
    have K1 := Lib.hid B1
    have K2 := Lib.hid B2
    obtain ⟨a1, a2, a3, g1, g2, g3, lt1⟩ := B1
    obtain ⟨a4, a5, a6, g4, g5, g6, lt2⟩ := B2
    clear B0
    go_wp2_with fail
    replace K0 := Lib.hid (K0.out.far (m := w.heap.size + 1) (by omega) (.int .i64 ak) (.int .i64 ai) (.string sa))
    replace K2 := Lib.hid (K2.out.far (m := w.heap.size + 1) (by omega) (.int .i64 ak) (.int .i64 ai) (.string sa))
    replace K1 := Lib.hid (K1.out.store (.int .i64 ak) (.int .i64 ai) (.string sa))
    replace HB1 := Lib.hid (below_store3 HB1.out (n := w.heap.size + 1) (by omega) (.int .i64 ak) (.int .i64 ai) (.string sa))
    have lt3 := K2.out.lt
    clear a1 a2 a3 a4 a5 a6 g1 g2 g3 g4 g5 g6 lt1 lt2
    generalize ((w1.setCell ⟨w.heap.size + 1, 0, none⟩ (.int .i64 ak)).setCell ⟨w.heap.size + 1, 1, none⟩ (.int .i64 ai)).setCell ⟨w.heap.size + 1, 2, none⟩ (.string sa) = W1 at *
    refine (HA'.out _).mono ?_
    rintro e w2 ⟨rfl, hb2⟩
    replace K0 := Lib.hid (K0.out.below hb2)
    replace K1 := Lib.hid (K1.out.below hb2)
    have K2' := K2.out.below hb2
    replace HB1 := Lib.hid (HB1.out.trans (hb2.mono (by omega)))
    clear hb2 HA' K2 lt3
    have K2 := Lib.hid K2'
    obtain ⟨a4, a5, a6, g4, g5, g6, lt2⟩ := K2'
    obtain ⟨a1, a2, a3, g1, g2, g3, lt1⟩ := K1.out
    replace K0 := Lib.hid (K0.out.far (m := w.heap.size + 1 + 1) (by omega) (.int .i64 bk) (.int .i64 bi) (.string sb))
    replace K1 := Lib.hid (K1.out.far (m := w.heap.size + 1 + 1) (by omega) (.int .i64 bk) (.int .i64 bi) (.string sb))
    replace K2 := Lib.hid (K2.out.store (.int .i64 bk) (.int .i64 bi) (.string sb))
    replace HB1 := Lib.hid (below_store3 HB1.out (n := w.heap.size + 1 + 1) (by omega) (.int .i64 bk) (.int .i64 bi) (.string sb))
    by_cases hok : ab = true ∧ bb = true
    · obtain ⟨rfl, rfl⟩ := hok
      replace HN2 := Lib.hid (HN2.out rfl rfl)
      clear HN3
      go_wp2_with fail
      refine (HS.out _).mono ?_
      rintro e w3 ⟨rfl, hb3⟩
      obtain ⟨b1, b2, b3, f1, f2, f3, -⟩ := K0.out.below hb3
      have HB := Lib.hid (HB1.out.trans (hb3.mono (by have := K0.out.lt; omega)))
      clear hb3 HB1 HS K0 K1 K2 a1 a2 a3 a4 a5 a6 g1 g2 g3 g4 g5 g6
      go_wp2_with fail
      refine bodyPost_ret (v := .tuple #[.agg #[.int .i64 3, .int .i64 ri, .string ⟨#[]⟩], .bool rb]) (by simp [results, Tryz.results86, go_sem, b1, b2, b3]) rfl ⟨by rw [HN2.out], ?_⟩
      exact ((HB.out.setCell (Nat.le_refl _) _).setCell (Nat.le_refl _) _).setCell (Nat.le_refl _) _
    · have HN4 := Lib.hid (HN3.out (fun h1 h2 => hok ⟨h1, h2⟩))
      have hok2 : (!ab || !bb) = true := by cases ab <;> cases bb <;> simp at hok ⊢
      obtain ⟨b1, b2, b3, f1, f2, f3, -⟩ := K0.out
      have HB := HB1
      clear HN2 HN3
      cases ab
      all_goals try (cases bb)
      all_goals try (exact absurd ⟨rfl, rfl⟩ hok)
      all_goals
        go_wp2_with fail
        refine bodyPost_ret (v := .tuple #[Dt.zero.v, .bool false]) (by simp [results, Tryz.results86, go_sem, b1, b2, b3, Dt.zero]) rfl ⟨by rw [HN4.out], ?_⟩
        exact ((HB.out.setCell (Nat.le_refl _) _).setCell (Nat.le_refl _) _).setCell (Nat.le_refl _) _
end Go.Proofs.YtokbdleokihdaaaGreatDoor
namespace Go.Proofs.YtokbdleokihdaaaGreatDoor
open Go.RowKit

set_option maxHeartbeats 2000000 in
theorem number4_dec (d d' : Dt) (b o cap : Nat) (w : World) (hbk : b < w.heap.size) (hc : DCells w b o [d, d']) (hk : d.k = 3 ∨ d'.k = 3)
    (x0 : -9223372036854775808 ≤ d.i) (x1 : d.i < 9223372036854775808) (y0 : -9223372036854775808 ≤ d'.i) (y1 : d'.i < 9223372036854775808) :
    Calls Tryz.prog 86 #[.int .i64 4, .slice (some ⟨b, o, none⟩) 2 cap] w fun e w' => e = .returned (.tuple #[(numR 4 d d').1.v, .bool (numR 4 d d').2]) ∧ Below w.heap.size w w' := by
  obtain ⟨x2, x3⟩ := asDecR_bd d x0 x1
  obtain ⟨y2, y3⟩ := asDecR_bd d' y0 y1
  have HA := Lib.hid (fun w => asDec_any d.k d.i d.s w x0 x1)
  have HA' := Lib.hid (fun w => asDec_any d'.k d'.i d'.s w y0 y1)
  have e0 := hc 0 (by simp)
  have e1 := hc 1 (by simp)
  have d0 : dnth [d, d'] 0 = d := rfl
  have d1 : dnth [d, d'] 1 = d' := rfl
  rw [d0] at e0
  rw [d1] at e1
  clear d0 d1
  simp only [Nat.zero_mul, Nat.one_mul, Nat.add_zero] at e0 e1
  obtain ⟨c0, c1, c2⟩ := e0
  obtain ⟨c3, c4, c5⟩ := e1
  have hne : (w.heap.size == b) = false := by simp; omega
  have hne2 : (w.heap.size + 1 == b) = false := by simp; omega
  have HE : Hid (asDecR ⟨d.k, d.i, d.s⟩ = asDecR d) := by show _ = _; cases d; rfl
  have HE' : Hid (asDecR ⟨d'.k, d'.i, d'.s⟩ = asDecR d') := by show _ = _; cases d'; rfl
  rw [HE.out] at HA
  rw [HE'.out] at HA'
  have HN := Lib.hid (show numR 4 d d' = (if (asDecR d).2 = true ∧ (asDecR d').2 = true then arith 3 4 (asDecR d).1.i (asDecR d').1.i 10000 else (Dt.zero, false)) from if_pos hk)
  have HK := Lib.hid hk
  obtain ⟨s, hs⟩ : ∃ s, s = wrap64 ((asDecR d).1.i - (asDecR d').1.i) := ⟨_, rfl⟩
  have HR : Hid (room ((asDecR d).1.i - (asDecR d').1.i) = ((decide (s < (asDecR d).1.i) == decide (0 < (asDecR d').1.i)) || ((asDecR d').1.i == 0))) := by
    show room ((asDecR d).1.i - (asDecR d').1.i) = _
    rw [hs]
    unfold wrap64 room
    rw [Bool.eq_iff_iff]
    simp only [Bool.and_eq_true, Bool.or_eq_true, decide_eq_true_eq, beq_iff_eq, decide_eq_decide]
    omega
  have HS := Lib.hid hs
  clear hs
  clear hc x0 x1 y0 y1 x2 x3 y2 y3 HE HE' hk
  generalize hR : numR 4 d d' = R at *
  clear hR
  generalize (asDecR d).2 = ab at *
  generalize (asDecR d').2 = bb at *
  generalize (asDecR d).1 = ad at *
  generalize (asDecR d').1 = bd at *
  obtain ⟨ak, ai, sa⟩ := ad
  obtain ⟨bk, bi, sb⟩ := bd
  have HN2 := Lib.hid (show ab = true → bb = true → R = (⟨3, ((wrap64 (ai - bi), room (ai - bi))).1, ⟨#[]⟩⟩, ((wrap64 (ai - bi), room (ai - bi))).2) from fun h1 h2 => by rw [HN.out, if_pos ⟨h1, h2⟩]; rfl)
  have HN3 := Lib.hid (show (ab = true → bb = true → False) → R = (Dt.zero, false) from fun h => by rw [HN.out, if_neg (fun h' => h h'.1 h'.2)])
  clear HN
  dsimp only at HA HA' HS HR
  cases hk1 : (d.k == 3)
  · have hk2 : (d'.k == 3) = true := by rcases HK.out with h | h; exact absurd h (by simpa using hk1); simpa using h
    clear HK
    go_enter Tryz.func86, Tryz.ntmps86
    go_wp2_with fail
    obtain ⟨B0, B1, B2⟩ := Bx.three w (.int .i64 0) (.int .i64 0) (.string ⟨#[]⟩) (.int .i64 d.k) (.int .i64 d.i) (.string d.s) (.int .i64 d'.k) (.int .i64 d'.i) (.string d'.s) 27 27 27
    have hb0 := (boxes3 w #[.int .i64 0, .int .i64 0, .string ⟨#[]⟩] #[.int .i64 d.k, .int .i64 d.i, .string d.s] #[.int .i64 d'.k, .int .i64 d'.i, .string d'.s] 27 27 27).1
    refine (HA.out _).mono ?_
    rintro e w1 ⟨rfl, hb1⟩
    replace B0 := B0.below hb1
    replace B1 := B1.below hb1
    replace B2 := B2.below hb1
    have HB1 := Lib.hid (hb0.trans (hb1.mono (by simp; omega)))
    clear hb0 hb1 c0 c1 c2 c3 c4 c5 HA
    have K0 := Lib.hid B0
    have K1 := Lib.hid B1
    have K2 := Lib.hid B2
    obtain ⟨a1, a2, a3, g1, g2, g3, lt1⟩ := B1
    obtain ⟨a4, a5, a6, g4, g5, g6, lt2⟩ := B2
    clear B0
    go_wp2_with fail
    replace K0 := Lib.hid (K0.out.far (m := w.heap.size + 1) (by omega) (.int .i64 ak) (.int .i64 ai) (.string sa))
    replace K2 := Lib.hid (K2.out.far (m := w.heap.size + 1) (by omega) (.int .i64 ak) (.int .i64 ai) (.string sa))
    replace K1 := Lib.hid (K1.out.store (.int .i64 ak) (.int .i64 ai) (.string sa))
    replace HB1 := Lib.hid (below_store3 HB1.out (n := w.heap.size + 1) (by omega) (.int .i64 ak) (.int .i64 ai) (.string sa))
    have lt3 := K2.out.lt
    clear a1 a2 a3 a4 a5 a6 g1 g2 g3 g4 g5 g6 lt1 lt2
    generalize ((w1.setCell ⟨w.heap.size + 1, 0, none⟩ (.int .i64 ak)).setCell ⟨w.heap.size + 1, 1, none⟩ (.int .i64 ai)).setCell ⟨w.heap.size + 1, 2, none⟩ (.string sa) = W1 at *
    refine (HA'.out _).mono ?_
    rintro e w2 ⟨rfl, hb2⟩
    replace K0 := Lib.hid (K0.out.below hb2)
    replace K1 := Lib.hid (K1.out.below hb2)
    have K2' := K2.out.below hb2
    replace HB1 := Lib.hid (HB1.out.trans (hb2.mono (by omega)))
    clear hb2 HA' K2 lt3
    have K2 := Lib.hid K2'
    obtain ⟨a4, a5, a6, g4, g5, g6, lt2⟩ := K2'
    obtain ⟨a1, a2, a3, g1, g2, g3, lt1⟩ := K1.out
    replace K0 := Lib.hid (K0.out.far (m := w.heap.size + 1 + 1) (by omega) (.int .i64 bk) (.int .i64 bi) (.string sb))
    replace K1 := Lib.hid (K1.out.far (m := w.heap.size + 1 + 1) (by omega) (.int .i64 bk) (.int .i64 bi) (.string sb))
    replace K2 := Lib.hid (K2.out.store (.int .i64 bk) (.int .i64 bi) (.string sb))
    replace HB1 := Lib.hid (below_store3 HB1.out (n := w.heap.size + 1 + 1) (by omega) (.int .i64 bk) (.int .i64 bi) (.string sb))
    by_cases hok : ab = true ∧ bb = true
    · obtain ⟨rfl, rfl⟩ := hok
      replace HN2 := Lib.hid (HN2.out rfl rfl)
      clear HN3
      obtain ⟨b1, b2, b3, f1, f2, f3, -⟩ := K0.out
      have HB := HB1
      go_wp2_with fail
      all_goals first
        | (have hrb : room (ai - bi) = true := by rw [HR.out, HS.out]; simp [*]
           refine bodyPost_ret (v := .tuple #[.agg #[.int .i64 3, .int .i64 (wrap64 (ai - bi)), .string ⟨#[]⟩], .bool true]) (by simp [results, Tryz.results86, go_sem, b1, b2, b3]; done) rfl ⟨by rw [HN2.out, hrb], ?_⟩
           exact ((HB.out.setCell (Nat.le_refl _) _).setCell (Nat.le_refl _) _).setCell (Nat.le_refl _) _)
        | (have hrb : room (ai - bi) = (bi == 0) := by rw [HR.out, HS.out]; simp [*]
           refine bodyPost_ret (v := .tuple #[.agg #[.int .i64 3, .int .i64 (wrap64 (ai - bi)), .string ⟨#[]⟩], .bool (bi == 0)]) (by simp [results, Tryz.results86, go_sem, b1, b2, b3] <;> first | assumption | (intro hx; exact absurd hx (by assumption))) rfl ⟨by rw [HN2.out, hrb], ?_⟩
           exact ((HB.out.setCell (Nat.le_refl _) _).setCell (Nat.le_refl _) _).setCell (Nat.le_refl _) _)
    · have HN4 := Lib.hid (HN3.out (fun h1 h2 => hok ⟨h1, h2⟩))
      have hok2 : (!ab || !bb) = true := by cases ab <;> cases bb <;> simp at hok ⊢
      obtain ⟨b1, b2, b3, f1, f2, f3, -⟩ := K0.out
      have HB := HB1
      clear HN2 HN3
      cases ab
      all_goals try (cases bb)
      all_goals try (exact absurd ⟨rfl, rfl⟩ hok)
      all_goals
        go_wp2_with fail
        refine bodyPost_ret (v := .tuple #[Dt.zero.v, .bool false]) (by simp [results, Tryz.results86, go_sem, b1, b2, b3, Dt.zero]) rfl ⟨by rw [HN4.out], ?_⟩
        exact ((HB.out.setCell (Nat.le_refl _) _).setCell (Nat.le_refl _) _).setCell (Nat.le_refl _) _
  · clear HK
    go_enter Tryz.func86, Tryz.ntmps86
    go_wp2_with fail
    obtain ⟨B0, B1, B2⟩ := Bx.three w (.int .i64 0) (.int .i64 0) (.string ⟨#[]⟩) (.int .i64 d.k) (.int .i64 d.i) (.string d.s) (.int .i64 d'.k) (.int .i64 d'.i) (.string d'.s) 27 27 27
    have hb0 := (boxes3 w #[.int .i64 0, .int .i64 0, .string ⟨#[]⟩] #[.int .i64 d.k, .int .i64 d.i, .string d.s] #[.int .i64 d'.k, .int .i64 d'.i, .string d'.s] 27 27 27).1
    refine (HA.out _).mono ?_
    rintro e w1 ⟨rfl, hb1⟩
    replace B0 := B0.below hb1
    replace B1 := B1.below hb1
    replace B2 := B2.below hb1
    have HB1 := Lib.hid (hb0.trans (hb1.mono (by simp; omega)))
    clear hb0 hb1 c0 c1 c2 c3 c4 c5 HA
    have K0 := Lib.hid B0
    have K1 := Lib.hid B1
    have K2 := Lib.hid B2
    obtain ⟨a1, a2, a3, g1, g2, g3, lt1⟩ := B1
    obtain ⟨a4, a5, a6, g4, g5, g6, lt2⟩ := B2
    clear B0
    go_wp2_with fail
    replace K0 := Lib.hid (K0.out.far (m := w.heap.size + 1) (by omega) (.int .i64 ak) (.int .i64 ai) (.string sa))
    replace K2 := Lib.hid (K2.out.far (m := w.heap.size + 1) (by omega) (.int .i64 ak) (.int .i64 ai) (.string sa))
    replace K1 := Lib.hid (K1.out.store (.int .i64 ak) (.int .i64 ai) (.string sa))
    replace HB1 := Lib.hid (below_store3 HB1.out (n := w.heap.size + 1) (by omega) (.int .i64 ak) (.int .i64 ai) (.string sa))
    have lt3 := K2.out.lt
    clear a1 a2 a3 a4 a5 a6 g1 g2 g3 g4 g5 g6 lt1 lt2
    generalize ((w1.setCell ⟨w.heap.size + 1, 0, none⟩ (.int .i64 ak)).setCell ⟨w.heap.size + 1, 1, none⟩ (.int .i64 ai)).setCell ⟨w.heap.size + 1, 2, none⟩ (.string sa) = W1 at *
    refine (HA'.out _).mono ?_
    rintro e w2 ⟨rfl, hb2⟩
    replace K0 := Lib.hid (K0.out.below hb2)
    replace K1 := Lib.hid (K1.out.below hb2)
    have K2' := K2.out.below hb2
    replace HB1 := Lib.hid (HB1.out.trans (hb2.mono (by omega)))
    clear hb2 HA' K2 lt3
    have K2 := Lib.hid K2'
    obtain ⟨a4, a5, a6, g4, g5, g6, lt2⟩ := K2'
    obtain ⟨a1, a2, a3, g1, g2, g3, lt1⟩ := K1.out
    replace K0 := Lib.hid (K0.out.far (m := w.heap.size + 1 + 1) (by omega) (.int .i64 bk) (.int .i64 bi) (.string sb))
    replace K1 := Lib.hid (K1.out.far (m := w.heap.size + 1 + 1) (by omega) (.int .i64 bk) (.int .i64 bi) (.string sb))
    replace K2 := Lib.hid (K2.out.store (.int .i64 bk) (.int .i64 bi) (.string sb))
    replace HB1 := Lib.hid (below_store3 HB1.out (n := w.heap.size + 1 + 1) (by omega) (.int .i64 bk) (.int .i64 bi) (.string sb))
    by_cases hok : ab = true ∧ bb = true
    · obtain ⟨rfl, rfl⟩ := hok
      replace HN2 := Lib.hid (HN2.out rfl rfl)
      clear HN3
      obtain ⟨b1, b2, b3, f1, f2, f3, -⟩ := K0.out
      have HB := HB1
      go_wp2_with fail
      all_goals first
        | (have hrb : room (ai - bi) = true := by rw [HR.out, HS.out]; simp [*]
           refine bodyPost_ret (v := .tuple #[.agg #[.int .i64 3, .int .i64 (wrap64 (ai - bi)), .string ⟨#[]⟩], .bool true]) (by simp [results, Tryz.results86, go_sem, b1, b2, b3]; done) rfl ⟨by rw [HN2.out, hrb], ?_⟩
           exact ((HB.out.setCell (Nat.le_refl _) _).setCell (Nat.le_refl _) _).setCell (Nat.le_refl _) _)
        | (have hrb : room (ai - bi) = (bi == 0) := by rw [HR.out, HS.out]; simp [*]
           refine bodyPost_ret (v := .tuple #[.agg #[.int .i64 3, .int .i64 (wrap64 (ai - bi)), .string ⟨#[]⟩], .bool (bi == 0)]) (by simp [results, Tryz.results86, go_sem, b1, b2, b3] <;> first | assumption | (intro hx; exact absurd hx (by assumption))) rfl ⟨by rw [HN2.out, hrb], ?_⟩
           exact ((HB.out.setCell (Nat.le_refl _) _).setCell (Nat.le_refl _) _).setCell (Nat.le_refl _) _)
    · have HN4 := Lib.hid (HN3.out (fun h1 h2 => hok ⟨h1, h2⟩))
      have hok2 : (!ab || !bb) = true := by cases ab <;> cases bb <;> simp at hok ⊢
      obtain ⟨b1, b2, b3, f1, f2, f3, -⟩ := K0.out
      have HB := HB1
      clear HN2 HN3
      cases ab
      all_goals try (cases bb)
      all_goals try (exact absurd ⟨rfl, rfl⟩ hok)
      all_goals
        go_wp2_with fail
        refine bodyPost_ret (v := .tuple #[Dt.zero.v, .bool false]) (by simp [results, Tryz.results86, go_sem, b1, b2, b3, Dt.zero]) rfl ⟨by rw [HN4.out], ?_⟩
        exact ((HB.out.setCell (Nat.le_refl _) _).setCell (Nat.le_refl _) _).setCell (Nat.le_refl _) _
end Go.Proofs.YtokbdleokihdaaaGreatDoor
namespace Go.Proofs.YtokbdleokihdaaaGreatDoor
open Go.RowKit

set_option maxHeartbeats 2000000 in
theorem number5_dec (d d' : Dt) (b o cap : Nat) (w : World) (hbk : b < w.heap.size) (hc : DCells w b o [d, d']) (hk : d.k = 3 ∨ d'.k = 3)
    (x0 : -9223372036854775808 ≤ d.i) (x1 : d.i < 9223372036854775808) (y0 : -9223372036854775808 ≤ d'.i) (y1 : d'.i < 9223372036854775808) :
    Calls Tryz.prog 86 #[.int .i64 5, .slice (some ⟨b, o, none⟩) 2 cap] w fun e w' => e = .returned (.tuple #[(numR 5 d d').1.v, .bool (numR 5 d d').2]) ∧ Below w.heap.size w w' := by
  obtain ⟨x2, x3⟩ := asDecR_bd d x0 x1
  obtain ⟨y2, y3⟩ := asDecR_bd d' y0 y1
  have HA := Lib.hid (fun w => asDec_any d.k d.i d.s w x0 x1)
  have HA' := Lib.hid (fun w => asDec_any d'.k d'.i d'.s w y0 y1)
  have HT := Lib.hid (fun w => times_any (asDecR d).1.i (asDecR d').1.i w x2 (by omega) y2 (by omega))
  have HO := Lib.hid (fun w => times_over (asDecR d).1.i (asDecR d').1.i 10000 w (by omega) (by omega))
  have e0 := hc 0 (by simp)
  have e1 := hc 1 (by simp)
  have d0 : dnth [d, d'] 0 = d := rfl
  have d1 : dnth [d, d'] 1 = d' := rfl
  rw [d0] at e0
  rw [d1] at e1
  clear d0 d1
  simp only [Nat.zero_mul, Nat.one_mul, Nat.add_zero] at e0 e1
  obtain ⟨c0, c1, c2⟩ := e0
  obtain ⟨c3, c4, c5⟩ := e1
  have hne : (w.heap.size == b) = false := by simp; omega
  have hne2 : (w.heap.size + 1 == b) = false := by simp; omega
  have HE : Hid (asDecR ⟨d.k, d.i, d.s⟩ = asDecR d) := by show _ = _; cases d; rfl
  have HE' : Hid (asDecR ⟨d'.k, d'.i, d'.s⟩ = asDecR d') := by show _ = _; cases d'; rfl
  rw [HE.out] at HA
  rw [HE'.out] at HA'
  have HN := Lib.hid (show numR 5 d d' = (if (asDecR d).2 = true ∧ (asDecR d').2 = true then arith 3 5 (asDecR d).1.i (asDecR d').1.i 10000 else (Dt.zero, false)) from if_pos hk)
  have HK := Lib.hid hk
  clear hc x0 x1 y0 y1 x2 x3 y2 y3 HE HE' hk
  generalize hR : numR 5 d d' = R at *
  clear hR
  generalize (asDecR d).2 = ab at *
  generalize (asDecR d').2 = bb at *
  generalize (asDecR d).1 = ad at *
  generalize (asDecR d').1 = bd at *
  obtain ⟨ak, ai, sa⟩ := ad
  obtain ⟨bk, bi, sb⟩ := bd
  have HN2 := Lib.hid (show ab = true → bb = true → R = (⟨3, (quo (ai * bi) 10000).1, ⟨#[]⟩⟩, (quo (ai * bi) 10000).2) from fun h1 h2 => by rw [HN.out, if_pos ⟨h1, h2⟩]; rfl)
  have HN3 := Lib.hid (show (ab = true → bb = true → False) → R = (Dt.zero, false) from fun h => by rw [HN.out, if_neg (fun h' => h h'.1 h'.2)])
  clear HN
  dsimp only at HA HA' HT HO
  generalize quo (ai * bi) 10000 = q at *
  obtain ⟨ri, rb⟩ := q
  dsimp only at HO HN2
  cases hk1 : (d.k == 3)
  · have hk2 : (d'.k == 3) = true := by rcases HK.out with h | h; exact absurd h (by simpa using hk1); simpa using h
    clear HK
    go_enter Tryz.func86, Tryz.ntmps86
    go_wp2_with fail
    obtain ⟨B0, B1, B2⟩ := Bx.three w (.int .i64 0) (.int .i64 0) (.string ⟨#[]⟩) (.int .i64 d.k) (.int .i64 d.i) (.string d.s) (.int .i64 d'.k) (.int .i64 d'.i) (.string d'.s) 27 27 27
    have hb0 := (boxes3 w #[.int .i64 0, .int .i64 0, .string ⟨#[]⟩] #[.int .i64 d.k, .int .i64 d.i, .string d.s] #[.int .i64 d'.k, .int .i64 d'.i, .string d'.s] 27 27 27).1
    refine (HA.out _).mono ?_
    rintro e w1 ⟨rfl, hb1⟩
    replace B0 := B0.below hb1
    replace B1 := B1.below hb1
    replace B2 := B2.below hb1
    have HB1 := Lib.hid (hb0.trans (hb1.mono (by simp; omega)))
    clear hb0 hb1 c0 c1 c2 c3 c4 c5 HA
    have K0 := Lib.hid B0
    have K1 := Lib.hid B1
    have K2 := Lib.hid B2
    obtain ⟨a1, a2, a3, g1, g2, g3, lt1⟩ := B1
    obtain ⟨a4, a5, a6, g4, g5, g6, lt2⟩ := B2
    clear B0
    go_wp2_with fail
    replace K0 := Lib.hid (K0.out.far (m := w.heap.size + 1) (by omega) (.int .i64 ak) (.int .i64 ai) (.string sa))
    replace K2 := Lib.hid (K2.out.far (m := w.heap.size + 1) (by omega) (.int .i64 ak) (.int .i64 ai) (.string sa))
    replace K1 := Lib.hid (K1.out.store (.int .i64 ak) (.int .i64 ai) (.string sa))
    replace HB1 := Lib.hid (below_store3 HB1.out (n := w.heap.size + 1) (by omega) (.int .i64 ak) (.int .i64 ai) (.string sa))
    have lt3 := K2.out.lt
    clear a1 a2 a3 a4 a5 a6 g1 g2 g3 g4 g5 g6 lt1 lt2
    generalize ((w1.setCell ⟨w.heap.size + 1, 0, none⟩ (.int .i64 ak)).setCell ⟨w.heap.size + 1, 1, none⟩ (.int .i64 ai)).setCell ⟨w.heap.size + 1, 2, none⟩ (.string sa) = W1 at *
    refine (HA'.out _).mono ?_
    rintro e w2 ⟨rfl, hb2⟩
    replace K0 := Lib.hid (K0.out.below hb2)
    replace K1 := Lib.hid (K1.out.below hb2)
    have K2' := K2.out.below hb2
    replace HB1 := Lib.hid (HB1.out.trans (hb2.mono (by omega)))
    clear hb2 HA' K2 lt3
    have K2 := Lib.hid K2'
    obtain ⟨a4, a5, a6, g4, g5, g6, lt2⟩ := K2'
    obtain ⟨a1, a2, a3, g1, g2, g3, lt1⟩ := K1.out
    replace K0 := Lib.hid (K0.out.far (m := w.heap.size + 1 + 1) (by omega) (.int .i64 bk) (.int .i64 bi) (.string sb))
    replace K1 := Lib.hid (K1.out.far (m := w.heap.size + 1 + 1) (by omega) (.int .i64 bk) (.int .i64 bi) (.string sb))
    replace K2 := Lib.hid (K2.out.store (.int .i64 bk) (.int .i64 bi) (.string sb))
    replace HB1 := Lib.hid (below_store3 HB1.out (n := w.heap.size + 1 + 1) (by omega) (.int .i64 bk) (.int .i64 bi) (.string sb))
    by_cases hok : ab = true ∧ bb = true
    · obtain ⟨rfl, rfl⟩ := hok
      replace HN2 := Lib.hid (HN2.out rfl rfl)
      clear HN3
      go_wp2_with fail
      refine (HT.out _).mono ?_
      rintro e w3 ⟨rfl, hb3⟩
      replace K0 := Lib.hid (K0.out.below hb3)
      have HB3 := Lib.hid (HB1.out.trans (hb3.mono (by have := K0.out.lt; have := K1.out.lt; omega)))
      clear hb3 HB1 HT K1 K2 a1 a2 a3 a4 a5 a6 g1 g2 g3 g4 g5 g6
      go_wp2_with fail
      refine (HO.out _).mono ?_
      rintro e w4 ⟨rfl, hb4⟩
      obtain ⟨b1, b2, b3, f1, f2, f3, -⟩ := K0.out.below hb4
      have HB := Lib.hid (HB3.out.trans (hb4.mono (by have := K0.out.lt; omega)))
      clear hb4 HB3 HO K0
      go_wp2_with fail
      refine bodyPost_ret (v := .tuple #[.agg #[.int .i64 3, .int .i64 ri, .string ⟨#[]⟩], .bool rb]) (by simp [results, Tryz.results86, go_sem, b1, b2, b3]) rfl ⟨by rw [HN2.out], ?_⟩
      exact ((HB.out.setCell (Nat.le_refl _) _).setCell (Nat.le_refl _) _).setCell (Nat.le_refl _) _
    · have HN4 := Lib.hid (HN3.out (fun h1 h2 => hok ⟨h1, h2⟩))
      have hok2 : (!ab || !bb) = true := by cases ab <;> cases bb <;> simp at hok ⊢
      obtain ⟨b1, b2, b3, f1, f2, f3, -⟩ := K0.out
      have HB := HB1
      clear HN2 HN3
      cases ab
      all_goals try (cases bb)
      all_goals try (exact absurd ⟨rfl, rfl⟩ hok)
      all_goals
        go_wp2_with fail
        refine bodyPost_ret (v := .tuple #[Dt.zero.v, .bool false]) (by simp [results, Tryz.results86, go_sem, b1, b2, b3, Dt.zero]) rfl ⟨by rw [HN4.out], ?_⟩
        exact ((HB.out.setCell (Nat.le_refl _) _).setCell (Nat.le_refl _) _).setCell (Nat.le_refl _) _
  · clear HK
    go_enter Tryz.func86, Tryz.ntmps86
    go_wp2_with fail
    obtain ⟨B0, B1, B2⟩ := Bx.three w (.int .i64 0) (.int .i64 0) (.string ⟨#[]⟩) (.int .i64 d.k) (.int .i64 d.i) (.string d.s) (.int .i64 d'.k) (.int .i64 d'.i) (.string d'.s) 27 27 27
    have hb0 := (boxes3 w #[.int .i64 0, .int .i64 0, .string ⟨#[]⟩] #[.int .i64 d.k, .int .i64 d.i, .string d.s] #[.int .i64 d'.k, .int .i64 d'.i, .string d'.s] 27 27 27).1
    refine (HA.out _).mono ?_
    rintro e w1 ⟨rfl, hb1⟩
    replace B0 := B0.below hb1
    replace B1 := B1.below hb1
    replace B2 := B2.below hb1
    have HB1 := Lib.hid (hb0.trans (hb1.mono (by simp; omega)))
    clear hb0 hb1 c0 c1 c2 c3 c4 c5 HA
    have K0 := Lib.hid B0
    have K1 := Lib.hid B1
    have K2 := Lib.hid B2
    obtain ⟨a1, a2, a3, g1, g2, g3, lt1⟩ := B1
    obtain ⟨a4, a5, a6, g4, g5, g6, lt2⟩ := B2
    clear B0
    go_wp2_with fail
    replace K0 := Lib.hid (K0.out.far (m := w.heap.size + 1) (by omega) (.int .i64 ak) (.int .i64 ai) (.string sa))
    replace K2 := Lib.hid (K2.out.far (m := w.heap.size + 1) (by omega) (.int .i64 ak) (.int .i64 ai) (.string sa))
    replace K1 := Lib.hid (K1.out.store (.int .i64 ak) (.int .i64 ai) (.string sa))
    replace HB1 := Lib.hid (below_store3 HB1.out (n := w.heap.size + 1) (by omega) (.int .i64 ak) (.int .i64 ai) (.string sa))
    have lt3 := K2.out.lt
    clear a1 a2 a3 a4 a5 a6 g1 g2 g3 g4 g5 g6 lt1 lt2
    generalize ((w1.setCell ⟨w.heap.size + 1, 0, none⟩ (.int .i64 ak)).setCell ⟨w.heap.size + 1, 1, none⟩ (.int .i64 ai)).setCell ⟨w.heap.size + 1, 2, none⟩ (.string sa) = W1 at *
    refine (HA'.out _).mono ?_
    rintro e w2 ⟨rfl, hb2⟩
    replace K0 := Lib.hid (K0.out.below hb2)
    replace K1 := Lib.hid (K1.out.below hb2)
    have K2' := K2.out.below hb2
    replace HB1 := Lib.hid (HB1.out.trans (hb2.mono (by omega)))
    clear hb2 HA' K2 lt3
    have K2 := Lib.hid K2'
    obtain ⟨a4, a5, a6, g4, g5, g6, lt2⟩ := K2'
    obtain ⟨a1, a2, a3, g1, g2, g3, lt1⟩ := K1.out
    replace K0 := Lib.hid (K0.out.far (m := w.heap.size + 1 + 1) (by omega) (.int .i64 bk) (.int .i64 bi) (.string sb))
    replace K1 := Lib.hid (K1.out.far (m := w.heap.size + 1 + 1) (by omega) (.int .i64 bk) (.int .i64 bi) (.string sb))
    replace K2 := Lib.hid (K2.out.store (.int .i64 bk) (.int .i64 bi) (.string sb))
    replace HB1 := Lib.hid (below_store3 HB1.out (n := w.heap.size + 1 + 1) (by omega) (.int .i64 bk) (.int .i64 bi) (.string sb))
    by_cases hok : ab = true ∧ bb = true
    · obtain ⟨rfl, rfl⟩ := hok
      replace HN2 := Lib.hid (HN2.out rfl rfl)
      clear HN3
      go_wp2_with fail
      refine (HT.out _).mono ?_
      rintro e w3 ⟨rfl, hb3⟩
      replace K0 := Lib.hid (K0.out.below hb3)
      have HB3 := Lib.hid (HB1.out.trans (hb3.mono (by have := K0.out.lt; have := K1.out.lt; omega)))
      clear hb3 HB1 HT K1 K2 a1 a2 a3 a4 a5 a6 g1 g2 g3 g4 g5 g6
      go_wp2_with fail
      refine (HO.out _).mono ?_
      rintro e w4 ⟨rfl, hb4⟩
      obtain ⟨b1, b2, b3, f1, f2, f3, -⟩ := K0.out.below hb4
      have HB := Lib.hid (HB3.out.trans (hb4.mono (by have := K0.out.lt; omega)))
      clear hb4 HB3 HO K0
      go_wp2_with fail
      refine bodyPost_ret (v := .tuple #[.agg #[.int .i64 3, .int .i64 ri, .string ⟨#[]⟩], .bool rb]) (by simp [results, Tryz.results86, go_sem, b1, b2, b3]) rfl ⟨by rw [HN2.out], ?_⟩
      exact ((HB.out.setCell (Nat.le_refl _) _).setCell (Nat.le_refl _) _).setCell (Nat.le_refl _) _
    · have HN4 := Lib.hid (HN3.out (fun h1 h2 => hok ⟨h1, h2⟩))
      have hok2 : (!ab || !bb) = true := by cases ab <;> cases bb <;> simp at hok ⊢
      obtain ⟨b1, b2, b3, f1, f2, f3, -⟩ := K0.out
      have HB := HB1
      clear HN2 HN3
      cases ab
      all_goals try (cases bb)
      all_goals try (exact absurd ⟨rfl, rfl⟩ hok)
      all_goals
        go_wp2_with fail
        refine bodyPost_ret (v := .tuple #[Dt.zero.v, .bool false]) (by simp [results, Tryz.results86, go_sem, b1, b2, b3, Dt.zero]) rfl ⟨by rw [HN4.out], ?_⟩
        exact ((HB.out.setCell (Nat.le_refl _) _).setCell (Nat.le_refl _) _).setCell (Nat.le_refl _) _
end Go.Proofs.YtokbdleokihdaaaGreatDoor
namespace Go.Proofs.YtokbdleokihdaaaGreatDoor
open Go.RowKit

set_option maxHeartbeats 2000000 in
theorem number6_dec (d d' : Dt) (b o cap : Nat) (w : World) (hbk : b < w.heap.size) (hc : DCells w b o [d, d']) (hk : d.k = 3 ∨ d'.k = 3)
    (x0 : -9223372036854775808 ≤ d.i) (x1 : d.i < 9223372036854775808) (y0 : -9223372036854775808 ≤ d'.i) (y1 : d'.i < 9223372036854775808) :
    Calls Tryz.prog 86 #[.int .i64 6, .slice (some ⟨b, o, none⟩) 2 cap] w fun e w' => e = .returned (.tuple #[(numR 6 d d').1.v, .bool (numR 6 d d').2]) ∧ Below w.heap.size w w' := by
  obtain ⟨x2, x3⟩ := asDecR_bd d x0 x1
  obtain ⟨y2, y3⟩ := asDecR_bd d' y0 y1
  have HA := Lib.hid (fun w => asDec_any d.k d.i d.s w x0 x1)
  have HA' := Lib.hid (fun w => asDec_any d'.k d'.i d'.s w y0 y1)
  have HT := Lib.hid (fun w => times_any (asDecR d).1.i 10000 w x2 (by omega) (by omega) (by omega))
  have HO := Lib.hid (fun w => times_over (asDecR d).1.i 10000 (asDecR d').1.i w y2 (by omega))
  have e0 := hc 0 (by simp)
  have e1 := hc 1 (by simp)
  have d0 : dnth [d, d'] 0 = d := rfl
  have d1 : dnth [d, d'] 1 = d' := rfl
  rw [d0] at e0
  rw [d1] at e1
  clear d0 d1
  simp only [Nat.zero_mul, Nat.one_mul, Nat.add_zero] at e0 e1
  obtain ⟨c0, c1, c2⟩ := e0
  obtain ⟨c3, c4, c5⟩ := e1
  have hne : (w.heap.size == b) = false := by simp; omega
  have hne2 : (w.heap.size + 1 == b) = false := by simp; omega
  have HE : Hid (asDecR ⟨d.k, d.i, d.s⟩ = asDecR d) := by show _ = _; cases d; rfl
  have HE' : Hid (asDecR ⟨d'.k, d'.i, d'.s⟩ = asDecR d') := by show _ = _; cases d'; rfl
  rw [HE.out] at HA
  rw [HE'.out] at HA'
  have HN := Lib.hid (show numR 6 d d' = (if (asDecR d).2 = true ∧ (asDecR d').2 = true then arith 3 6 (asDecR d).1.i (asDecR d').1.i 10000 else (Dt.zero, false)) from if_pos hk)
  have HK := Lib.hid hk
  clear hc x0 x1 y0 y1 x2 x3 y2 y3 HE HE' hk
  generalize hR : numR 6 d d' = R at *
  clear hR
  generalize (asDecR d).2 = ab at *
  generalize (asDecR d').2 = bb at *
  generalize (asDecR d).1 = ad at *
  generalize (asDecR d').1 = bd at *
  obtain ⟨ak, ai, sa⟩ := ad
  obtain ⟨bk, bi, sb⟩ := bd
  have HN2 := Lib.hid (show ab = true → bb = true → R = (⟨3, (quo (ai * 10000) bi).1, ⟨#[]⟩⟩, (quo (ai * 10000) bi).2) from fun h1 h2 => by rw [HN.out, if_pos ⟨h1, h2⟩]; rfl)
  have HN3 := Lib.hid (show (ab = true → bb = true → False) → R = (Dt.zero, false) from fun h => by rw [HN.out, if_neg (fun h' => h h'.1 h'.2)])
  clear HN
  dsimp only at HA HA' HT HO
  generalize quo (ai * 10000) bi = q at *
  obtain ⟨ri, rb⟩ := q
  dsimp only at HO HN2
  cases hk1 : (d.k == 3)
  · have hk2 : (d'.k == 3) = true := by rcases HK.out with h | h; exact absurd h (by simpa using hk1); simpa using h
    clear HK
    go_enter Tryz.func86, Tryz.ntmps86
    go_wp2_with fail
    obtain ⟨B0, B1, B2⟩ := Bx.three w (.int .i64 0) (.int .i64 0) (.string ⟨#[]⟩) (.int .i64 d.k) (.int .i64 d.i) (.string d.s) (.int .i64 d'.k) (.int .i64 d'.i) (.string d'.s) 27 27 27
    have hb0 := (boxes3 w #[.int .i64 0, .int .i64 0, .string ⟨#[]⟩] #[.int .i64 d.k, .int .i64 d.i, .string d.s] #[.int .i64 d'.k, .int .i64 d'.i, .string d'.s] 27 27 27).1
    refine (HA.out _).mono ?_
    rintro e w1 ⟨rfl, hb1⟩
    replace B0 := B0.below hb1
    replace B1 := B1.below hb1
    replace B2 := B2.below hb1
    have HB1 := Lib.hid (hb0.trans (hb1.mono (by simp; omega)))
    clear hb0 hb1 c0 c1 c2 c3 c4 c5 HA
    have K0 := Lib.hid B0
    have K1 := Lib.hid B1
    have K2 := Lib.hid B2
    obtain ⟨a1, a2, a3, g1, g2, g3, lt1⟩ := B1
    obtain ⟨a4, a5, a6, g4, g5, g6, lt2⟩ := B2
    clear B0
    go_wp2_with fail
    replace K0 := Lib.hid (K0.out.far (m := w.heap.size + 1) (by omega) (.int .i64 ak) (.int .i64 ai) (.string sa))
    replace K2 := Lib.hid (K2.out.far (m := w.heap.size + 1) (by omega) (.int .i64 ak) (.int .i64 ai) (.string sa))
    replace K1 := Lib.hid (K1.out.store (.int .i64 ak) (.int .i64 ai) (.string sa))
    replace HB1 := Lib.hid (below_store3 HB1.out (n := w.heap.size + 1) (by omega) (.int .i64 ak) (.int .i64 ai) (.string sa))
    have lt3 := K2.out.lt
    clear a1 a2 a3 a4 a5 a6 g1 g2 g3 g4 g5 g6 lt1 lt2
    generalize ((w1.setCell ⟨w.heap.size + 1, 0, none⟩ (.int .i64 ak)).setCell ⟨w.heap.size + 1, 1, none⟩ (.int .i64 ai)).setCell ⟨w.heap.size + 1, 2, none⟩ (.string sa) = W1 at *
    refine (HA'.out _).mono ?_
    rintro e w2 ⟨rfl, hb2⟩
    replace K0 := Lib.hid (K0.out.below hb2)
    replace K1 := Lib.hid (K1.out.below hb2)
    have K2' := K2.out.below hb2
    replace HB1 := Lib.hid (HB1.out.trans (hb2.mono (by omega)))
    clear hb2 HA' K2 lt3
    have K2 := Lib.hid K2'
    obtain ⟨a4, a5, a6, g4, g5, g6, lt2⟩ := K2'
    obtain ⟨a1, a2, a3, g1, g2, g3, lt1⟩ := K1.out
    replace K0 := Lib.hid (K0.out.far (m := w.heap.size + 1 + 1) (by omega) (.int .i64 bk) (.int .i64 bi) (.string sb))
    replace K1 := Lib.hid (K1.out.far (m := w.heap.size + 1 + 1) (by omega) (.int .i64 bk) (.int .i64 bi) (.string sb))
    replace K2 := Lib.hid (K2.out.store (.int .i64 bk) (.int .i64 bi) (.string sb))
    replace HB1 := Lib.hid (below_store3 HB1.out (n := w.heap.size + 1 + 1) (by omega) (.int .i64 bk) (.int .i64 bi) (.string sb))
    by_cases hok : ab = true ∧ bb = true
    · obtain ⟨rfl, rfl⟩ := hok
      replace HN2 := Lib.hid (HN2.out rfl rfl)
      clear HN3
      go_wp2_with fail
      generalize ((w2.setCell ⟨w.heap.size + 1 + 1, 0, none⟩ (.int .i64 bk)).setCell ⟨w.heap.size + 1 + 1, 1, none⟩ (.int .i64 bi)).setCell ⟨w.heap.size + 1 + 1, 2, none⟩ (.string sb) = W3 at *
      have p1 : ∀ (u : GW (fun w' => Below W3.heap.size W3 w')), u.w.cell? ⟨w.heap.size + 1, 1, none⟩ = some (.int .i64 ai) := fun u => (K1.out.below u.h).c1
      have p2 : ∀ (u : GW (fun w' => Below W3.heap.size W3 w')), u.w.cell? ⟨w.heap.size + 1 + 1, 1, none⟩ = some (.int .i64 bi) := fun u => (K2.out.below u.h).c1
      have hgn := GW.ne (Inv := fun w' => Below W3.heap.size W3 w') (Below.refl _ _)
      clear a1 a2 a3 a4 a5 a6 g1 g2 g3 g4 g5 g6
      refine wp_region_grow (fun w' => Below W3.heap.size W3 w') (by kernel_rfl) (by kernel_rfl) (Below.refl _ _).drew ?_
      repeat (go_big_quiet_step (first | (go_at_call 99; refine (HT.out _).mono ?_; rintro e w1 ⟨rfl, hb⟩; exact ⟨rfl, below_next _ hb⟩) | (go_at_call 100; refine (HO.out _).mono ?_; rintro e w1 ⟨rfl, hb⟩; exact ⟨rfl, below_next _ hb⟩)))
      refine wpQuiet_nil ?_
      intro _ hw'
      obtain ⟨⟨w4, h4⟩, hw''⟩ := hw'
      subst hw''
      obtain ⟨b1, b2, b3, f1, f2, f3, -⟩ := K0.out.below h4
      have HB := Lib.hid (HB1.out.trans (h4.mono (by have := K0.out.lt; omega)))
      clear h4 HB1 HT HO p1 p2 hgn K0 K1 K2
      go_wp2_with fail
      refine bodyPost_ret (v := .tuple #[.agg #[.int .i64 3, .int .i64 ri, .string ⟨#[]⟩], .bool rb]) (by simp [results, Tryz.results86, go_sem, b1, b2, b3]) rfl ⟨by rw [HN2.out], ?_⟩
      exact ((HB.out.setCell (Nat.le_refl _) _).setCell (Nat.le_refl _) _).setCell (Nat.le_refl _) _
    · have HN4 := Lib.hid (HN3.out (fun h1 h2 => hok ⟨h1, h2⟩))
      have hok2 : (!ab || !bb) = true := by cases ab <;> cases bb <;> simp at hok ⊢
      obtain ⟨b1, b2, b3, f1, f2, f3, -⟩ := K0.out
      have HB := HB1
      clear HN2 HN3
      cases ab
      all_goals try (cases bb)
      all_goals try (exact absurd ⟨rfl, rfl⟩ hok)
      all_goals
        go_wp2_with fail
        refine bodyPost_ret (v := .tuple #[Dt.zero.v, .bool false]) (by simp [results, Tryz.results86, go_sem, b1, b2, b3, Dt.zero]) rfl ⟨by rw [HN4.out], ?_⟩
        exact ((HB.out.setCell (Nat.le_refl _) _).setCell (Nat.le_refl _) _).setCell (Nat.le_refl _) _
  · clear HK
    go_enter Tryz.func86, Tryz.ntmps86
    go_wp2_with fail
    obtain ⟨B0, B1, B2⟩ := Bx.three w (.int .i64 0) (.int .i64 0) (.string ⟨#[]⟩) (.int .i64 d.k) (.int .i64 d.i) (.string d.s) (.int .i64 d'.k) (.int .i64 d'.i) (.string d'.s) 27 27 27
    have hb0 := (boxes3 w #[.int .i64 0, .int .i64 0, .string ⟨#[]⟩] #[.int .i64 d.k, .int .i64 d.i, .string d.s] #[.int .i64 d'.k, .int .i64 d'.i, .string d'.s] 27 27 27).1
    refine (HA.out _).mono ?_
    rintro e w1 ⟨rfl, hb1⟩
    replace B0 := B0.below hb1
    replace B1 := B1.below hb1
    replace B2 := B2.below hb1
    have HB1 := Lib.hid (hb0.trans (hb1.mono (by simp; omega)))
    clear hb0 hb1 c0 c1 c2 c3 c4 c5 HA
    have K0 := Lib.hid B0
    have K1 := Lib.hid B1
    have K2 := Lib.hid B2
    obtain ⟨a1, a2, a3, g1, g2, g3, lt1⟩ := B1
    obtain ⟨a4, a5, a6, g4, g5, g6, lt2⟩ := B2
    clear B0
    go_wp2_with fail
    replace K0 := Lib.hid (K0.out.far (m := w.heap.size + 1) (by omega) (.int .i64 ak) (.int .i64 ai) (.string sa))
    replace K2 := Lib.hid (K2.out.far (m := w.heap.size + 1) (by omega) (.int .i64 ak) (.int .i64 ai) (.string sa))
    replace K1 := Lib.hid (K1.out.store (.int .i64 ak) (.int .i64 ai) (.string sa))
    replace HB1 := Lib.hid (below_store3 HB1.out (n := w.heap.size + 1) (by omega) (.int .i64 ak) (.int .i64 ai) (.string sa))
    have lt3 := K2.out.lt
    clear a1 a2 a3 a4 a5 a6 g1 g2 g3 g4 g5 g6 lt1 lt2
    generalize ((w1.setCell ⟨w.heap.size + 1, 0, none⟩ (.int .i64 ak)).setCell ⟨w.heap.size + 1, 1, none⟩ (.int .i64 ai)).setCell ⟨w.heap.size + 1, 2, none⟩ (.string sa) = W1 at *
    refine (HA'.out _).mono ?_
    rintro e w2 ⟨rfl, hb2⟩
    replace K0 := Lib.hid (K0.out.below hb2)
    replace K1 := Lib.hid (K1.out.below hb2)
    have K2' := K2.out.below hb2
    replace HB1 := Lib.hid (HB1.out.trans (hb2.mono (by omega)))
    clear hb2 HA' K2 lt3
    have K2 := Lib.hid K2'
    obtain ⟨a4, a5, a6, g4, g5, g6, lt2⟩ := K2'
    obtain ⟨a1, a2, a3, g1, g2, g3, lt1⟩ := K1.out
    replace K0 := Lib.hid (K0.out.far (m := w.heap.size + 1 + 1) (by omega) (.int .i64 bk) (.int .i64 bi) (.string sb))
    replace K1 := Lib.hid (K1.out.far (m := w.heap.size + 1 + 1) (by omega) (.int .i64 bk) (.int .i64 bi) (.string sb))
    replace K2 := Lib.hid (K2.out.store (.int .i64 bk) (.int .i64 bi) (.string sb))
    replace HB1 := Lib.hid (below_store3 HB1.out (n := w.heap.size + 1 + 1) (by omega) (.int .i64 bk) (.int .i64 bi) (.string sb))
    by_cases hok : ab = true ∧ bb = true
    · obtain ⟨rfl, rfl⟩ := hok
      replace HN2 := Lib.hid (HN2.out rfl rfl)
      clear HN3
      go_wp2_with fail
      generalize ((w2.setCell ⟨w.heap.size + 1 + 1, 0, none⟩ (.int .i64 bk)).setCell ⟨w.heap.size + 1 + 1, 1, none⟩ (.int .i64 bi)).setCell ⟨w.heap.size + 1 + 1, 2, none⟩ (.string sb) = W3 at *
      have p1 : ∀ (u : GW (fun w' => Below W3.heap.size W3 w')), u.w.cell? ⟨w.heap.size + 1, 1, none⟩ = some (.int .i64 ai) := fun u => (K1.out.below u.h).c1
      have p2 : ∀ (u : GW (fun w' => Below W3.heap.size W3 w')), u.w.cell? ⟨w.heap.size + 1 + 1, 1, none⟩ = some (.int .i64 bi) := fun u => (K2.out.below u.h).c1
      have hgn := GW.ne (Inv := fun w' => Below W3.heap.size W3 w') (Below.refl _ _)
      clear a1 a2 a3 a4 a5 a6 g1 g2 g3 g4 g5 g6
      refine wp_region_grow (fun w' => Below W3.heap.size W3 w') (by kernel_rfl) (by kernel_rfl) (Below.refl _ _).drew ?_
      repeat (go_big_quiet_step (first | (go_at_call 99; refine (HT.out _).mono ?_; rintro e w1 ⟨rfl, hb⟩; exact ⟨rfl, below_next _ hb⟩) | (go_at_call 100; refine (HO.out _).mono ?_; rintro e w1 ⟨rfl, hb⟩; exact ⟨rfl, below_next _ hb⟩)))
      refine wpQuiet_nil ?_
      intro _ hw'
      obtain ⟨⟨w4, h4⟩, hw''⟩ := hw'
      subst hw''
      obtain ⟨b1, b2, b3, f1, f2, f3, -⟩ := K0.out.below h4
      have HB := Lib.hid (HB1.out.trans (h4.mono (by have := K0.out.lt; omega)))
      clear h4 HB1 HT HO p1 p2 hgn K0 K1 K2
      go_wp2_with fail
      refine bodyPost_ret (v := .tuple #[.agg #[.int .i64 3, .int .i64 ri, .string ⟨#[]⟩], .bool rb]) (by simp [results, Tryz.results86, go_sem, b1, b2, b3]) rfl ⟨by rw [HN2.out], ?_⟩
      exact ((HB.out.setCell (Nat.le_refl _) _).setCell (Nat.le_refl _) _).setCell (Nat.le_refl _) _
    · have HN4 := Lib.hid (HN3.out (fun h1 h2 => hok ⟨h1, h2⟩))
      have hok2 : (!ab || !bb) = true := by cases ab <;> cases bb <;> simp at hok ⊢
      obtain ⟨b1, b2, b3, f1, f2, f3, -⟩ := K0.out
      have HB := HB1
      clear HN2 HN3
      cases ab
      all_goals try (cases bb)
      all_goals try (exact absurd ⟨rfl, rfl⟩ hok)
      all_goals
        go_wp2_with fail
        refine bodyPost_ret (v := .tuple #[Dt.zero.v, .bool false]) (by simp [results, Tryz.results86, go_sem, b1, b2, b3, Dt.zero]) rfl ⟨by rw [HN4.out], ?_⟩
        exact ((HB.out.setCell (Nat.le_refl _) _).setCell (Nat.le_refl _) _).setCell (Nat.le_refl _) _
end Go.Proofs.YtokbdleokihdaaaGreatDoor
namespace Go.Proofs.YtokbdleokihdaaaGreatDoor
open Go.RowKit

/-- What arithmetic answers. -/
def numA (ds : List Dt) (r : Dt × Bool) : Dt × Int := if ds.all (isOf [2, 3]) then (if ds.any (fun d => d.k == 0) then (Dt.zero, 0) else if r.2 then (r.1, 0) else (Dt.zero, 4)) else (Dt.zero, 5)

theorem number_two (op : Int) (hop : op = 3 ∨ op = 4 ∨ op = 5 ∨ op = 6) (d d' : Dt) (b o cap : Nat) (w : World) (hbk : b < w.heap.size) (hc : DCells w b o [d, d'])
    (x0 : -9223372036854775808 ≤ d.i) (x1 : d.i < 9223372036854775808) (y0 : -9223372036854775808 ≤ d'.i) (y1 : d'.i < 9223372036854775808) :
    Calls Tryz.prog 86 #[.int .i64 op, .slice (some ⟨b, o, none⟩) 2 cap] w fun e w' => e = .returned (.tuple #[(numR op d d').1.v, .bool (numR op d d').2]) ∧ Below w.heap.size w w' := by
  by_cases hk : d.k = 3 ∨ d'.k = 3
  · rcases hop with rfl | rfl | rfl | rfl
    · exact number3_dec d d' b o cap w hbk hc hk x0 x1 y0 y1
    · exact number4_dec d d' b o cap w hbk hc hk x0 x1 y0 y1
    · exact number5_dec d d' b o cap w hbk hc hk x0 x1 y0 y1
    · exact number6_dec d d' b o cap w hbk hc hk x0 x1 y0 y1
  · have he : numR op d d' = arith 2 op d.i d'.i 1 := if_neg hk
    have h1 : d.k ≠ 3 := fun h => hk (.inl h)
    have h2 : d'.k ≠ 3 := fun h => hk (.inr h)
    rw [he]
    rcases hop with rfl | rfl | rfl | rfl
    · exact number3_int d d' b o cap w hbk hc h1 h2 x0 x1 y0 y1
    · exact number4_int d d' b o cap w hbk hc h1 h2 x0 x1 y0 y1
    · exact number5_int d d' b o cap w hbk hc h1 h2 x0 x1 y0 y1
    · exact number6_int d d' b o cap w hbk hc h1 h2 x0 x1 y0 y1
end Go.Proofs.YtokbdleokihdaaaGreatDoor

/- The document's comparison. -/
import Derived.Test.YtokbdleokihdaaaGreatDoorG19
import Derived.Test.YtokbdleokihdaaaGreatDoorG06
import Derived.Test.YtokbdleokihdaaaGreatDoorDatApplyC
namespace Go.Proofs.YtokbdleokihdaaaGreatDoor
open Go.RowKit

theorem onlyF_two (d : Dt) : onlyF 2 3 d = isOf [2, 3] d := by
  unfold onlyF isOf
  cases h : (d.k == 0)
  · simp
    rw [Bool.eq_iff_iff]
    simp
    omega
  · simp
theorem bool_form (c : Bool) (W : World) : Calls Tryz.prog 10 #[.bool c] W fun e w' => ∃ ti : Int, (⟨1, ti, ⟨#[]⟩⟩ : Dt) = truthD c ∧ e = .returned (.agg #[.int .i64 1, .int .i64 ti, .string ⟨#[]⟩]) ∧ Below W.heap.size W w' :=
  (refbool_any c W).mono fun _ _ ⟨he, hb⟩ => ⟨_, rfl, he, hb⟩

set_option maxRecDepth 100000 in
set_option maxHeartbeats 4000000 in
theorem refcomp_null (op : Int) (ak ai : Int) (sa : ByteArray) (bk bi : Int) (sb : ByteArray) (b o cap : Nat) (w : World) (hbk : b < w.heap.size) (hc : DCells w b o [⟨ak, ai, sa⟩, ⟨bk, bi, sb⟩]) (hany : ([⟨ak, ai, sa⟩, ⟨bk, bi, sb⟩] : List Dt).any (fun d => d.k == 0) = true) :
    Calls Tryz.prog 21 #[.int .i64 op, .slice (some ⟨b, o, none⟩) 2 cap] w fun e w' => e = .returned (.tuple #[((Dt.zero, (0 : Int))).1.v, .int .i64 ((Dt.zero, (0 : Int))).2]) ∧ Below w.heap.size w w' := by
  have e0 := hc 0 (by simp)
  have d0 : dnth ([⟨ak, ai, sa⟩, ⟨bk, bi, sb⟩] : List Dt) 0 = ⟨ak, ai, sa⟩ := rfl
  rw [d0] at e0
  simp only [Nat.zero_mul, Nat.add_zero] at e0
  obtain ⟨e0, e1, e2⟩ := e0
  have g0 := hc 1 (by simp)
  have d1 : dnth ([⟨ak, ai, sa⟩, ⟨bk, bi, sb⟩] : List Dt) 1 = ⟨bk, bi, sb⟩ := rfl
  rw [d1] at g0
  simp only [Nat.one_mul] at g0
  obtain ⟨g0, g1, g2⟩ := g0
  obtain ⟨hX, hY, hZ⟩ := Bx.three w (.int .i64 0) (.int .i64 0) (.string ⟨#[]⟩) (.int .i64 ak) (.int .i64 ai) (.string sa) (.int .i64 bk) (.int .i64 bi) (.string sb) 27 27 27
  have hB := (((Below.refl w.heap.size w).alloc (Nat.le_refl _) (.cells #[.int .i64 0, .int .i64 0, .string ⟨#[]⟩] 27)).alloc (by simp) (.cells #[.int .i64 ak, .int .i64 ai, .string sa] 27)).alloc (by simp; omega) (.cells #[.int .i64 bk, .int .i64 bi, .string sb] 27)
  have HA := Lib.hid (ArW.mk hX hY hB (by omega))
  have HBb := Lib.hid (ArW.mk hX hZ hB (by omega))
  have Hc := Lib.hid (hc.below hB hbk)
  clear d0 d1 hX hY hZ hB hc
  have hk : (ak == 0) = true ∨ ((ak == 0) = false ∧ (bk == 0) = true) := by
    simp only [List.any_cons, List.any_nil, Bool.or_false, Bool.or_eq_true] at hany
    cases h : (ak == 0)
    · exact .inr ⟨rfl, by simpa [h] using hany⟩
    · exact .inl rfl
  clear hany
  go_enter Tryz.func21, Tryz.ntmps21
  rcases hk with hk | ⟨hk, hk2⟩
  all_goals
    go_wp2_with fail
    refine bodyPost_ret (v := .tuple #[Dt.zero.v, .int .i64 0]) (by simp [results, Tryz.results21, go_sem, Dt.zero]) rfl ⟨rfl, ?_⟩
    first
      | exact (((HA.out.below.setCell (p := ⟨w.heap.size, 0, none⟩) (Nat.le_refl _) _).setCell (p := ⟨w.heap.size, 1, none⟩) (Nat.le_refl _) _).setCell (p := ⟨w.heap.size, 2, none⟩) (Nat.le_refl _) _)
      | exact (((Below.refl w.heap.size w).alloc (Nat.le_refl _) (.cells #[.int .i64 0, .int .i64 0, .string ⟨#[]⟩] 27)).alloc (by simp) (.cells #[.int .i64 ak, .int .i64 ai, .string sa] 27)).alloc (by simp; omega) (.cells #[.int .i64 bk, .int .i64 bi, .string sb] 27)

set_option maxRecDepth 100000 in
set_option maxHeartbeats 4000000 in
theorem refcomp_type (op : Int) (ak ai : Int) (sa : ByteArray) (bk bi : Int) (sb : ByteArray) (b o cap : Nat) (w : World) (hbk : b < w.heap.size) (hc : DCells w b o [⟨ak, ai, sa⟩, ⟨bk, bi, sb⟩]) (hany : ([⟨ak, ai, sa⟩, ⟨bk, bi, sb⟩] : List Dt).any (fun d => d.k == 0) = false) (hall : ([⟨ak, ai, sa⟩, ⟨bk, bi, sb⟩] : List Dt).all (isOf [2, 3]) = false) (hne : (ak != bk) = true) :
    Calls Tryz.prog 21 #[.int .i64 op, .slice (some ⟨b, o, none⟩) 2 cap] w fun e w' => e = .returned (.tuple #[((Dt.zero, (5 : Int))).1.v, .int .i64 ((Dt.zero, (5 : Int))).2]) ∧ Below w.heap.size w w' := by
  have e0 := hc 0 (by simp)
  have d0 : dnth ([⟨ak, ai, sa⟩, ⟨bk, bi, sb⟩] : List Dt) 0 = ⟨ak, ai, sa⟩ := rfl
  rw [d0] at e0
  simp only [Nat.zero_mul, Nat.add_zero] at e0
  obtain ⟨e0, e1, e2⟩ := e0
  have g0 := hc 1 (by simp)
  have d1 : dnth ([⟨ak, ai, sa⟩, ⟨bk, bi, sb⟩] : List Dt) 1 = ⟨bk, bi, sb⟩ := rfl
  rw [d1] at g0
  simp only [Nat.one_mul] at g0
  obtain ⟨g0, g1, g2⟩ := g0
  obtain ⟨hX, hY, hZ⟩ := Bx.three w (.int .i64 0) (.int .i64 0) (.string ⟨#[]⟩) (.int .i64 ak) (.int .i64 ai) (.string sa) (.int .i64 bk) (.int .i64 bi) (.string sb) 27 27 27
  have hB := (((Below.refl w.heap.size w).alloc (Nat.le_refl _) (.cells #[.int .i64 0, .int .i64 0, .string ⟨#[]⟩] 27)).alloc (by simp) (.cells #[.int .i64 ak, .int .i64 ai, .string sa] 27)).alloc (by simp; omega) (.cells #[.int .i64 bk, .int .i64 bi, .string sb] 27)
  have HA := Lib.hid (ArW.mk hX hY hB (by omega))
  have HBb := Lib.hid (ArW.mk hX hZ hB (by omega))
  have Hc := Lib.hid (hc.below hB hbk)
  clear d0 d1 hX hY hZ hB hc
  have hk : (ak == 0) = false ∧ (bk == 0) = false := by
    simp only [List.any_cons, List.any_nil, Bool.or_false, Bool.or_eq_false_iff] at hany
    exact hany
  obtain ⟨hk1, hk2⟩ := hk
  have hal : [⟨ak, ai, sa⟩, ⟨bk, bi, sb⟩].all (onlyF 2 3) = false := by rw [← hall]; simp [onlyF_two]
  have HL := Lib.hid hal
  clear hany hall hal

  go_enter Tryz.func21, Tryz.ntmps21
  go_wp2_with fail
  generalize (((w.alloc (.cells #[.int .i64 0, .int .i64 0, .string ⟨#[]⟩] 27)).alloc (.cells #[.int .i64 ak, .int .i64 ai, .string sa] 27)).alloc (.cells #[.int .i64 bk, .int .i64 bi, .string sb] 27)) = W0 at *
  obtain ⟨p0, p1, p2, -, -, -, pl⟩ := HA.out.a
  obtain ⟨q0, q1, q2, -, -, -, ql⟩ := HBb.out.a
  refine (refonly_any [⟨ak, ai, sa⟩, ⟨bk, bi, sb⟩] b o cap 2 3 _ (by simp) (by omega) Hc.out).mono ?_
  rintro e w3 ⟨rfl, hb⟩
  rw [HL.out]
  replace HA := Lib.hid (HA.out.next hb)
  replace HBb := Lib.hid (HBb.out.next hb)
  replace Hc := Lib.hid (Hc.out.below hb (by omega))
  have hlw3 := hb.size
  clear hb p0 p1 p2 q0 q1 q2
  obtain ⟨p0, p1, p2, -, -, -, pl⟩ := HA.out.a
  obtain ⟨q0, q1, q2, -, -, -, ql⟩ := HBb.out.a
  obtain ⟨r0, r1, r2, h0, h1, h2, hl⟩ := HA.out.r
  have HW := Lib.hid HA.out.below
  go_wp2_with fail
  refine bodyPost_ret (v := .tuple #[Dt.zero.v, .int .i64 5]) (by simp [results, Tryz.results21, go_sem, r0, r1, r2, Dt.zero]) rfl ⟨rfl, ?_⟩
  exact ((HW.out.setCell (p := ⟨w.heap.size, 0, none⟩) (Nat.le_refl _) _).setCell (p := ⟨w.heap.size, 1, none⟩) (Nat.le_refl _) _).setCell (p := ⟨w.heap.size, 2, none⟩) (Nat.le_refl _) _


set_option maxRecDepth 100000 in
set_option maxHeartbeats 4000000 in
theorem refcomp_same (op : Int) (ak ai : Int) (sa : ByteArray) (bk bi : Int) (sb : ByteArray) (b o cap : Nat) (w : World) (hbk : b < w.heap.size) (hc : DCells w b o [⟨ak, ai, sa⟩, ⟨bk, bi, sb⟩]) (hany : ([⟨ak, ai, sa⟩, ⟨bk, bi, sb⟩] : List Dt).any (fun d => d.k == 0) = false) (hall : ([⟨ak, ai, sa⟩, ⟨bk, bi, sb⟩] : List Dt).all (isOf [2, 3]) = false) (hne : (ak != bk) = false) (h7 : 7 ≤ op) (h12 : op ≤ 12) :
    Calls Tryz.prog 21 #[.int .i64 op, .slice (some ⟨b, o, none⟩) 2 cap] w fun e w' => e = .returned (.tuple #[((truthD (cmpOp op (dco ak ai sa bk bi sb)), (0 : Int))).1.v, .int .i64 ((truthD (cmpOp op (dco ak ai sa bk bi sb)), (0 : Int))).2]) ∧ Below w.heap.size w w' := by
  have e0 := hc 0 (by simp)
  have d0 : dnth ([⟨ak, ai, sa⟩, ⟨bk, bi, sb⟩] : List Dt) 0 = ⟨ak, ai, sa⟩ := rfl
  rw [d0] at e0
  simp only [Nat.zero_mul, Nat.add_zero] at e0
  obtain ⟨e0, e1, e2⟩ := e0
  have g0 := hc 1 (by simp)
  have d1 : dnth ([⟨ak, ai, sa⟩, ⟨bk, bi, sb⟩] : List Dt) 1 = ⟨bk, bi, sb⟩ := rfl
  rw [d1] at g0
  simp only [Nat.one_mul] at g0
  obtain ⟨g0, g1, g2⟩ := g0
  obtain ⟨hX, hY, hZ⟩ := Bx.three w (.int .i64 0) (.int .i64 0) (.string ⟨#[]⟩) (.int .i64 ak) (.int .i64 ai) (.string sa) (.int .i64 bk) (.int .i64 bi) (.string sb) 27 27 27
  have hB := (((Below.refl w.heap.size w).alloc (Nat.le_refl _) (.cells #[.int .i64 0, .int .i64 0, .string ⟨#[]⟩] 27)).alloc (by simp) (.cells #[.int .i64 ak, .int .i64 ai, .string sa] 27)).alloc (by simp; omega) (.cells #[.int .i64 bk, .int .i64 bi, .string sb] 27)
  have HA := Lib.hid (ArW.mk hX hY hB (by omega))
  have HBb := Lib.hid (ArW.mk hX hZ hB (by omega))
  have Hc := Lib.hid (hc.below hB hbk)
  clear d0 d1 hX hY hZ hB hc
  have hk : (ak == 0) = false ∧ (bk == 0) = false := by
    simp only [List.any_cons, List.any_nil, Bool.or_false, Bool.or_eq_false_iff] at hany
    exact hany
  obtain ⟨hk1, hk2⟩ := hk
  have hal : [⟨ak, ai, sa⟩, ⟨bk, bi, sb⟩].all (onlyF 2 3) = false := by rw [← hall]; simp [onlyF_two]
  have HL := Lib.hid hal
  clear hany hall hal
  have HCm := Lib.hid (fun W => refcmp_any ak ai bk bi sa sb W)
  generalize dco ak ai sa bk bi sb = n at *

  go_enter Tryz.func21, Tryz.ntmps21
  go_wp2_with fail
  generalize (((w.alloc (.cells #[.int .i64 0, .int .i64 0, .string ⟨#[]⟩] 27)).alloc (.cells #[.int .i64 ak, .int .i64 ai, .string sa] 27)).alloc (.cells #[.int .i64 bk, .int .i64 bi, .string sb] 27)) = W0 at *
  obtain ⟨p0, p1, p2, -, -, -, pl⟩ := HA.out.a
  obtain ⟨q0, q1, q2, -, -, -, ql⟩ := HBb.out.a
  refine (refonly_any [⟨ak, ai, sa⟩, ⟨bk, bi, sb⟩] b o cap 2 3 _ (by simp) (by omega) Hc.out).mono ?_
  rintro e w3 ⟨rfl, hb⟩
  rw [HL.out]
  replace HA := Lib.hid (HA.out.next hb)
  replace HBb := Lib.hid (HBb.out.next hb)
  replace Hc := Lib.hid (Hc.out.below hb (by omega))
  have hlw3 := hb.size
  clear hb p0 p1 p2 q0 q1 q2
  obtain ⟨p0, p1, p2, -, -, -, pl⟩ := HA.out.a
  obtain ⟨q0, q1, q2, -, -, -, ql⟩ := HBb.out.a
  go_wp2_with fail
  refine (HCm.out _).mono ?_
  rintro e w4 ⟨rfl, hb⟩
  replace HA := Lib.hid (HA.out.next hb)
  replace HBb := Lib.hid (HBb.out.next hb)
  replace Hc := Lib.hid (Hc.out.below hb (by omega))
  have hlw4 := hb.size
  clear hb p0 p1 p2 q0 q1 q2
  obtain ⟨p0, p1, p2, -, -, -, pl⟩ := HA.out.a
  obtain ⟨q0, q1, q2, -, -, -, ql⟩ := HBb.out.a
  clear p0 p1 p2 q0 q1 q2
  rcases (by omega : op = 7 ∨ op = 8 ∨ op = 9 ∨ op = 10 ∨ op = 11 ∨ op = 12) with rfl | rfl | rfl | rfl | rfl | rfl
  all_goals
    go_wp2_with fail
    refine (bool_form _ _).mono ?_
    rintro e w8 ⟨ti, ht, rfl, hb⟩
    have HW := Lib.hid (HA.out.below.trans (hb.mono HA.out.below.size))
    have HTI := Lib.hid ht
    obtain ⟨r0, r1, r2, h0, h1, h2, hl⟩ := HA.out.r.below hb
    clear hb ht
    go_wp2_with fail
    refine bodyPost_ret (v := .tuple #[.agg #[.int .i64 1, .int .i64 ti, .string ⟨#[]⟩], .int .i64 0]) (by simp [results, Tryz.results21, go_sem, r0, r1, r2]) rfl ⟨congrArg (fun d : Dt => Ending.returned (.tuple #[d.v, .int .i64 0])) HTI.out, ?_⟩
    exact ((HW.out.setCell (p := ⟨w.heap.size, 0, none⟩) (Nat.le_refl _) _).setCell (p := ⟨w.heap.size, 1, none⟩) (Nat.le_refl _) _).setCell (p := ⟨w.heap.size, 2, none⟩) (Nat.le_refl _) _


set_option maxRecDepth 100000 in
set_option maxHeartbeats 4000000 in
theorem refcomp_num (op : Int) (ak ai : Int) (sa : ByteArray) (bk bi : Int) (sb : ByteArray) (b o cap : Nat) (w : World) (hbk : b < w.heap.size) (hc : DCells w b o [⟨ak, ai, sa⟩, ⟨bk, bi, sb⟩]) (hany : ([⟨ak, ai, sa⟩, ⟨bk, bi, sb⟩] : List Dt).any (fun d => d.k == 0) = false) (hall : ([⟨ak, ai, sa⟩, ⟨bk, bi, sb⟩] : List Dt).all (isOf [2, 3]) = true) (h7 : 7 ≤ op) (h12 : op ≤ 12) (hi : In64 ai) (hj : In64 bi) :
    Calls Tryz.prog 21 #[.int .i64 op, .slice (some ⟨b, o, none⟩) 2 cap] w fun e w' => e = .returned (.tuple #[((truthD (cmpOp op (cmpZ (numZ ak ai) (numZ bk bi))), (0 : Int))).1.v, .int .i64 ((truthD (cmpOp op (cmpZ (numZ ak ai) (numZ bk bi))), (0 : Int))).2]) ∧ Below w.heap.size w w' := by
  have e0 := hc 0 (by simp)
  have d0 : dnth ([⟨ak, ai, sa⟩, ⟨bk, bi, sb⟩] : List Dt) 0 = ⟨ak, ai, sa⟩ := rfl
  rw [d0] at e0
  simp only [Nat.zero_mul, Nat.add_zero] at e0
  obtain ⟨e0, e1, e2⟩ := e0
  have g0 := hc 1 (by simp)
  have d1 : dnth ([⟨ak, ai, sa⟩, ⟨bk, bi, sb⟩] : List Dt) 1 = ⟨bk, bi, sb⟩ := rfl
  rw [d1] at g0
  simp only [Nat.one_mul] at g0
  obtain ⟨g0, g1, g2⟩ := g0
  obtain ⟨hX, hY, hZ⟩ := Bx.three w (.int .i64 0) (.int .i64 0) (.string ⟨#[]⟩) (.int .i64 ak) (.int .i64 ai) (.string sa) (.int .i64 bk) (.int .i64 bi) (.string sb) 27 27 27
  have hB := (((Below.refl w.heap.size w).alloc (Nat.le_refl _) (.cells #[.int .i64 0, .int .i64 0, .string ⟨#[]⟩] 27)).alloc (by simp) (.cells #[.int .i64 ak, .int .i64 ai, .string sa] 27)).alloc (by simp; omega) (.cells #[.int .i64 bk, .int .i64 bi, .string sb] 27)
  have HA := Lib.hid (ArW.mk hX hY hB (by omega))
  have HBb := Lib.hid (ArW.mk hX hZ hB (by omega))
  have Hc := Lib.hid (hc.below hB hbk)
  clear d0 d1 hX hY hZ hB hc
  have hk : (ak == 0) = false ∧ (bk == 0) = false := by
    simp only [List.any_cons, List.any_nil, Bool.or_false, Bool.or_eq_false_iff] at hany
    exact hany
  obtain ⟨hk1, hk2⟩ := hk
  have hal : [⟨ak, ai, sa⟩, ⟨bk, bi, sb⟩].all (onlyF 2 3) = true := by rw [← hall]; simp [onlyF_two]
  have HL := Lib.hid hal
  clear hany hall hal
  have HCm := Lib.hid (fun W => refcmp_any ak ai bk bi sa sb W)
  have H1 := Lib.hid (fun (W : World) => show Calls Tryz.prog 35 #[.agg #[.int .i64 ak, .int .i64 ai, .string sa]] W (fun e w' => ∃ v, e = .returned v ∧ BigV w' v (numZ ak ai) ∧ Below W.heap.size W w') from number_v ak ai sa hi.1 hi.2 W)
  have H2 := Lib.hid (fun (W : World) => show Calls Tryz.prog 35 #[.agg #[.int .i64 bk, .int .i64 bi, .string sb]] W (fun e w' => ∃ v, e = .returned v ∧ BigV w' v (numZ bk bi) ∧ Below W.heap.size W w') from number_v bk bi sb hj.1 hj.2 W)
  have HO := Lib.hid (fun (W : World) (v1 v2 : Value) (h1 : BigV W v1 (numZ ak ai)) (h2 : BigV W v2 (numZ bk bi)) => order_v h1 h2 (Fit.of_lt (numZ_fit hi) (by decide)) (Fit.of_lt (numZ_fit hj) (by decide)))
  generalize cmpZ (numZ ak ai) (numZ bk bi) = n at *
  generalize dco ak ai sa bk bi sb = n0 at *
  clear hi hj

  go_enter Tryz.func21, Tryz.ntmps21
  go_wp2_with fail
  generalize (((w.alloc (.cells #[.int .i64 0, .int .i64 0, .string ⟨#[]⟩] 27)).alloc (.cells #[.int .i64 ak, .int .i64 ai, .string sa] 27)).alloc (.cells #[.int .i64 bk, .int .i64 bi, .string sb] 27)) = W0 at *
  obtain ⟨p0, p1, p2, -, -, -, pl⟩ := HA.out.a
  obtain ⟨q0, q1, q2, -, -, -, ql⟩ := HBb.out.a
  refine (refonly_any [⟨ak, ai, sa⟩, ⟨bk, bi, sb⟩] b o cap 2 3 _ (by simp) (by omega) Hc.out).mono ?_
  rintro e w3 ⟨rfl, hb⟩
  rw [HL.out]
  replace HA := Lib.hid (HA.out.next hb)
  replace HBb := Lib.hid (HBb.out.next hb)
  replace Hc := Lib.hid (Hc.out.below hb (by omega))
  have hlw3 := hb.size
  clear hb p0 p1 p2 q0 q1 q2
  obtain ⟨p0, p1, p2, -, -, -, pl⟩ := HA.out.a
  obtain ⟨q0, q1, q2, -, -, -, ql⟩ := HBb.out.a
  go_wp2_with fail
  refine (HCm.out _).mono ?_
  rintro e w4 ⟨rfl, hb⟩
  replace HA := Lib.hid (HA.out.next hb)
  replace HBb := Lib.hid (HBb.out.next hb)
  replace Hc := Lib.hid (Hc.out.below hb (by omega))
  have hlw4 := hb.size
  clear hb p0 p1 p2 q0 q1 q2
  obtain ⟨p0, p1, p2, -, -, -, pl⟩ := HA.out.a
  obtain ⟨q0, q1, q2, -, -, -, ql⟩ := HBb.out.a
  clear p0 p1 p2 q0 q1 q2
  have HS0 := Lib.hid (arS_of HA.out HBb.out)
  have HA4 := Lib.hid (show ∀ W', Below w4.heap.size w4 W' → ArW w W' (w.heap.size + 1) ak ai sa from fun W' hW => HA.out.next hW)
  clear HA HBb Hc HCm
  go_wp2_with fail
  go_region_held3 (fun w' => Below w.heap.size w w' ∧ w.heap.size + 1 < w'.heap.size ∧ w.heap.size + 1 + 1 < w'.heap.size ∧ (w'.cell? ⟨w.heap.size + 1, 0, none⟩ = some (.int .i64 ak) ∧ w'.cell? ⟨w.heap.size + 1, 1, none⟩ = some (.int .i64 ai) ∧ w'.cell? ⟨w.heap.size + 1, 2, none⟩ = some (.string sa)) ∧ (w'.cell? ⟨w.heap.size + 1 + 1, 0, none⟩ = some (.int .i64 bk) ∧ w'.cell? ⟨w.heap.size + 1 + 1, 1, none⟩ = some (.int .i64 bi) ∧ w'.cell? ⟨w.heap.size + 1 + 1, 2, none⟩ = some (.string sb))) ((clear H1 H2 HO HA4; first | (with_reducible exact arS_drew HS0.out) | (with_reducible exact arS_next ‹_› ‹_›)))
    (first
      | (go_at_call_of 35 (Value.int IntKind.i64 ai); (with_reducible refine (H1.out _).mono ?_); rintro e w5 ⟨v5, rfl, hv5, hb5⟩)
      | (go_at_call_of 35 (Value.int IntKind.i64 bi); (with_reducible refine (H2.out _).mono ?_); rintro e w6 ⟨v6, rfl, hv6, hb6⟩; have hv5' := hv5.below hb6)
      | (go_at_call 34; (with_reducible refine (HO.out _ _ _ hv5' hv6).mono ?_); rintro e w7 ⟨rfl, hb7⟩; have HA := Lib.hid (HA4.out _ (((Below.refl w4.heap.size w4).drew.trans (hb5.mono (Nat.le_refl _))).trans ((hb6.mono hb5.size).trans (hb7.mono (Nat.le_trans hb5.size hb6.size)))))))
  clear H1 H2 HO HA4 HS0
  rcases (by omega : op = 7 ∨ op = 8 ∨ op = 9 ∨ op = 10 ∨ op = 11 ∨ op = 12) with rfl | rfl | rfl | rfl | rfl | rfl
  all_goals
    go_wp2_with fail
    refine (bool_form _ _).mono ?_
    rintro e w8 ⟨ti, ht, rfl, hb⟩
    have HW := Lib.hid (HA.out.below.trans (hb.mono HA.out.below.size))
    have HTI := Lib.hid ht
    obtain ⟨r0, r1, r2, h0, h1, h2, hl⟩ := HA.out.r.below hb
    clear hb ht
    go_wp2_with fail
    refine bodyPost_ret (v := .tuple #[.agg #[.int .i64 1, .int .i64 ti, .string ⟨#[]⟩], .int .i64 0]) (by simp [results, Tryz.results21, go_sem, r0, r1, r2]) rfl ⟨congrArg (fun d : Dt => Ending.returned (.tuple #[d.v, .int .i64 0])) HTI.out, ?_⟩
    exact ((HW.out.setCell (p := ⟨w.heap.size, 0, none⟩) (Nat.le_refl _) _).setCell (p := ⟨w.heap.size, 1, none⟩) (Nat.le_refl _) _).setCell (p := ⟨w.heap.size, 2, none⟩) (Nat.le_refl _) _

end Go.Proofs.YtokbdleokihdaaaGreatDoor

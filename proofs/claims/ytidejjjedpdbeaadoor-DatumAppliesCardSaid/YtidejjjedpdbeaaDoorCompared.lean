/- Contract of datum.compared: what a comparison of two values answers. -/
import Derived.Test.YtidejjjedpdbeaaDoorG08
import Derived.Test.YtidejjjedpdbeaaDoorG01
namespace Go.Proofs.YtidejjjedpdbeaaDoor
open Go.RowKit

/-- What a comparison's operator says of an order. -/
def cmpOp (op n : Int) : Bool := if op = 7 then n == 0 else if op = 8 then n != 0 else if op = 9 then decide (n < 0) else if op = 10 then decide (n ≤ 0) else if op = 11 then decide (0 < n) else decide (0 ≤ n)
def ordD (d d' : Dt) : Int := if [d, d'].all (isOf [2, 3]) then ordN d.k d.i d.s d'.k d'.i d'.s else dco d.k d.i d.s d'.k d'.i d'.s
def comparedF (op : Int) (d d' : Dt) : Dt := if [d, d'].any (fun d => d.k == 0) then Dt.zero else truthD (cmpOp op (ordD d d'))

set_option maxHeartbeats 2000000 in
theorem compared_null (op : Int) (d d' : Dt) (b o cap : Nat) (w : World) (hbk : b < w.heap.size) (hc : DCells w b o [d, d']) (hn : [d, d'].any (fun d => d.k == 0) = true) :
    Calls Tryd.prog 28 #[.int .i64 op, .slice (some ⟨b, o, none⟩) 2 cap] w fun e w' => e = .returned (Dt.zero).v ∧ Below w.heap.size w w' := by
  have Hc := Lib.hid hc
  have HN := Lib.hid hn
  clear hc hn
  go_enter Tryd.func28, Tryd.ntmps28
  go_wp2_with fail
  refine (anyNull_any [d, d'] b o cap _ (by simp) (by simp; omega) (Hc.out.below ((Below.refl _ _).alloc (Nat.le_refl _) _) hbk)).mono ?_
  rintro e w2 ⟨rfl, hb2⟩
  rw [HN.out]
  rw [World.size_alloc] at hb2
  obtain ⟨⟨b1, b2, b3⟩, ⟨f1, f2, f3⟩, hB, hz⟩ := box_new hb2
  have HB := Lib.hid hB
  clear hb2 hB
  go_wp2_with fail
  refine bodyPost_ret (v := Dt.zero.v) (by simp [results, Tryd.results28, go_sem, b1, b2, b3, Dt.zero]) rfl ⟨rfl, ?_⟩
  exact ((HB.out.setCell (Nat.le_refl _) _).setCell (Nat.le_refl _) _).setCell (Nat.le_refl _) _

set_option maxHeartbeats 2000000 in
theorem compared_some (op : Int) (h7 : 7 ≤ op) (h12 : op ≤ 12) (d d' : Dt) (b o cap : Nat) (w : World) (hbk : b < w.heap.size) (hc : DCells w b o [d, d']) (hn : [d, d'].any (fun d => d.k == 0) = false)
    (a0 : -9223372036854775808 ≤ d.i) (a1 : d.i ≤ 9223372036854775807) (b0 : -9223372036854775808 ≤ d'.i) (b1 : d'.i ≤ 9223372036854775807) :
    Calls Tryd.prog 28 #[.int .i64 op, .slice (some ⟨b, o, none⟩) 2 cap] w fun e w' => e = .returned (truthD (cmpOp op (ordD d d'))).v ∧ Below w.heap.size w w' := by
  have Hc := Lib.hid hc
  have HN := Lib.hid hn
  have HO := Lib.hid (fun w => order_any d.k d.i d'.k d'.i d.s d'.s w a0 a1 b0 b1)
  have HD := Lib.hid (fun w => dcmp d.k d.i d'.k d'.i d.s d'.s w)
  have HE := Lib.hid (show ordD d d' = if [d, d'].all (isOf [2, 3]) then ordN d.k d.i d.s d'.k d'.i d'.s else dco d.k d.i d.s d'.k d'.i d'.s from rfl)
  clear hc hn a0 a1 b0 b1
  go_enter Tryd.func28, Tryd.ntmps28
  go_wp2_with fail
  refine (anyNull_any [d, d'] b o cap _ (by simp) (by simp; omega) (Hc.out.below ((Below.refl _ _).alloc (Nat.le_refl _) _) hbk)).mono ?_
  rintro e w2 ⟨rfl, hb2⟩
  rw [HN.out]
  rw [World.size_alloc] at hb2
  have HB := Lib.hid hb2
  have hB := (box_new hb2).2.2.1
  have hz := (box_new hb2).2.2.2
  have Hc2 := Lib.hid (Hc.out.below hB hbk)
  clear hb2 hB HN
  go_wp2_with fail
  refine (of_any [d, d'] b o cap [2, 3] _ _ _ (by simp) (by simp; omega) (Hc2.out.below ((Below.refl _ _).alloc (Nat.le_refl _) _) (by omega)) (by simp) (by simp) (kinds_new _ _ _ rfl)).mono ?_
  rintro e w3 ⟨rfl, hb3⟩
  have HB3 := Lib.hid ((HB.out.alloc (by omega) _).trans (hb3.mono (by simp; omega)))
  have hB3 := (box_new HB3.out).2.2.1
  have hz3 := (box_new HB3.out).2.2.2
  have Hc3 := Lib.hid (Hc.out.below hB3 hbk)
  clear hb3 hB3 HB Hc2 Hc
  have e0 := Hc3.out 0 (by simp)
  have e1 := Hc3.out 1 (by simp)
  have d0 : dnth [d, d'] 0 = d := rfl
  have d1 : dnth [d, d'] 1 = d' := rfl
  rw [d0] at e0
  rw [d1] at e1
  clear d0 d1
  simp only [Nat.zero_mul, Nat.one_mul, Nat.add_zero] at e0 e1
  generalize hall : [d, d'].all (isOf [2, 3]) = al
  rw [hall] at HE
  clear hall
  have q0 : ∀ (u : GW (fun w' => Below w3.heap.size w3 w')), u.w.cell? ⟨b, o, none⟩ = some (.int .i64 d.k) := fun u => by rw [u.h.cell (p := ⟨b, o, none⟩) (by show b < _; omega)]; exact e0.1
  have q1 : ∀ (u : GW (fun w' => Below w3.heap.size w3 w')), u.w.cell? ⟨b, o + 1, none⟩ = some (.int .i64 d.i) := fun u => by rw [u.h.cell (p := ⟨b, o + 1, none⟩) (by show b < _; omega)]; exact e0.2.1
  have q2 : ∀ (u : GW (fun w' => Below w3.heap.size w3 w')), u.w.cell? ⟨b, o + 2, none⟩ = some (.string d.s) := fun u => by rw [u.h.cell (p := ⟨b, o + 2, none⟩) (by show b < _; omega)]; exact e0.2.2
  have q3 : ∀ (u : GW (fun w' => Below w3.heap.size w3 w')), u.w.cell? ⟨b, o + 3, none⟩ = some (.int .i64 d'.k) := fun u => by rw [u.h.cell (p := ⟨b, o + 3, none⟩) (by show b < _; omega)]; exact e1.1
  have q4 : ∀ (u : GW (fun w' => Below w3.heap.size w3 w')), u.w.cell? ⟨b, o + 3 + 1, none⟩ = some (.int .i64 d'.i) := fun u => by rw [u.h.cell (p := ⟨b, o + 3 + 1, none⟩) (by show b < _; omega)]; exact e1.2.1
  have q5 : ∀ (u : GW (fun w' => Below w3.heap.size w3 w')), u.w.cell? ⟨b, o + 3 + 2, none⟩ = some (.string d'.s) := fun u => by rw [u.h.cell (p := ⟨b, o + 3 + 2, none⟩) (by show b < _; omega)]; exact e1.2.2
  have hne := GW.ne (Inv := fun w' => Below w3.heap.size w3 w') (Below.refl _ _)
  clear e0 e1 Hc3
  cases al
  · have HE2 := Lib.hid (show ordD d d' = dco d.k d.i d.s d'.k d'.i d'.s by rw [HE.out]; rfl)
    clear HE
    go_wp2_with fail
    refine wp_region_grow (fun w' => Below w3.heap.size w3 w') (by kernel_rfl) (by kernel_rfl) (Below.refl _ _).drew ?_
    repeat (go_big_quiet_step ((go_at_call 13; refine (HD.out _).mono ?_; rintro e w1 ⟨rfl, hb⟩; exact ⟨rfl, below_next _ hb⟩)))
    refine wpQuiet_nil ?_
    intro _ hw'
    obtain ⟨⟨w4, h4⟩, hw''⟩ := hw'
    subst hw''
    rw [← HE2.out]
    generalize hnn : ordD d d' = n
    have HN := Lib.hid hnn
    clear hnn
    have HB4 := Lib.hid (HB3.out.trans (h4.mono (by omega)))
    have hz4 := h4.size
    clear h4 q0 q1 q2 q3 q4 q5 HB3 HE2 HO HD hne
    rcases (by omega : op = 7 ∨ op = 8 ∨ op = 9 ∨ op = 10 ∨ op = 11 ∨ op = 12) with rfl | rfl | rfl | rfl | rfl | rfl
    all_goals
      go_wp2_with fail
      refine (truth_any _ _).mono ?_
      rintro e w5 ⟨rfl, hb5⟩
      have HB5 := Lib.hid (HB4.out.trans (hb5.mono (by omega)))
      clear hb5 HB4
      obtain ⟨⟨b1, b2, b3⟩, ⟨f1, f2, f3⟩, hB, hzz⟩ := box_new HB5.out
      have HB := Lib.hid hB
      clear hB HB5
      generalize hfin : truthD _ = tv
      have HF := Lib.hid hfin
      clear hfin
      obtain ⟨tk, ti, ts⟩ := tv
      go_wp2_with fail
      refine bodyPost_ret (v := .agg #[.int .i64 tk, .int .i64 ti, .string ts]) (by simp [results, Tryd.results28, go_sem, b1, b2, b3]) rfl ⟨?_, ?_⟩
      · rw [HN.out]
        exact congrArg (fun t : Dt => Ending.returned t.v) HF.out.symm
      · exact ((HB.out.setCell (Nat.le_refl _) _).setCell (Nat.le_refl _) _).setCell (Nat.le_refl _) _
  · have HE2 := Lib.hid (show ordD d d' = ordN d.k d.i d.s d'.k d'.i d'.s by rw [HE.out]; rfl)
    clear HE
    go_wp2_with fail
    refine wp_region_grow (fun w' => Below w3.heap.size w3 w') (by kernel_rfl) (by kernel_rfl) (Below.refl _ _).drew ?_
    repeat (go_big_quiet_step ((go_at_call 49; refine (HO.out _).mono ?_; rintro e w1 ⟨rfl, hb⟩; exact ⟨rfl, below_next _ hb⟩)))
    refine wpQuiet_nil ?_
    intro _ hw'
    obtain ⟨⟨w4, h4⟩, hw''⟩ := hw'
    subst hw''
    rw [← HE2.out]
    generalize hnn : ordD d d' = n
    have HN := Lib.hid hnn
    clear hnn
    have HB4 := Lib.hid (HB3.out.trans (h4.mono (by omega)))
    have hz4 := h4.size
    clear h4 q0 q1 q2 q3 q4 q5 HB3 HE2 HO HD hne
    rcases (by omega : op = 7 ∨ op = 8 ∨ op = 9 ∨ op = 10 ∨ op = 11 ∨ op = 12) with rfl | rfl | rfl | rfl | rfl | rfl
    all_goals
      go_wp2_with fail
      refine (truth_any _ _).mono ?_
      rintro e w5 ⟨rfl, hb5⟩
      have HB5 := Lib.hid (HB4.out.trans (hb5.mono (by omega)))
      clear hb5 HB4
      obtain ⟨⟨b1, b2, b3⟩, ⟨f1, f2, f3⟩, hB, hzz⟩ := box_new HB5.out
      have HB := Lib.hid hB
      clear hB HB5
      generalize hfin : truthD _ = tv
      have HF := Lib.hid hfin
      clear hfin
      obtain ⟨tk, ti, ts⟩ := tv
      go_wp2_with fail
      refine bodyPost_ret (v := .agg #[.int .i64 tk, .int .i64 ti, .string ts]) (by simp [results, Tryd.results28, go_sem, b1, b2, b3]) rfl ⟨?_, ?_⟩
      · rw [HN.out]
        exact congrArg (fun t : Dt => Ending.returned t.v) HF.out.symm
      · exact ((HB.out.setCell (Nat.le_refl _) _).setCell (Nat.le_refl _) _).setCell (Nat.le_refl _) _
end Go.Proofs.YtidejjjedpdbeaaDoor

/- The document's arithmetic. -/
import Derived.Test.YtidejjjedpdbeaaDoorG16
import Derived.Test.YtidejjjedpdbeaaDoorRefLogicB
namespace Go.Proofs.YtidejjjedpdbeaaDoor
open Go.RowKit

/-- A number's worth. -/
def numZ (k i : Int) : Int := if k = 2 then i * 10000 else i
theorem numZ_fit {k i : Int} (h : In64 i) : (numZ k i).natAbs < 1000000 ^ 5 := by unfold numZ In64 at *; split <;> omega
theorem numZ_res {k i : Int} (h : In64 i) : ∃ (ok : Bool) (r : Int), ok = decide (In64 (numZ k i)) ∧ r = (if ok then numZ k i else 0) ∧ ∀ W v, BigV W v (numZ k i) → Calls Tryd.prog 57 #[v] W fun e w' => e = .returned (.tuple #[.int .i64 r, .bool ok]) ∧ Below W.heap.size W w' := fits_res (z := numZ k i) (Nat.lt_trans (numZ_fit h) (Nat.pow_lt_pow_right (by decide) (by decide)))
theorem neg_res {i : Int} (h : In64 i) : ∃ (ok : Bool) (r : Int), ok = decide (In64 (-i)) ∧ r = (if ok then -i else 0) ∧ ∀ W v, BigV W v (-i) → Calls Tryd.prog 57 #[v] W fun e w' => e = .returned (.tuple #[.int .i64 r, .bool ok]) ∧ Below W.heap.size W w' := fits_res (z := -i) (by have : (-i).natAbs < 1000000 ^ 5 := (by unfold In64 at h; omega); exact Nat.lt_trans this (Nat.pow_lt_pow_right (by decide) (by decide)))
/-- A number of a kind, or no value. -/
def okD (kind z : Int) (ok : Bool) : Dt × Int := if ok then (⟨kind, z, ⟨#[]⟩⟩, 0) else (Dt.zero, 4)
theorem result_ok (kind z r : Int) (ok : Bool) (hr : r = if ok then z else 0) (W : World) :
    Calls Tryd.prog 58 #[.int .i64 kind, .int .i64 r, .bool ok] W fun e w' => e = .returned (.tuple #[(okD kind z ok).1.v, .int .i64 (okD kind z ok).2]) ∧ Below W.heap.size W w' := by
  refine (result_any kind r ok W).mono ?_
  rintro e w' ⟨rfl, h⟩
  refine ⟨?_, h⟩
  subst hr
  unfold okD
  cases ok <;> rfl
/-- The boxes of arithmetic: the result, one argument. -/
structure ArW (w W : World) (n : Nat) (k i : Int) (s : ByteArray) : Prop where
  r : Bx W w.heap.size (.int .i64 0) (.int .i64 0) (.string ⟨#[]⟩)
  a : Bx W n (.int .i64 k) (.int .i64 i) (.string s)
  below : Below w.heap.size w W
  ne : n ≠ w.heap.size
theorem ArW.next {w W W' : World} {n : Nat} {k i : Int} {s : ByteArray} (h : ArW w W n k i s) (hb : Below W.heap.size W W') : ArW w W' n k i s :=
  ⟨h.r.below hb, h.a.below hb, h.below.trans (hb.mono h.below.size), h.ne⟩
theorem ArW.new {w W : World} {k i : Int} {s : ByteArray} {t : TypeId} (hb : Below (w.heap.size + 1) (w.alloc (.cells #[.int .i64 0, .int .i64 0, .string ⟨#[]⟩] 24)) W) : ArW w (W.alloc (.cells #[.int .i64 k, .int .i64 i, .string s] t)) W.heap.size k i s := by
  obtain ⟨⟨b1, b2, b3⟩, ⟨f1, f2, f3⟩, hB, hz⟩ := box_new hb
  exact ⟨(Bx.mk b1 b2 b3 f1 f2 f3 hz).alloc _, Bx.new _ _ _ _ _, hB.alloc hB.size _, by omega⟩
theorem ArW.two {w W : World} {n : Nat} {k i k' i' : Int} {s s' : ByteArray} {t : TypeId} (h : ArW w W n k i s) : ArW w (W.alloc (.cells #[.int .i64 k', .int .i64 i', .string s'] t)) n k i s ∧ ArW w (W.alloc (.cells #[.int .i64 k', .int .i64 i', .string s'] t)) W.heap.size k' i' s' :=
  ⟨⟨h.r.alloc _, h.a.alloc _, h.below.alloc h.below.size _, h.ne⟩, ⟨h.r.alloc _, Bx.new _ _ _ _ _, h.below.alloc h.below.size _, by have := h.r.lt; omega⟩⟩

set_option maxRecDepth 100000 in
set_option maxHeartbeats 2000000 in
theorem refar_null1 (op : Int) (ak ai : Int) (sa : ByteArray) (b o cap : Nat) (w : World) (hbk : b < w.heap.size) (hc : DCells w b o [⟨ak, ai, sa⟩]) (hr : rightD ⟨ak, ai, sa⟩ = true) (hany : ([⟨ak, ai, sa⟩] : List Dt).any (fun d => d.k == 0) = true) :
    Calls Tryd.prog 36 #[.int .i64 op, .slice (some ⟨b, o, none⟩) 1 cap] w fun e w' => e = .returned (.tuple #[((Dt.zero, (0 : Int))).1.v, .int .i64 ((Dt.zero, (0 : Int))).2]) ∧ Below w.heap.size w w' := by
  have HN : Hid ((([⟨ak, ai, sa⟩] : List Dt).any fun d => eqD d.k d.i d.s 0 0 ⟨#[]⟩) = true) := by show _ = _; rw [← hany]; simp [eq_null hr]
  clear hany
  have Hc := Lib.hid hc
  clear hc hr
  go_enter Tryd.func36, Tryd.ntmps36
  go_wp2_with fail
  refine (refhas_any ([⟨ak, ai, sa⟩] : List Dt) b o cap 0 0 ⟨#[]⟩ _ (by simp) (by simp; omega) (Hc.out.below ((Below.refl _ _).alloc (Nat.le_refl _) _) hbk)).mono ?_
  rintro e w2 ⟨rfl, hb2⟩
  rw [HN.out]
  have hb2' : Below (w.heap.size + 1) (w.alloc (.cells #[.int .i64 0, .int .i64 0, .string ⟨#[]⟩] 24)) w2 := by rw [← World.size_alloc]; exact hb2
  obtain ⟨⟨b1, b2, b3⟩, ⟨f1, f2, f3⟩, hB, hzw⟩ := box_new hb2'
  have Hc2 := Lib.hid (Hc.out.below hB hbk)
  have HB := Lib.hid hB
  have hb2h := Lib.hid hb2'
  clear hb2 hb2' hB Hc
  go_wp2_with fail
  refine bodyPost_ret (v := .tuple #[Dt.zero.v, .int .i64 0]) (by simp [results, Tryd.results36, go_sem, b1, b2, b3, Dt.zero]) rfl ⟨rfl, ?_⟩
  exact ((HB.out.setCell (p := ⟨w.heap.size, 0, none⟩) (Nat.le_refl _) _).setCell (p := ⟨w.heap.size, 1, none⟩) (Nat.le_refl _) _).setCell (p := ⟨w.heap.size, 2, none⟩) (Nat.le_refl _) _

set_option maxRecDepth 100000 in
set_option maxHeartbeats 2000000 in
theorem refar_null2 (op : Int) (ak ai : Int) (sa : ByteArray) (bk bi : Int) (sb : ByteArray) (b o cap : Nat) (w : World) (hbk : b < w.heap.size) (hc : DCells w b o [⟨ak, ai, sa⟩, ⟨bk, bi, sb⟩]) (hr : rightD ⟨ak, ai, sa⟩ = true) (hr' : rightD ⟨bk, bi, sb⟩ = true) (hany : ([⟨ak, ai, sa⟩, ⟨bk, bi, sb⟩] : List Dt).any (fun d => d.k == 0) = true) :
    Calls Tryd.prog 36 #[.int .i64 op, .slice (some ⟨b, o, none⟩) 2 cap] w fun e w' => e = .returned (.tuple #[((Dt.zero, (0 : Int))).1.v, .int .i64 ((Dt.zero, (0 : Int))).2]) ∧ Below w.heap.size w w' := by
  have HN : Hid ((([⟨ak, ai, sa⟩, ⟨bk, bi, sb⟩] : List Dt).any fun d => eqD d.k d.i d.s 0 0 ⟨#[]⟩) = true) := by show _ = _; rw [← hany]; simp [eq_null hr, eq_null hr']
  clear hany
  have Hc := Lib.hid hc
  clear hc hr hr'
  go_enter Tryd.func36, Tryd.ntmps36
  go_wp2_with fail
  refine (refhas_any ([⟨ak, ai, sa⟩, ⟨bk, bi, sb⟩] : List Dt) b o cap 0 0 ⟨#[]⟩ _ (by simp) (by simp; omega) (Hc.out.below ((Below.refl _ _).alloc (Nat.le_refl _) _) hbk)).mono ?_
  rintro e w2 ⟨rfl, hb2⟩
  rw [HN.out]
  have hb2' : Below (w.heap.size + 1) (w.alloc (.cells #[.int .i64 0, .int .i64 0, .string ⟨#[]⟩] 24)) w2 := by rw [← World.size_alloc]; exact hb2
  obtain ⟨⟨b1, b2, b3⟩, ⟨f1, f2, f3⟩, hB, hzw⟩ := box_new hb2'
  have Hc2 := Lib.hid (Hc.out.below hB hbk)
  have HB := Lib.hid hB
  have hb2h := Lib.hid hb2'
  clear hb2 hb2' hB Hc
  go_wp2_with fail
  refine bodyPost_ret (v := .tuple #[Dt.zero.v, .int .i64 0]) (by simp [results, Tryd.results36, go_sem, b1, b2, b3, Dt.zero]) rfl ⟨rfl, ?_⟩
  exact ((HB.out.setCell (p := ⟨w.heap.size, 0, none⟩) (Nat.le_refl _) _).setCell (p := ⟨w.heap.size, 1, none⟩) (Nat.le_refl _) _).setCell (p := ⟨w.heap.size, 2, none⟩) (Nat.le_refl _) _

set_option maxRecDepth 100000 in
set_option maxHeartbeats 2000000 in
theorem refar_dec (ak ai : Int) (sa : ByteArray) (b o cap : Nat) (w : World) (hbk : b < w.heap.size) (hc : DCells w b o [⟨ak, ai, sa⟩]) (hr : rightD ⟨ak, ai, sa⟩ = true) (hany : ([⟨ak, ai, sa⟩] : List Dt).any (fun d => d.k == 0) = false) (hi : In64 ai) :
    Calls Tryd.prog 36 #[.int .i64 20, .slice (some ⟨b, o, none⟩) 1 cap] w fun e w' => e = .returned (.tuple #[(okD 3 (numZ ak ai) (decide (In64 (numZ ak ai)))).1.v, .int .i64 (okD 3 (numZ ak ai) (decide (In64 (numZ ak ai)))).2]) ∧ Below w.heap.size w w' := by
  have HN : Hid ((([⟨ak, ai, sa⟩] : List Dt).any fun d => eqD d.k d.i d.s 0 0 ⟨#[]⟩) = false) := by show _ = _; rw [← hany]; simp [eq_null hr]
  clear hany
  obtain ⟨ok, r, hok, hrr, hF⟩ := numZ_res (k := ak) hi
  have HNu := Lib.hid (fun W => number_v ak ai sa hi.1 hi.2 W)
  have HF := Lib.hid hF
  have HRs := Lib.hid (fun W => result_ok 3 (numZ ak ai) r ok hrr W)
  rw [← hok]
  clear hF hok hrr hi

  have Hc := Lib.hid hc
  clear hc hr
  go_enter Tryd.func36, Tryd.ntmps36
  go_wp2_with fail
  refine (refhas_any ([⟨ak, ai, sa⟩] : List Dt) b o cap 0 0 ⟨#[]⟩ _ (by simp) (by simp; omega) (Hc.out.below ((Below.refl _ _).alloc (Nat.le_refl _) _) hbk)).mono ?_
  rintro e w2 ⟨rfl, hb2⟩
  rw [HN.out]
  have hb2' : Below (w.heap.size + 1) (w.alloc (.cells #[.int .i64 0, .int .i64 0, .string ⟨#[]⟩] 24)) w2 := by rw [← World.size_alloc]; exact hb2
  obtain ⟨⟨b1, b2, b3⟩, ⟨f1, f2, f3⟩, hB, hzw⟩ := box_new hb2'
  have Hc2 := Lib.hid (Hc.out.below hB hbk)
  have HB := Lib.hid hB
  have hb2h := Lib.hid hb2'
  clear hb2 hb2' hB Hc
  have e0 := Hc2.out 0 (by simp)
  have d0 : dnth ([⟨ak, ai, sa⟩] : List Dt) 0 = ⟨ak, ai, sa⟩ := rfl
  rw [d0] at e0
  simp only [Nat.zero_mul, Nat.add_zero] at e0
  obtain ⟨e0, e1, e2⟩ := e0
  clear d0
  have HA0 := Lib.hid (ArW.new (k := ak) (i := ai) (s := sa) (t := 24) hb2h.out)
  go_wp2_with fail
  refine (HNu.out _).mono ?_
  rintro e w3 ⟨v3, rfl, hv3, hb⟩
  have HA3 := Lib.hid (HA0.out.next hb)
  clear hb
  obtain ⟨r0, r1, r2, h0, h1, h2, hl⟩ := HA3.out.r
  obtain ⟨a0, a1, a2, -, -, -, al⟩ := HA3.out.a
  go_wp2_with fail
  refine (HF.out _ _ hv3).mono ?_
  rintro e w4 ⟨rfl, hb⟩
  have HA4 := Lib.hid (HA3.out.next hb)
  clear hb
  obtain ⟨r0, r1, r2, h0, h1, h2, hl⟩ := HA4.out.r
  obtain ⟨a0, a1, a2, -, -, -, al⟩ := HA4.out.a
  go_wp2_with fail
  refine (HRs.out _).mono ?_
  rintro e w9 ⟨rfl, hb⟩
  have HA9 := Lib.hid (HA4.out.next hb)
  clear hb
  obtain ⟨r0, r1, r2, h0, h1, h2, hl⟩ := HA9.out.r
  have HW := Lib.hid HA9.out.below
  generalize hT1 : (okD 3 (numZ ak ai) ok).1 = T1
  generalize hT2 : (okD 3 (numZ ak ai) ok).2 = te
  have HT1 := Lib.hid hT1
  have HT2 := Lib.hid hT2
  clear hT1 hT2
  obtain ⟨tk, ti, ts⟩ := T1
  go_wp2_with fail
  refine bodyPost_ret (v := .tuple #[.agg #[.int .i64 tk, .int .i64 ti, .string ts], .int .i64 te]) (by simp [results, Tryd.results36, go_sem, r0, r1, r2]) rfl ⟨by rw [HT1.out, HT2.out], ?_⟩
  exact ((HW.out.setCell (p := ⟨w.heap.size, 0, none⟩) (Nat.le_refl _) _).setCell (p := ⟨w.heap.size, 1, none⟩) (Nat.le_refl _) _).setCell (p := ⟨w.heap.size, 2, none⟩) (Nat.le_refl _) _


set_option maxRecDepth 100000 in
set_option maxHeartbeats 2000000 in
theorem refar_neg (ak ai : Int) (sa : ByteArray) (b o cap : Nat) (w : World) (hbk : b < w.heap.size) (hc : DCells w b o [⟨ak, ai, sa⟩]) (hr : rightD ⟨ak, ai, sa⟩ = true) (hany : ([⟨ak, ai, sa⟩] : List Dt).any (fun d => d.k == 0) = false) (hi : In64 ai) :
    Calls Tryd.prog 36 #[.int .i64 1, .slice (some ⟨b, o, none⟩) 1 cap] w fun e w' => e = .returned (.tuple #[(okD ak (-ai) (decide (In64 (-ai)))).1.v, .int .i64 (okD ak (-ai) (decide (In64 (-ai)))).2]) ∧ Below w.heap.size w w' := by
  have HN : Hid ((([⟨ak, ai, sa⟩] : List Dt).any fun d => eqD d.k d.i d.s 0 0 ⟨#[]⟩) = false) := by show _ = _; rw [← hany]; simp [eq_null hr]
  clear hany
  obtain ⟨ok, r, hok, hrr, hF⟩ := neg_res hi
  have HNu := Lib.hid (fun W => of_v ai hi.1 hi.2 W)
  have HF := Lib.hid hF
  have HRs := Lib.hid (fun W => result_ok ak (-ai) r ok hrr W)
  rw [← hok]
  clear hF hok hrr hi

  have Hc := Lib.hid hc
  clear hc hr
  go_enter Tryd.func36, Tryd.ntmps36
  go_wp2_with fail
  refine (refhas_any ([⟨ak, ai, sa⟩] : List Dt) b o cap 0 0 ⟨#[]⟩ _ (by simp) (by simp; omega) (Hc.out.below ((Below.refl _ _).alloc (Nat.le_refl _) _) hbk)).mono ?_
  rintro e w2 ⟨rfl, hb2⟩
  rw [HN.out]
  have hb2' : Below (w.heap.size + 1) (w.alloc (.cells #[.int .i64 0, .int .i64 0, .string ⟨#[]⟩] 24)) w2 := by rw [← World.size_alloc]; exact hb2
  obtain ⟨⟨b1, b2, b3⟩, ⟨f1, f2, f3⟩, hB, hzw⟩ := box_new hb2'
  have Hc2 := Lib.hid (Hc.out.below hB hbk)
  have HB := Lib.hid hB
  have hb2h := Lib.hid hb2'
  clear hb2 hb2' hB Hc
  have e0 := Hc2.out 0 (by simp)
  have d0 : dnth ([⟨ak, ai, sa⟩] : List Dt) 0 = ⟨ak, ai, sa⟩ := rfl
  rw [d0] at e0
  simp only [Nat.zero_mul, Nat.add_zero] at e0
  obtain ⟨e0, e1, e2⟩ := e0
  clear d0
  have HA0 := Lib.hid (ArW.new (k := ak) (i := ai) (s := sa) (t := 24) hb2h.out)
  go_wp2_with fail
  refine (HNu.out _).mono ?_
  rintro e w3 ⟨v3, rfl, hv3, hb⟩
  have HA3 := Lib.hid (HA0.out.next hb)
  clear hb
  obtain ⟨r0, r1, r2, h0, h1, h2, hl⟩ := HA3.out.r
  obtain ⟨a0, a1, a2, -, -, -, al⟩ := HA3.out.a
  go_wp2_with fail
  refine (minus_v hv3).mono ?_
  rintro e w5 ⟨v5, rfl, hv5, hb⟩
  have HA5 := Lib.hid (HA3.out.next hb)
  clear hb
  obtain ⟨r0, r1, r2, h0, h1, h2, hl⟩ := HA5.out.r
  obtain ⟨a0, a1, a2, -, -, -, al⟩ := HA5.out.a
  go_wp2_with fail
  refine (HF.out _ _ hv5).mono ?_
  rintro e w4 ⟨rfl, hb⟩
  have HA4 := Lib.hid (HA5.out.next hb)
  clear hb
  obtain ⟨r0, r1, r2, h0, h1, h2, hl⟩ := HA4.out.r
  obtain ⟨a0, a1, a2, -, -, -, al⟩ := HA4.out.a
  go_wp2_with fail
  refine (HRs.out _).mono ?_
  rintro e w9 ⟨rfl, hb⟩
  have HA9 := Lib.hid (HA4.out.next hb)
  clear hb
  obtain ⟨r0, r1, r2, h0, h1, h2, hl⟩ := HA9.out.r
  have HW := Lib.hid HA9.out.below
  generalize hT1 : (okD ak (-ai) ok).1 = T1
  generalize hT2 : (okD ak (-ai) ok).2 = te
  have HT1 := Lib.hid hT1
  have HT2 := Lib.hid hT2
  clear hT1 hT2
  obtain ⟨tk, ti, ts⟩ := T1
  go_wp2_with fail
  refine bodyPost_ret (v := .tuple #[.agg #[.int .i64 tk, .int .i64 ti, .string ts], .int .i64 te]) (by simp [results, Tryd.results36, go_sem, r0, r1, r2]) rfl ⟨by rw [HT1.out, HT2.out], ?_⟩
  exact ((HW.out.setCell (p := ⟨w.heap.size, 0, none⟩) (Nat.le_refl _) _).setCell (p := ⟨w.heap.size, 1, none⟩) (Nat.le_refl _) _).setCell (p := ⟨w.heap.size, 2, none⟩) (Nat.le_refl _) _


set_option maxRecDepth 100000 in
set_option maxHeartbeats 2000000 in
theorem refar_absneg (ak ai : Int) (sa : ByteArray) (b o cap : Nat) (w : World) (hbk : b < w.heap.size) (hc : DCells w b o [⟨ak, ai, sa⟩]) (hr : rightD ⟨ak, ai, sa⟩ = true) (hany : ([⟨ak, ai, sa⟩] : List Dt).any (fun d => d.k == 0) = false) (hi : In64 ai) (hneg : ai < 0) :
    Calls Tryd.prog 36 #[.int .i64 19, .slice (some ⟨b, o, none⟩) 1 cap] w fun e w' => e = .returned (.tuple #[(okD ak (-ai) (decide (In64 (-ai)))).1.v, .int .i64 (okD ak (-ai) (decide (In64 (-ai)))).2]) ∧ Below w.heap.size w w' := by
  have HN : Hid ((([⟨ak, ai, sa⟩] : List Dt).any fun d => eqD d.k d.i d.s 0 0 ⟨#[]⟩) = false) := by show _ = _; rw [← hany]; simp [eq_null hr]
  clear hany
  obtain ⟨ok, r, hok, hrr, hF⟩ := neg_res hi
  have HNu := Lib.hid (fun W => of_v ai hi.1 hi.2 W)
  have HF := Lib.hid hF
  have HRs := Lib.hid (fun W => result_ok ak (-ai) r ok hrr W)
  rw [← hok]
  clear hF hok hrr hi

  have Hc := Lib.hid hc
  clear hc hr
  go_enter Tryd.func36, Tryd.ntmps36
  go_wp2_with fail
  refine (refhas_any ([⟨ak, ai, sa⟩] : List Dt) b o cap 0 0 ⟨#[]⟩ _ (by simp) (by simp; omega) (Hc.out.below ((Below.refl _ _).alloc (Nat.le_refl _) _) hbk)).mono ?_
  rintro e w2 ⟨rfl, hb2⟩
  rw [HN.out]
  have hb2' : Below (w.heap.size + 1) (w.alloc (.cells #[.int .i64 0, .int .i64 0, .string ⟨#[]⟩] 24)) w2 := by rw [← World.size_alloc]; exact hb2
  obtain ⟨⟨b1, b2, b3⟩, ⟨f1, f2, f3⟩, hB, hzw⟩ := box_new hb2'
  have Hc2 := Lib.hid (Hc.out.below hB hbk)
  have HB := Lib.hid hB
  have hb2h := Lib.hid hb2'
  clear hb2 hb2' hB Hc
  have e0 := Hc2.out 0 (by simp)
  have d0 : dnth ([⟨ak, ai, sa⟩] : List Dt) 0 = ⟨ak, ai, sa⟩ := rfl
  rw [d0] at e0
  simp only [Nat.zero_mul, Nat.add_zero] at e0
  obtain ⟨e0, e1, e2⟩ := e0
  clear d0
  have HA0 := Lib.hid (ArW.new (k := ak) (i := ai) (s := sa) (t := 24) hb2h.out)
  go_wp2_with fail
  refine (HNu.out _).mono ?_
  rintro e w3 ⟨v3, rfl, hv3, hb⟩
  have HA3 := Lib.hid (HA0.out.next hb)
  clear hb
  obtain ⟨r0, r1, r2, h0, h1, h2, hl⟩ := HA3.out.r
  obtain ⟨a0, a1, a2, -, -, -, al⟩ := HA3.out.a
  go_wp2_with fail
  refine (minus_v hv3).mono ?_
  rintro e w5 ⟨v5, rfl, hv5, hb⟩
  have HA5 := Lib.hid (HA3.out.next hb)
  clear hb
  obtain ⟨r0, r1, r2, h0, h1, h2, hl⟩ := HA5.out.r
  obtain ⟨a0, a1, a2, -, -, -, al⟩ := HA5.out.a
  go_wp2_with fail
  refine (HF.out _ _ hv5).mono ?_
  rintro e w4 ⟨rfl, hb⟩
  have HA4 := Lib.hid (HA5.out.next hb)
  clear hb
  obtain ⟨r0, r1, r2, h0, h1, h2, hl⟩ := HA4.out.r
  obtain ⟨a0, a1, a2, -, -, -, al⟩ := HA4.out.a
  go_wp2_with fail
  refine (HRs.out _).mono ?_
  rintro e w9 ⟨rfl, hb⟩
  have HA9 := Lib.hid (HA4.out.next hb)
  clear hb
  obtain ⟨r0, r1, r2, h0, h1, h2, hl⟩ := HA9.out.r
  have HW := Lib.hid HA9.out.below
  generalize hT1 : (okD ak (-ai) ok).1 = T1
  generalize hT2 : (okD ak (-ai) ok).2 = te
  have HT1 := Lib.hid hT1
  have HT2 := Lib.hid hT2
  clear hT1 hT2
  obtain ⟨tk, ti, ts⟩ := T1
  go_wp2_with fail
  refine bodyPost_ret (v := .tuple #[.agg #[.int .i64 tk, .int .i64 ti, .string ts], .int .i64 te]) (by simp [results, Tryd.results36, go_sem, r0, r1, r2]) rfl ⟨by rw [HT1.out, HT2.out], ?_⟩
  exact ((HW.out.setCell (p := ⟨w.heap.size, 0, none⟩) (Nat.le_refl _) _).setCell (p := ⟨w.heap.size, 1, none⟩) (Nat.le_refl _) _).setCell (p := ⟨w.heap.size, 2, none⟩) (Nat.le_refl _) _


set_option maxRecDepth 100000 in
set_option maxHeartbeats 2000000 in
theorem refar_abs (ak ai : Int) (sa : ByteArray) (b o cap : Nat) (w : World) (hbk : b < w.heap.size) (hc : DCells w b o [⟨ak, ai, sa⟩]) (hr : rightD ⟨ak, ai, sa⟩ = true) (hany : ([⟨ak, ai, sa⟩] : List Dt).any (fun d => d.k == 0) = false) (hneg : ¬ ai < 0) :
    Calls Tryd.prog 36 #[.int .i64 19, .slice (some ⟨b, o, none⟩) 1 cap] w fun e w' => e = .returned (.tuple #[(((⟨ak, ai, sa⟩ : Dt), (0 : Int))).1.v, .int .i64 (((⟨ak, ai, sa⟩ : Dt), (0 : Int))).2]) ∧ Below w.heap.size w w' := by
  have HN : Hid ((([⟨ak, ai, sa⟩] : List Dt).any fun d => eqD d.k d.i d.s 0 0 ⟨#[]⟩) = false) := by show _ = _; rw [← hany]; simp [eq_null hr]
  clear hany

  have Hc := Lib.hid hc
  clear hc hr
  go_enter Tryd.func36, Tryd.ntmps36
  go_wp2_with fail
  refine (refhas_any ([⟨ak, ai, sa⟩] : List Dt) b o cap 0 0 ⟨#[]⟩ _ (by simp) (by simp; omega) (Hc.out.below ((Below.refl _ _).alloc (Nat.le_refl _) _) hbk)).mono ?_
  rintro e w2 ⟨rfl, hb2⟩
  rw [HN.out]
  have hb2' : Below (w.heap.size + 1) (w.alloc (.cells #[.int .i64 0, .int .i64 0, .string ⟨#[]⟩] 24)) w2 := by rw [← World.size_alloc]; exact hb2
  obtain ⟨⟨b1, b2, b3⟩, ⟨f1, f2, f3⟩, hB, hzw⟩ := box_new hb2'
  have Hc2 := Lib.hid (Hc.out.below hB hbk)
  have HB := Lib.hid hB
  have hb2h := Lib.hid hb2'
  clear hb2 hb2' hB Hc
  have e0 := Hc2.out 0 (by simp)
  have d0 : dnth ([⟨ak, ai, sa⟩] : List Dt) 0 = ⟨ak, ai, sa⟩ := rfl
  rw [d0] at e0
  simp only [Nat.zero_mul, Nat.add_zero] at e0
  obtain ⟨e0, e1, e2⟩ := e0
  clear d0
  have HA0 := Lib.hid (ArW.new (k := ak) (i := ai) (s := sa) (t := 24) hb2h.out)
  have hsz := HB.out.size
  go_wp2_with fail
  refine bodyPost_ret (v := .tuple #[.agg #[.int .i64 ak, .int .i64 ai, .string sa], .int .i64 0]) (by simp [results, Tryd.results36, go_sem, b1, b2, b3, hzw]) rfl ⟨rfl, ?_⟩
  exact (((HB.out.setCell (p := ⟨w.heap.size, 0, none⟩) (Nat.le_refl _) _).setCell (p := ⟨w.heap.size, 1, none⟩) (Nat.le_refl _) _).setCell (p := ⟨w.heap.size, 2, none⟩) (Nat.le_refl _) _).alloc (by simp; omega) _

end Go.Proofs.YtidejjjedpdbeaaDoor

/- The document's arithmetic. The document's arithmetic at two numbers. -/
import Derived.Test.YtokbdleokihdaaaGreatDoorG17
import Derived.Test.YtokbdleokihdaaaGreatDoorG15
import Derived.Test.YtokbdleokihdaaaGreatDoorG18
import Derived.Deep.RegionHeld3
namespace Go.Proofs.YtokbdleokihdaaaGreatDoor
open Go.RowKit

/-- A number's worth. -/
def numZ (k i : Int) : Int := if k = 2 then i * 10000 else i
theorem numZ_fit {k i : Int} (h : In64 i) : (numZ k i).natAbs < 1000000 ^ 5 := by unfold numZ In64 at *; split <;> omega
theorem numZ_res {k i : Int} (h : In64 i) : ∃ (ok : Bool) (r : Int), ok = decide (In64 (numZ k i)) ∧ r = (if ok then numZ k i else 0) ∧ ∀ W v, BigV W v (numZ k i) → Calls Tryz.prog 36 #[v] W fun e w' => e = .returned (.tuple #[.int .i64 r, .bool ok]) ∧ Below W.heap.size W w' := fits_res (z := numZ k i) (Fit.of_lt (numZ_fit h) (by decide))
theorem neg_res {i : Int} (h : In64 i) : ∃ (ok : Bool) (r : Int), ok = decide (In64 (-i)) ∧ r = (if ok then -i else 0) ∧ ∀ W v, BigV W v (-i) → Calls Tryz.prog 36 #[v] W fun e w' => e = .returned (.tuple #[.int .i64 r, .bool ok]) ∧ Below W.heap.size W w' := fits_res (z := -i) (by have : (-i).natAbs < 1000000 ^ 5 := (by unfold In64 at h; omega); exact Fit.of_lt this (by decide))
/-- A number of a kind, or no value. -/
def okD (kind z : Int) (ok : Bool) : Dt × Int := if ok then (⟨kind, z, ⟨#[]⟩⟩, 0) else (Dt.zero, 4)
theorem result_ok (kind z r : Int) (ok : Bool) (hr : r = if ok then z else 0) (W : World) :
    Calls Tryz.prog 37 #[.int .i64 kind, .int .i64 r, .bool ok] W fun e w' => e = .returned (.tuple #[(okD kind z ok).1.v, .int .i64 (okD kind z ok).2]) ∧ Below W.heap.size W w' := by
  refine (result_any kind r ok W).mono ?_
  rintro e w' ⟨rfl, h⟩
  refine ⟨?_, h⟩
  subst hr
  unfold okD
  cases ok <;> rfl
/-- The boxes of arithmetic: the result, one argument. -/
structure ArW (w W : World) (n : Nat) (k i : Int) (s : ByteArray) : Prop where
  r : Bx W w.heap.size (.int .i64 0) (.int .i64 0) (.string ⟨#[]⟩)
  a : Bx W n (.int .i64 k) (.int .i64 i) (.string s)
  below : Below w.heap.size w W
  ne : n ≠ w.heap.size
theorem ArW.next {w W W' : World} {n : Nat} {k i : Int} {s : ByteArray} (h : ArW w W n k i s) (hb : Below W.heap.size W W') : ArW w W' n k i s :=
  ⟨h.r.below hb, h.a.below hb, h.below.trans (hb.mono h.below.size), h.ne⟩
theorem ArW.new {w W : World} {k i : Int} {s : ByteArray} {t : TypeId} (hb : Below (w.heap.size + 1) (w.alloc (.cells #[.int .i64 0, .int .i64 0, .string ⟨#[]⟩] 27)) W) : ArW w (W.alloc (.cells #[.int .i64 k, .int .i64 i, .string s] t)) W.heap.size k i s := by
  obtain ⟨⟨b1, b2, b3⟩, ⟨f1, f2, f3⟩, hB, hz⟩ := box_new hb
  exact ⟨(Bx.mk b1 b2 b3 f1 f2 f3 hz).alloc _, Bx.new _ _ _ _ _, hB.alloc hB.size _, by omega⟩
theorem ArW.two {w W : World} {n : Nat} {k i k' i' : Int} {s s' : ByteArray} {t : TypeId} (h : ArW w W n k i s) : ArW w (W.alloc (.cells #[.int .i64 k', .int .i64 i', .string s'] t)) n k i s ∧ ArW w (W.alloc (.cells #[.int .i64 k', .int .i64 i', .string s'] t)) W.heap.size k' i' s' :=
  ⟨⟨h.r.alloc _, h.a.alloc _, h.below.alloc h.below.size _, h.ne⟩, ⟨h.r.alloc _, Bx.new _ _ _ _ _, h.below.alloc h.below.size _, by have := h.r.lt; omega⟩⟩

set_option maxRecDepth 100000 in
set_option maxHeartbeats 2000000 in
theorem refar_null1 (op : Int) (ak ai : Int) (sa : ByteArray) (b o cap : Nat) (w : World) (hbk : b < w.heap.size) (hc : DCells w b o [⟨ak, ai, sa⟩]) (hr : rightD ⟨ak, ai, sa⟩ = true) (hany : ([⟨ak, ai, sa⟩] : List Dt).any (fun d => d.k == 0) = true) :
    Calls Tryz.prog 23 #[.int .i64 op, .slice (some ⟨b, o, none⟩) 1 cap] w fun e w' => e = .returned (.tuple #[((Dt.zero, (0 : Int))).1.v, .int .i64 ((Dt.zero, (0 : Int))).2]) ∧ Below w.heap.size w w' := by
  have HN : Hid ((([⟨ak, ai, sa⟩] : List Dt).any fun d => eqD d.k d.i d.s 0 0 ⟨#[]⟩) = true) := by show _ = _; rw [← hany]; simp [eq_null hr]
  clear hany
  have Hc := Lib.hid hc
  clear hc hr
  go_enter Tryz.func23, Tryz.ntmps23
  go_wp2_with fail
  refine (refhas_any ([⟨ak, ai, sa⟩] : List Dt) b o cap 0 0 ⟨#[]⟩ _ (by simp) (by simp; omega) (Hc.out.below ((Below.refl _ _).alloc (Nat.le_refl _) _) hbk)).mono ?_
  rintro e w2 ⟨rfl, hb2⟩
  rw [HN.out]
  have hb2' : Below (w.heap.size + 1) (w.alloc (.cells #[.int .i64 0, .int .i64 0, .string ⟨#[]⟩] 27)) w2 := by rw [← World.size_alloc]; exact hb2
  obtain ⟨⟨b1, b2, b3⟩, ⟨f1, f2, f3⟩, hB, hzw⟩ := box_new hb2'
  have Hc2 := Lib.hid (Hc.out.below hB hbk)
  have HB := Lib.hid hB
  have hb2h := Lib.hid hb2'
  clear hb2 hb2' hB Hc
  go_wp2_with fail
  refine bodyPost_ret (v := .tuple #[Dt.zero.v, .int .i64 0]) (by simp [results, Tryz.results23, go_sem, b1, b2, b3, Dt.zero]) rfl ⟨rfl, ?_⟩
  exact ((HB.out.setCell (p := ⟨w.heap.size, 0, none⟩) (Nat.le_refl _) _).setCell (p := ⟨w.heap.size, 1, none⟩) (Nat.le_refl _) _).setCell (p := ⟨w.heap.size, 2, none⟩) (Nat.le_refl _) _

set_option maxRecDepth 100000 in
set_option maxHeartbeats 2000000 in
theorem refar_null2 (op : Int) (ak ai : Int) (sa : ByteArray) (bk bi : Int) (sb : ByteArray) (b o cap : Nat) (w : World) (hbk : b < w.heap.size) (hc : DCells w b o [⟨ak, ai, sa⟩, ⟨bk, bi, sb⟩]) (hr : rightD ⟨ak, ai, sa⟩ = true) (hr' : rightD ⟨bk, bi, sb⟩ = true) (hany : ([⟨ak, ai, sa⟩, ⟨bk, bi, sb⟩] : List Dt).any (fun d => d.k == 0) = true) :
    Calls Tryz.prog 23 #[.int .i64 op, .slice (some ⟨b, o, none⟩) 2 cap] w fun e w' => e = .returned (.tuple #[((Dt.zero, (0 : Int))).1.v, .int .i64 ((Dt.zero, (0 : Int))).2]) ∧ Below w.heap.size w w' := by
  have HN : Hid ((([⟨ak, ai, sa⟩, ⟨bk, bi, sb⟩] : List Dt).any fun d => eqD d.k d.i d.s 0 0 ⟨#[]⟩) = true) := by show _ = _; rw [← hany]; simp [eq_null hr, eq_null hr']
  clear hany
  have Hc := Lib.hid hc
  clear hc hr hr'
  go_enter Tryz.func23, Tryz.ntmps23
  go_wp2_with fail
  refine (refhas_any ([⟨ak, ai, sa⟩, ⟨bk, bi, sb⟩] : List Dt) b o cap 0 0 ⟨#[]⟩ _ (by simp) (by simp; omega) (Hc.out.below ((Below.refl _ _).alloc (Nat.le_refl _) _) hbk)).mono ?_
  rintro e w2 ⟨rfl, hb2⟩
  rw [HN.out]
  have hb2' : Below (w.heap.size + 1) (w.alloc (.cells #[.int .i64 0, .int .i64 0, .string ⟨#[]⟩] 27)) w2 := by rw [← World.size_alloc]; exact hb2
  obtain ⟨⟨b1, b2, b3⟩, ⟨f1, f2, f3⟩, hB, hzw⟩ := box_new hb2'
  have Hc2 := Lib.hid (Hc.out.below hB hbk)
  have HB := Lib.hid hB
  have hb2h := Lib.hid hb2'
  clear hb2 hb2' hB Hc
  go_wp2_with fail
  refine bodyPost_ret (v := .tuple #[Dt.zero.v, .int .i64 0]) (by simp [results, Tryz.results23, go_sem, b1, b2, b3, Dt.zero]) rfl ⟨rfl, ?_⟩
  exact ((HB.out.setCell (p := ⟨w.heap.size, 0, none⟩) (Nat.le_refl _) _).setCell (p := ⟨w.heap.size, 1, none⟩) (Nat.le_refl _) _).setCell (p := ⟨w.heap.size, 2, none⟩) (Nat.le_refl _) _

set_option maxRecDepth 100000 in
set_option maxHeartbeats 2000000 in
theorem refar_dec (ak ai : Int) (sa : ByteArray) (b o cap : Nat) (w : World) (hbk : b < w.heap.size) (hc : DCells w b o [⟨ak, ai, sa⟩]) (hr : rightD ⟨ak, ai, sa⟩ = true) (hany : ([⟨ak, ai, sa⟩] : List Dt).any (fun d => d.k == 0) = false) (hi : In64 ai) :
    Calls Tryz.prog 23 #[.int .i64 20, .slice (some ⟨b, o, none⟩) 1 cap] w fun e w' => e = .returned (.tuple #[(okD 3 (numZ ak ai) (decide (In64 (numZ ak ai)))).1.v, .int .i64 (okD 3 (numZ ak ai) (decide (In64 (numZ ak ai)))).2]) ∧ Below w.heap.size w w' := by
  have HN : Hid ((([⟨ak, ai, sa⟩] : List Dt).any fun d => eqD d.k d.i d.s 0 0 ⟨#[]⟩) = false) := by show _ = _; rw [← hany]; simp [eq_null hr]
  clear hany
  obtain ⟨ok, r, hok, hrr, hF⟩ := numZ_res (k := ak) hi
  have HNu := Lib.hid (fun W => number_v ak ai sa hi.1 hi.2 W)
  have HF := Lib.hid hF
  have HRs := Lib.hid (fun W => result_ok 3 (numZ ak ai) r ok hrr W)
  rw [← hok]
  clear hF hok hrr hi

  have Hc := Lib.hid hc
  clear hc hr
  go_enter Tryz.func23, Tryz.ntmps23
  go_wp2_with fail
  refine (refhas_any ([⟨ak, ai, sa⟩] : List Dt) b o cap 0 0 ⟨#[]⟩ _ (by simp) (by simp; omega) (Hc.out.below ((Below.refl _ _).alloc (Nat.le_refl _) _) hbk)).mono ?_
  rintro e w2 ⟨rfl, hb2⟩
  rw [HN.out]
  have hb2' : Below (w.heap.size + 1) (w.alloc (.cells #[.int .i64 0, .int .i64 0, .string ⟨#[]⟩] 27)) w2 := by rw [← World.size_alloc]; exact hb2
  obtain ⟨⟨b1, b2, b3⟩, ⟨f1, f2, f3⟩, hB, hzw⟩ := box_new hb2'
  have Hc2 := Lib.hid (Hc.out.below hB hbk)
  have HB := Lib.hid hB
  have hb2h := Lib.hid hb2'
  clear hb2 hb2' hB Hc
  have e0 := Hc2.out 0 (by simp)
  have d0 : dnth ([⟨ak, ai, sa⟩] : List Dt) 0 = ⟨ak, ai, sa⟩ := rfl
  rw [d0] at e0
  simp only [Nat.zero_mul, Nat.add_zero] at e0
  obtain ⟨e0, e1, e2⟩ := e0
  clear d0
  have HA0 := Lib.hid (ArW.new (k := ak) (i := ai) (s := sa) (t := 27) hb2h.out)
  go_wp2_with fail
  refine (HNu.out _).mono ?_
  rintro e w3 ⟨v3, rfl, hv3, hb⟩
  have HA3 := Lib.hid (HA0.out.next hb)
  clear hb
  obtain ⟨r0, r1, r2, h0, h1, h2, hl⟩ := HA3.out.r
  obtain ⟨a0, a1, a2, -, -, -, al⟩ := HA3.out.a
  go_wp2_with fail
  refine (HF.out _ _ hv3).mono ?_
  rintro e w4 ⟨rfl, hb⟩
  have HA4 := Lib.hid (HA3.out.next hb)
  clear hb
  obtain ⟨r0, r1, r2, h0, h1, h2, hl⟩ := HA4.out.r
  obtain ⟨a0, a1, a2, -, -, -, al⟩ := HA4.out.a
  go_wp2_with fail
  refine (HRs.out _).mono ?_
  rintro e w9 ⟨rfl, hb⟩
  have HA9 := Lib.hid (HA4.out.next hb)
  clear hb
  obtain ⟨r0, r1, r2, h0, h1, h2, hl⟩ := HA9.out.r
  have HW := Lib.hid HA9.out.below
  generalize hT1 : (okD 3 (numZ ak ai) ok).1 = T1
  generalize hT2 : (okD 3 (numZ ak ai) ok).2 = te
  have HT1 := Lib.hid hT1
  have HT2 := Lib.hid hT2
  clear hT1 hT2
  obtain ⟨tk, ti, ts⟩ := T1
  go_wp2_with fail
  refine bodyPost_ret (v := .tuple #[.agg #[.int .i64 tk, .int .i64 ti, .string ts], .int .i64 te]) (by simp [results, Tryz.results23, go_sem, r0, r1, r2]) rfl ⟨by rw [HT1.out, HT2.out], ?_⟩
  exact ((HW.out.setCell (p := ⟨w.heap.size, 0, none⟩) (Nat.le_refl _) _).setCell (p := ⟨w.heap.size, 1, none⟩) (Nat.le_refl _) _).setCell (p := ⟨w.heap.size, 2, none⟩) (Nat.le_refl _) _


set_option maxRecDepth 100000 in
set_option maxHeartbeats 2000000 in
theorem refar_neg (ak ai : Int) (sa : ByteArray) (b o cap : Nat) (w : World) (hbk : b < w.heap.size) (hc : DCells w b o [⟨ak, ai, sa⟩]) (hr : rightD ⟨ak, ai, sa⟩ = true) (hany : ([⟨ak, ai, sa⟩] : List Dt).any (fun d => d.k == 0) = false) (hi : In64 ai) :
    Calls Tryz.prog 23 #[.int .i64 1, .slice (some ⟨b, o, none⟩) 1 cap] w fun e w' => e = .returned (.tuple #[(okD ak (-ai) (decide (In64 (-ai)))).1.v, .int .i64 (okD ak (-ai) (decide (In64 (-ai)))).2]) ∧ Below w.heap.size w w' := by
  have HN : Hid ((([⟨ak, ai, sa⟩] : List Dt).any fun d => eqD d.k d.i d.s 0 0 ⟨#[]⟩) = false) := by show _ = _; rw [← hany]; simp [eq_null hr]
  clear hany
  obtain ⟨ok, r, hok, hrr, hF⟩ := neg_res hi
  have HNu := Lib.hid (fun W => of_v ai hi.1 hi.2 W)
  have HF := Lib.hid hF
  have HRs := Lib.hid (fun W => result_ok ak (-ai) r ok hrr W)
  rw [← hok]
  clear hF hok hrr hi

  have Hc := Lib.hid hc
  clear hc hr
  go_enter Tryz.func23, Tryz.ntmps23
  go_wp2_with fail
  refine (refhas_any ([⟨ak, ai, sa⟩] : List Dt) b o cap 0 0 ⟨#[]⟩ _ (by simp) (by simp; omega) (Hc.out.below ((Below.refl _ _).alloc (Nat.le_refl _) _) hbk)).mono ?_
  rintro e w2 ⟨rfl, hb2⟩
  rw [HN.out]
  have hb2' : Below (w.heap.size + 1) (w.alloc (.cells #[.int .i64 0, .int .i64 0, .string ⟨#[]⟩] 27)) w2 := by rw [← World.size_alloc]; exact hb2
  obtain ⟨⟨b1, b2, b3⟩, ⟨f1, f2, f3⟩, hB, hzw⟩ := box_new hb2'
  have Hc2 := Lib.hid (Hc.out.below hB hbk)
  have HB := Lib.hid hB
  have hb2h := Lib.hid hb2'
  clear hb2 hb2' hB Hc
  have e0 := Hc2.out 0 (by simp)
  have d0 : dnth ([⟨ak, ai, sa⟩] : List Dt) 0 = ⟨ak, ai, sa⟩ := rfl
  rw [d0] at e0
  simp only [Nat.zero_mul, Nat.add_zero] at e0
  obtain ⟨e0, e1, e2⟩ := e0
  clear d0
  have HA0 := Lib.hid (ArW.new (k := ak) (i := ai) (s := sa) (t := 27) hb2h.out)
  go_wp2_with fail
  refine (HNu.out _).mono ?_
  rintro e w3 ⟨v3, rfl, hv3, hb⟩
  have HA3 := Lib.hid (HA0.out.next hb)
  clear hb
  obtain ⟨r0, r1, r2, h0, h1, h2, hl⟩ := HA3.out.r
  obtain ⟨a0, a1, a2, -, -, -, al⟩ := HA3.out.a
  go_wp2_with fail
  refine (minus_v hv3).mono ?_
  rintro e w5 ⟨v5, rfl, hv5, hb⟩
  have HA5 := Lib.hid (HA3.out.next hb)
  clear hb
  obtain ⟨r0, r1, r2, h0, h1, h2, hl⟩ := HA5.out.r
  obtain ⟨a0, a1, a2, -, -, -, al⟩ := HA5.out.a
  go_wp2_with fail
  refine (HF.out _ _ hv5).mono ?_
  rintro e w4 ⟨rfl, hb⟩
  have HA4 := Lib.hid (HA5.out.next hb)
  clear hb
  obtain ⟨r0, r1, r2, h0, h1, h2, hl⟩ := HA4.out.r
  obtain ⟨a0, a1, a2, -, -, -, al⟩ := HA4.out.a
  go_wp2_with fail
  refine (HRs.out _).mono ?_
  rintro e w9 ⟨rfl, hb⟩
  have HA9 := Lib.hid (HA4.out.next hb)
  clear hb
  obtain ⟨r0, r1, r2, h0, h1, h2, hl⟩ := HA9.out.r
  have HW := Lib.hid HA9.out.below
  generalize hT1 : (okD ak (-ai) ok).1 = T1
  generalize hT2 : (okD ak (-ai) ok).2 = te
  have HT1 := Lib.hid hT1
  have HT2 := Lib.hid hT2
  clear hT1 hT2
  obtain ⟨tk, ti, ts⟩ := T1
  go_wp2_with fail
  refine bodyPost_ret (v := .tuple #[.agg #[.int .i64 tk, .int .i64 ti, .string ts], .int .i64 te]) (by simp [results, Tryz.results23, go_sem, r0, r1, r2]) rfl ⟨by rw [HT1.out, HT2.out], ?_⟩
  exact ((HW.out.setCell (p := ⟨w.heap.size, 0, none⟩) (Nat.le_refl _) _).setCell (p := ⟨w.heap.size, 1, none⟩) (Nat.le_refl _) _).setCell (p := ⟨w.heap.size, 2, none⟩) (Nat.le_refl _) _


set_option maxRecDepth 100000 in
set_option maxHeartbeats 2000000 in
theorem refar_absneg (ak ai : Int) (sa : ByteArray) (b o cap : Nat) (w : World) (hbk : b < w.heap.size) (hc : DCells w b o [⟨ak, ai, sa⟩]) (hr : rightD ⟨ak, ai, sa⟩ = true) (hany : ([⟨ak, ai, sa⟩] : List Dt).any (fun d => d.k == 0) = false) (hi : In64 ai) (hneg : ai < 0) :
    Calls Tryz.prog 23 #[.int .i64 19, .slice (some ⟨b, o, none⟩) 1 cap] w fun e w' => e = .returned (.tuple #[(okD ak (-ai) (decide (In64 (-ai)))).1.v, .int .i64 (okD ak (-ai) (decide (In64 (-ai)))).2]) ∧ Below w.heap.size w w' := by
  have HN : Hid ((([⟨ak, ai, sa⟩] : List Dt).any fun d => eqD d.k d.i d.s 0 0 ⟨#[]⟩) = false) := by show _ = _; rw [← hany]; simp [eq_null hr]
  clear hany
  obtain ⟨ok, r, hok, hrr, hF⟩ := neg_res hi
  have HNu := Lib.hid (fun W => of_v ai hi.1 hi.2 W)
  have HF := Lib.hid hF
  have HRs := Lib.hid (fun W => result_ok ak (-ai) r ok hrr W)
  rw [← hok]
  clear hF hok hrr hi

  have Hc := Lib.hid hc
  clear hc hr
  go_enter Tryz.func23, Tryz.ntmps23
  go_wp2_with fail
  refine (refhas_any ([⟨ak, ai, sa⟩] : List Dt) b o cap 0 0 ⟨#[]⟩ _ (by simp) (by simp; omega) (Hc.out.below ((Below.refl _ _).alloc (Nat.le_refl _) _) hbk)).mono ?_
  rintro e w2 ⟨rfl, hb2⟩
  rw [HN.out]
  have hb2' : Below (w.heap.size + 1) (w.alloc (.cells #[.int .i64 0, .int .i64 0, .string ⟨#[]⟩] 27)) w2 := by rw [← World.size_alloc]; exact hb2
  obtain ⟨⟨b1, b2, b3⟩, ⟨f1, f2, f3⟩, hB, hzw⟩ := box_new hb2'
  have Hc2 := Lib.hid (Hc.out.below hB hbk)
  have HB := Lib.hid hB
  have hb2h := Lib.hid hb2'
  clear hb2 hb2' hB Hc
  have e0 := Hc2.out 0 (by simp)
  have d0 : dnth ([⟨ak, ai, sa⟩] : List Dt) 0 = ⟨ak, ai, sa⟩ := rfl
  rw [d0] at e0
  simp only [Nat.zero_mul, Nat.add_zero] at e0
  obtain ⟨e0, e1, e2⟩ := e0
  clear d0
  have HA0 := Lib.hid (ArW.new (k := ak) (i := ai) (s := sa) (t := 27) hb2h.out)
  go_wp2_with fail
  refine (HNu.out _).mono ?_
  rintro e w3 ⟨v3, rfl, hv3, hb⟩
  have HA3 := Lib.hid (HA0.out.next hb)
  clear hb
  obtain ⟨r0, r1, r2, h0, h1, h2, hl⟩ := HA3.out.r
  obtain ⟨a0, a1, a2, -, -, -, al⟩ := HA3.out.a
  go_wp2_with fail
  refine (minus_v hv3).mono ?_
  rintro e w5 ⟨v5, rfl, hv5, hb⟩
  have HA5 := Lib.hid (HA3.out.next hb)
  clear hb
  obtain ⟨r0, r1, r2, h0, h1, h2, hl⟩ := HA5.out.r
  obtain ⟨a0, a1, a2, -, -, -, al⟩ := HA5.out.a
  go_wp2_with fail
  refine (HF.out _ _ hv5).mono ?_
  rintro e w4 ⟨rfl, hb⟩
  have HA4 := Lib.hid (HA5.out.next hb)
  clear hb
  obtain ⟨r0, r1, r2, h0, h1, h2, hl⟩ := HA4.out.r
  obtain ⟨a0, a1, a2, -, -, -, al⟩ := HA4.out.a
  go_wp2_with fail
  refine (HRs.out _).mono ?_
  rintro e w9 ⟨rfl, hb⟩
  have HA9 := Lib.hid (HA4.out.next hb)
  clear hb
  obtain ⟨r0, r1, r2, h0, h1, h2, hl⟩ := HA9.out.r
  have HW := Lib.hid HA9.out.below
  generalize hT1 : (okD ak (-ai) ok).1 = T1
  generalize hT2 : (okD ak (-ai) ok).2 = te
  have HT1 := Lib.hid hT1
  have HT2 := Lib.hid hT2
  clear hT1 hT2
  obtain ⟨tk, ti, ts⟩ := T1
  go_wp2_with fail
  refine bodyPost_ret (v := .tuple #[.agg #[.int .i64 tk, .int .i64 ti, .string ts], .int .i64 te]) (by simp [results, Tryz.results23, go_sem, r0, r1, r2]) rfl ⟨by rw [HT1.out, HT2.out], ?_⟩
  exact ((HW.out.setCell (p := ⟨w.heap.size, 0, none⟩) (Nat.le_refl _) _).setCell (p := ⟨w.heap.size, 1, none⟩) (Nat.le_refl _) _).setCell (p := ⟨w.heap.size, 2, none⟩) (Nat.le_refl _) _


set_option maxRecDepth 100000 in
set_option maxHeartbeats 2000000 in
theorem refar_abs (ak ai : Int) (sa : ByteArray) (b o cap : Nat) (w : World) (hbk : b < w.heap.size) (hc : DCells w b o [⟨ak, ai, sa⟩]) (hr : rightD ⟨ak, ai, sa⟩ = true) (hany : ([⟨ak, ai, sa⟩] : List Dt).any (fun d => d.k == 0) = false) (hneg : ¬ ai < 0) :
    Calls Tryz.prog 23 #[.int .i64 19, .slice (some ⟨b, o, none⟩) 1 cap] w fun e w' => e = .returned (.tuple #[(((⟨ak, ai, sa⟩ : Dt), (0 : Int))).1.v, .int .i64 (((⟨ak, ai, sa⟩ : Dt), (0 : Int))).2]) ∧ Below w.heap.size w w' := by
  have HN : Hid ((([⟨ak, ai, sa⟩] : List Dt).any fun d => eqD d.k d.i d.s 0 0 ⟨#[]⟩) = false) := by show _ = _; rw [← hany]; simp [eq_null hr]
  clear hany

  have Hc := Lib.hid hc
  clear hc hr
  go_enter Tryz.func23, Tryz.ntmps23
  go_wp2_with fail
  refine (refhas_any ([⟨ak, ai, sa⟩] : List Dt) b o cap 0 0 ⟨#[]⟩ _ (by simp) (by simp; omega) (Hc.out.below ((Below.refl _ _).alloc (Nat.le_refl _) _) hbk)).mono ?_
  rintro e w2 ⟨rfl, hb2⟩
  rw [HN.out]
  have hb2' : Below (w.heap.size + 1) (w.alloc (.cells #[.int .i64 0, .int .i64 0, .string ⟨#[]⟩] 27)) w2 := by rw [← World.size_alloc]; exact hb2
  obtain ⟨⟨b1, b2, b3⟩, ⟨f1, f2, f3⟩, hB, hzw⟩ := box_new hb2'
  have Hc2 := Lib.hid (Hc.out.below hB hbk)
  have HB := Lib.hid hB
  have hb2h := Lib.hid hb2'
  clear hb2 hb2' hB Hc
  have e0 := Hc2.out 0 (by simp)
  have d0 : dnth ([⟨ak, ai, sa⟩] : List Dt) 0 = ⟨ak, ai, sa⟩ := rfl
  rw [d0] at e0
  simp only [Nat.zero_mul, Nat.add_zero] at e0
  obtain ⟨e0, e1, e2⟩ := e0
  clear d0
  have HA0 := Lib.hid (ArW.new (k := ak) (i := ai) (s := sa) (t := 27) hb2h.out)
  have hsz := HB.out.size
  go_wp2_with fail
  refine bodyPost_ret (v := .tuple #[.agg #[.int .i64 ak, .int .i64 ai, .string sa], .int .i64 0]) (by simp [results, Tryz.results23, go_sem, b1, b2, b3, hzw]) rfl ⟨rfl, ?_⟩
  exact (((HB.out.setCell (p := ⟨w.heap.size, 0, none⟩) (Nat.le_refl _) _).setCell (p := ⟨w.heap.size, 1, none⟩) (Nat.le_refl _) _).setCell (p := ⟨w.heap.size, 2, none⟩) (Nat.le_refl _) _).alloc (by simp; omega) _

end Go.Proofs.YtokbdleokihdaaaGreatDoor
namespace Go.Proofs.YtokbdleokihdaaaGreatDoor
open Go.RowKit

theorem arS_next {w W W' : World} {na nb : Nat} {x0 x1 x2 y0 y1 y2 : Value} (h : Below w.heap.size w W ∧ na < W.heap.size ∧ nb < W.heap.size ∧ (W.cell? ⟨na, 0, none⟩ = some x0 ∧ W.cell? ⟨na, 1, none⟩ = some x1 ∧ W.cell? ⟨na, 2, none⟩ = some x2) ∧ (W.cell? ⟨nb, 0, none⟩ = some y0 ∧ W.cell? ⟨nb, 1, none⟩ = some y1 ∧ W.cell? ⟨nb, 2, none⟩ = some y2)) (hb : Below W.heap.size W W') : Below w.heap.size w W' ∧ na < W'.heap.size ∧ nb < W'.heap.size ∧ (W'.cell? ⟨na, 0, none⟩ = some x0 ∧ W'.cell? ⟨na, 1, none⟩ = some x1 ∧ W'.cell? ⟨na, 2, none⟩ = some x2) ∧ (W'.cell? ⟨nb, 0, none⟩ = some y0 ∧ W'.cell? ⟨nb, 1, none⟩ = some y1 ∧ W'.cell? ⟨nb, 2, none⟩ = some y2) := by
  obtain ⟨h1, h2, h3, ⟨a0, a1, a2⟩, b0, b1, b2⟩ := h
  have hs := hb.size
  refine ⟨h1.trans (hb.mono h1.size), by omega, by omega, ⟨?_, ?_, ?_⟩, ?_, ?_, ?_⟩
  · rw [hb.cell (p := ⟨na, 0, none⟩) h2]; exact a0
  · rw [hb.cell (p := ⟨na, 1, none⟩) h2]; exact a1
  · rw [hb.cell (p := ⟨na, 2, none⟩) h2]; exact a2
  · rw [hb.cell (p := ⟨nb, 0, none⟩) h3]; exact b0
  · rw [hb.cell (p := ⟨nb, 1, none⟩) h3]; exact b1
  · rw [hb.cell (p := ⟨nb, 2, none⟩) h3]; exact b2
theorem arS_drew {w W : World} {na nb : Nat} {x0 x1 x2 y0 y1 y2 : Value} (h : Below w.heap.size w W ∧ na < W.heap.size ∧ nb < W.heap.size ∧ (W.cell? ⟨na, 0, none⟩ = some x0 ∧ W.cell? ⟨na, 1, none⟩ = some x1 ∧ W.cell? ⟨na, 2, none⟩ = some x2) ∧ (W.cell? ⟨nb, 0, none⟩ = some y0 ∧ W.cell? ⟨nb, 1, none⟩ = some y1 ∧ W.cell? ⟨nb, 2, none⟩ = some y2)) : Below w.heap.size w W.drew ∧ na < W.drew.heap.size ∧ nb < W.drew.heap.size ∧ (W.drew.cell? ⟨na, 0, none⟩ = some x0 ∧ W.drew.cell? ⟨na, 1, none⟩ = some x1 ∧ W.drew.cell? ⟨na, 2, none⟩ = some x2) ∧ (W.drew.cell? ⟨nb, 0, none⟩ = some y0 ∧ W.drew.cell? ⟨nb, 1, none⟩ = some y1 ∧ W.drew.cell? ⟨nb, 2, none⟩ = some y2) := arS_next h (Below.refl _ _).drew
theorem arS_store {w W : World} {na nb : Nat} {x0 x1 x2 y0 y1 y2 : Value} {x y z : Value} (ha : na ≠ w.heap.size) (hn : nb ≠ w.heap.size) (h : Below w.heap.size w W ∧ na < W.heap.size ∧ nb < W.heap.size ∧ (W.cell? ⟨na, 0, none⟩ = some x0 ∧ W.cell? ⟨na, 1, none⟩ = some x1 ∧ W.cell? ⟨na, 2, none⟩ = some x2) ∧ (W.cell? ⟨nb, 0, none⟩ = some y0 ∧ W.cell? ⟨nb, 1, none⟩ = some y1 ∧ W.cell? ⟨nb, 2, none⟩ = some y2)) : Below w.heap.size w (((W.setCell ⟨w.heap.size, 0, none⟩ x).setCell ⟨w.heap.size, 1, none⟩ y).setCell ⟨w.heap.size, 2, none⟩ z) ∧ na < (((W.setCell ⟨w.heap.size, 0, none⟩ x).setCell ⟨w.heap.size, 1, none⟩ y).setCell ⟨w.heap.size, 2, none⟩ z).heap.size ∧ nb < (((W.setCell ⟨w.heap.size, 0, none⟩ x).setCell ⟨w.heap.size, 1, none⟩ y).setCell ⟨w.heap.size, 2, none⟩ z).heap.size ∧ ((((W.setCell ⟨w.heap.size, 0, none⟩ x).setCell ⟨w.heap.size, 1, none⟩ y).setCell ⟨w.heap.size, 2, none⟩ z).cell? ⟨na, 0, none⟩ = some x0 ∧ (((W.setCell ⟨w.heap.size, 0, none⟩ x).setCell ⟨w.heap.size, 1, none⟩ y).setCell ⟨w.heap.size, 2, none⟩ z).cell? ⟨na, 1, none⟩ = some x1 ∧ (((W.setCell ⟨w.heap.size, 0, none⟩ x).setCell ⟨w.heap.size, 1, none⟩ y).setCell ⟨w.heap.size, 2, none⟩ z).cell? ⟨na, 2, none⟩ = some x2) ∧ ((((W.setCell ⟨w.heap.size, 0, none⟩ x).setCell ⟨w.heap.size, 1, none⟩ y).setCell ⟨w.heap.size, 2, none⟩ z).cell? ⟨nb, 0, none⟩ = some y0 ∧ (((W.setCell ⟨w.heap.size, 0, none⟩ x).setCell ⟨w.heap.size, 1, none⟩ y).setCell ⟨w.heap.size, 2, none⟩ z).cell? ⟨nb, 1, none⟩ = some y1 ∧ (((W.setCell ⟨w.heap.size, 0, none⟩ x).setCell ⟨w.heap.size, 1, none⟩ y).setCell ⟨w.heap.size, 2, none⟩ z).cell? ⟨nb, 2, none⟩ = some y2) := by
  obtain ⟨h1, h2, h3, ⟨a0, a1, a2⟩, b0, b1, b2⟩ := h
  refine ⟨((h1.setCell (p := ⟨w.heap.size, 0, none⟩) (Nat.le_refl _) _).setCell (p := ⟨w.heap.size, 1, none⟩) (Nat.le_refl _) _).setCell (p := ⟨w.heap.size, 2, none⟩) (Nat.le_refl _) _, by simpa using h2, by simpa using h3, ⟨?_, ?_, ?_⟩, ?_, ?_, ?_⟩
  all_goals
    first
      | rw [World.cell?_setCell_far _ _ _ _ (fun e => ha e.symm), World.cell?_setCell_far _ _ _ _ (fun e => ha e.symm), World.cell?_setCell_far _ _ _ _ (fun e => ha e.symm)]; assumption
      | rw [World.cell?_setCell_far _ _ _ _ (fun e => hn e.symm), World.cell?_setCell_far _ _ _ _ (fun e => hn e.symm), World.cell?_setCell_far _ _ _ _ (fun e => hn e.symm)]; assumption
theorem arS_of {w W : World} {na nb : Nat} {ak ai bk bi : Int} {sa sb : ByteArray} (h : ArW w W na ak ai sa) (g : ArW w W nb bk bi sb) : Below w.heap.size w W ∧ na < W.heap.size ∧ nb < W.heap.size ∧ (W.cell? ⟨na, 0, none⟩ = some (.int .i64 ak) ∧ W.cell? ⟨na, 1, none⟩ = some (.int .i64 ai) ∧ W.cell? ⟨na, 2, none⟩ = some (.string sa)) ∧ (W.cell? ⟨nb, 0, none⟩ = some (.int .i64 bk) ∧ W.cell? ⟨nb, 1, none⟩ = some (.int .i64 bi) ∧ W.cell? ⟨nb, 2, none⟩ = some (.string sb)) :=
  ⟨h.below, h.a.lt, g.a.lt, ⟨h.a.c0, h.a.c1, h.a.c2⟩, g.a.c0, g.a.c1, g.a.c2⟩

set_option maxRecDepth 100000 in
set_option maxHeartbeats 2000000 in
theorem refar_int (op : Int) (ai : Int) (sa : ByteArray) (bi : Int) (sb : ByteArray) (b o cap : Nat) (w : World) (hbk : b < w.heap.size) (hc : DCells w b o [⟨2, ai, sa⟩, ⟨2, bi, sb⟩]) (hr : rightD ⟨2, ai, sa⟩ = true) (hr' : rightD ⟨2, bi, sb⟩ = true) (hany : ([⟨2, ai, sa⟩, ⟨2, bi, sb⟩] : List Dt).any (fun d => d.k == 0) = false) (hop : op = 3 ∨ op = 4 ∨ op = 5 ∨ op = 6) (hi : In64 ai) (hj : In64 bi) :
    Calls Tryz.prog 23 #[.int .i64 op, .slice (some ⟨b, o, none⟩) 2 cap] w fun e w' => e = .returned (.tuple #[(twoD 2 op ai bi 1).1.v, .int .i64 (twoD 2 op ai bi 1).2]) ∧ Below w.heap.size w w' := by
  have HN : Hid ((([⟨2, ai, sa⟩, ⟨2, bi, sb⟩] : List Dt).any fun d => eqD d.k d.i d.s 0 0 ⟨#[]⟩) = false) := by show _ = _; rw [← hany]; simp [eq_null hr, eq_null hr']
  clear hany
  obtain ⟨⟨tk, ti, ts⟩, te, hT⟩ : ∃ T te, twoD 2 op (ai) (bi) 1 = (T, te) := ⟨_, _, rfl⟩
  have HT2 := Lib.hid (fun (W : World) (v1 v2 : Value) (h1 : BigV W v1 (ai)) (h2 : BigV W v2 (bi)) => show Calls Tryz.prog 40 #[.int .i64 op, .int .i64 2, v1, v2, .int .i64 1] W (fun e w' => e = .returned (.tuple #[.agg #[.int .i64 tk, .int .i64 ti, .string ts], .int .i64 te]) ∧ Below W.heap.size W w') from by
    have := two_any op 2 1 hop h1 h2 hi hj (by decide) (by decide)
    rw [hT] at this
    exact this)
  have HT := Lib.hid hT
  have o20 : (op == 20) = false := by simp; omega
  have o1 : (op == 1) = false := by simp; omega
  have o19 : (op == 19) = false := by simp; omega
  clear hT hop
  have H1 := Lib.hid (fun W => of_v ai hi.1 hi.2 W)
  have H2 := Lib.hid (fun W => of_v bi hj.1 hj.2 W)
  clear hi hj

  have Hc := Lib.hid hc
  clear hc hr hr'
  go_enter Tryz.func23, Tryz.ntmps23
  go_wp2_with fail
  refine (refhas_any ([⟨2, ai, sa⟩, ⟨2, bi, sb⟩] : List Dt) b o cap 0 0 ⟨#[]⟩ _ (by simp) (by simp; omega) (Hc.out.below ((Below.refl _ _).alloc (Nat.le_refl _) _) hbk)).mono ?_
  rintro e w2 ⟨rfl, hb2⟩
  rw [HN.out]
  have hb2' : Below (w.heap.size + 1) (w.alloc (.cells #[.int .i64 0, .int .i64 0, .string ⟨#[]⟩] 27)) w2 := by rw [← World.size_alloc]; exact hb2
  obtain ⟨⟨b1, b2, b3⟩, ⟨f1, f2, f3⟩, hB, hzw⟩ := box_new hb2'
  have Hc2 := Lib.hid (Hc.out.below hB hbk)
  have HB := Lib.hid hB
  have hb2h := Lib.hid hb2'
  clear hb2 hb2' hB Hc
  have e0 := Hc2.out 0 (by simp)
  have d0 : dnth ([⟨2, ai, sa⟩, ⟨2, bi, sb⟩] : List Dt) 0 = ⟨2, ai, sa⟩ := rfl
  rw [d0] at e0
  simp only [Nat.zero_mul, Nat.add_zero] at e0
  obtain ⟨e0, e1, e2⟩ := e0
  clear d0
  have HA0 := Lib.hid (ArW.new (k := 2) (i := ai) (s := sa) (t := 27) hb2h.out)
  have g0 := Hc2.out 1 (by simp)
  have d0 : dnth ([⟨2, ai, sa⟩, ⟨2, bi, sb⟩] : List Dt) 1 = ⟨2, bi, sb⟩ := rfl
  rw [d0] at g0
  simp only [Nat.one_mul] at g0
  obtain ⟨g0, g1, g2⟩ := g0
  clear d0
  have hbk2 : b < w2.heap.size := by omega
  have HP := Lib.hid (HA0.out.two (k' := 2) (i' := bi) (s' := sb) (t := 27))
  go_wp2_with fail
  generalize ((w2.alloc (.cells #[.int .i64 2, .int .i64 ai, .string sa] 27)).alloc (.cells #[.int .i64 2, .int .i64 bi, .string sb] 27)) = W0 at *
  have HA := Lib.hid HP.out.1
  have HBb := HP.out.2
  rw [World.size_alloc] at HBb
  replace HBb := Lib.hid HBb
  clear HP HA0 e0 e1 e2 g0 g1 g2 Hc2 hb2h HB b1 b2 b3 f1 f2 f3
  have hna : w2.heap.size ≠ w.heap.size := HA.out.ne
  have hnb : w2.heap.size + 1 ≠ w.heap.size := HBb.out.ne
  have HS0 := Lib.hid (arS_of HA.out HBb.out)
  have KR0 := Lib.hid HA.out.r
  go_region_held3 (fun w' => Below w.heap.size w w' ∧ w2.heap.size < w'.heap.size ∧ (w2.heap.size + 1) < w'.heap.size ∧ (w'.cell? ⟨w2.heap.size, 0, none⟩ = some (.int .i64 2) ∧ w'.cell? ⟨w2.heap.size, 1, none⟩ = some (.int .i64 ai) ∧ w'.cell? ⟨w2.heap.size, 2, none⟩ = some (.string sa)) ∧ (w'.cell? ⟨(w2.heap.size + 1), 0, none⟩ = some (.int .i64 2) ∧ w'.cell? ⟨(w2.heap.size + 1), 1, none⟩ = some (.int .i64 bi) ∧ w'.cell? ⟨(w2.heap.size + 1), 2, none⟩ = some (.string sb))) ((clear H1 H2 HT2; first | (with_reducible exact arS_drew HS0.out) | (with_reducible exact arS_next ‹_› ‹_›) | (with_reducible exact arS_store hna hnb ‹_›)))
    (first
      | (go_at_call_of 39 (Value.int IntKind.i64 ai); (with_reducible refine (H1.out _).mono ?_); rintro e w3 ⟨v3, rfl, hv3, hb3⟩; have KR3 := Lib.hid (KR0.out.drew.below hb3))
      | (go_at_call_of 39 (Value.int IntKind.i64 bi); (with_reducible refine (H2.out _).mono ?_); rintro e w4 ⟨v4, rfl, hv4, hb4⟩; have KR4 := Lib.hid (KR3.out.below hb4); have hv3' := hv3.below hb4)
      | (go_at_call 40; (with_reducible refine (HT2.out _ _ _ hv3' hv4).mono ?_); rintro e w5 ⟨rfl, hb5⟩; have KR5 := Lib.hid (KR4.out.below hb5); obtain ⟨r0, r1, r2, h0, h1, h2, hl⟩ := KR5.out))
  all_goals
    go_wp2_with fail
    refine bodyPost_ret (v := .tuple #[.agg #[.int .i64 tk, .int .i64 ti, .string ts], .int .i64 te]) (by simp [results, Tryz.results23, go_sem, r0, r1, r2]) rfl ⟨by rw [HT.out], ?_⟩
    exact (‹_ ∧ _› : Below w.heap.size w _ ∧ _).1


set_option maxRecDepth 100000 in
set_option maxHeartbeats 2000000 in
theorem refar_bad (op : Int) (ak ai : Int) (sa : ByteArray) (bk bi : Int) (sb : ByteArray) (b o cap : Nat) (w : World) (hbk : b < w.heap.size) (hc : DCells w b o [⟨ak, ai, sa⟩, ⟨bk, bi, sb⟩]) (hr : rightD ⟨ak, ai, sa⟩ = true) (hr' : rightD ⟨bk, bi, sb⟩ = true) (hany : ([⟨ak, ai, sa⟩, ⟨bk, bi, sb⟩] : List Dt).any (fun d => d.k == 0) = false) (hop : op = 3 ∨ op = 4 ∨ op = 5 ∨ op = 6) (hi : In64 ai) (hj : In64 bi) (ka kb : Bool) (hka : (ak == 2) = ka) (hkb : (bk == 2) = kb) (hkk : (ka && kb) = false) (hbad : ¬ (In64 (numZ ak ai) ∧ In64 (numZ bk bi))) :
    Calls Tryz.prog 23 #[.int .i64 op, .slice (some ⟨b, o, none⟩) 2 cap] w fun e w' => e = .returned (.tuple #[((Dt.zero, (4 : Int))).1.v, .int .i64 ((Dt.zero, (4 : Int))).2]) ∧ Below w.heap.size w w' := by
  have HN : Hid ((([⟨ak, ai, sa⟩, ⟨bk, bi, sb⟩] : List Dt).any fun d => eqD d.k d.i d.s 0 0 ⟨#[]⟩) = false) := by show _ = _; rw [← hany]; simp [eq_null hr, eq_null hr']
  clear hany
  obtain ⟨okx, rx, hokx, hrx, hFx⟩ := numZ_res (k := ak) hi
  obtain ⟨oky, ry, hoky, hry, hFy⟩ := numZ_res (k := bk) hj
  have HFx := Lib.hid hFx
  have HFy := Lib.hid hFy
  have hxy : okx = true → oky = false := by
    intro h
    rw [hokx, decide_eq_true_eq] at h
    rw [hoky, decide_eq_false_iff_not]
    exact fun h2 => hbad ⟨h, h2⟩
  have HXY := Lib.hid hxy
  have H1 := Lib.hid (fun (W : World) => show Calls Tryz.prog 35 #[.agg #[.int .i64 ak, .int .i64 ai, .string sa]] W (fun e w' => ∃ v, e = .returned v ∧ BigV w' v (numZ ak ai) ∧ Below W.heap.size W w') from number_v ak ai sa hi.1 hi.2 W)
  have H2 := Lib.hid (fun (W : World) => show Calls Tryz.prog 35 #[.agg #[.int .i64 bk, .int .i64 bi, .string sb]] W (fun e w' => ∃ v, e = .returned v ∧ BigV w' v (numZ bk bi) ∧ Below W.heap.size W w') from number_v bk bi sb hj.1 hj.2 W)
  have o20 : (op == 20) = false := by simp; omega
  have o1 : (op == 1) = false := by simp; omega
  have o19 : (op == 19) = false := by simp; omega
  clear hi hj hop hbad hokx hrx hoky hry hFx hFy hxy

  have Hc := Lib.hid hc
  clear hc hr hr'
  go_enter Tryz.func23, Tryz.ntmps23
  go_wp2_with fail
  refine (refhas_any ([⟨ak, ai, sa⟩, ⟨bk, bi, sb⟩] : List Dt) b o cap 0 0 ⟨#[]⟩ _ (by simp) (by simp; omega) (Hc.out.below ((Below.refl _ _).alloc (Nat.le_refl _) _) hbk)).mono ?_
  rintro e w2 ⟨rfl, hb2⟩
  rw [HN.out]
  have hb2' : Below (w.heap.size + 1) (w.alloc (.cells #[.int .i64 0, .int .i64 0, .string ⟨#[]⟩] 27)) w2 := by rw [← World.size_alloc]; exact hb2
  obtain ⟨⟨b1, b2, b3⟩, ⟨f1, f2, f3⟩, hB, hzw⟩ := box_new hb2'
  have Hc2 := Lib.hid (Hc.out.below hB hbk)
  have HB := Lib.hid hB
  have hb2h := Lib.hid hb2'
  clear hb2 hb2' hB Hc
  rcases ka with _ | _ <;> rcases kb with _ | _
  case true.true => simp at hkk
  all_goals
    clear hkk
    have e0 := Hc2.out 0 (by simp)
    have d0 : dnth ([⟨ak, ai, sa⟩, ⟨bk, bi, sb⟩] : List Dt) 0 = ⟨ak, ai, sa⟩ := rfl
    rw [d0] at e0
    simp only [Nat.zero_mul, Nat.add_zero] at e0
    obtain ⟨e0, e1, e2⟩ := e0
    clear d0
    have HA0 := Lib.hid (ArW.new (k := ak) (i := ai) (s := sa) (t := 27) hb2h.out)
    have g0 := Hc2.out 1 (by simp)
    have d0 : dnth ([⟨ak, ai, sa⟩, ⟨bk, bi, sb⟩] : List Dt) 1 = ⟨bk, bi, sb⟩ := rfl
    rw [d0] at g0
    simp only [Nat.one_mul] at g0
    obtain ⟨g0, g1, g2⟩ := g0
    clear d0
    have hbk2 : b < w2.heap.size := by omega
    have HP := Lib.hid (HA0.out.two (k' := bk) (i' := bi) (s' := sb) (t := 27))
    go_wp2_with fail
    generalize ((w2.alloc (.cells #[.int .i64 ak, .int .i64 ai, .string sa] 27)).alloc (.cells #[.int .i64 bk, .int .i64 bi, .string sb] 27)) = W0 at *
    have HA := Lib.hid HP.out.1
    have HBb := HP.out.2
    rw [World.size_alloc] at HBb
    replace HBb := Lib.hid HBb
    clear HP HA0 e0 e1 e2 g0 g1 g2 Hc2 hb2h HB b1 b2 b3 f1 f2 f3
    obtain ⟨p0, p1, p2, -, -, -, pl⟩ := HA.out.a
    obtain ⟨q0, q1, q2, -, -, -, ql⟩ := HBb.out.a
    refine (H1.out _).mono ?_
    rintro e w3 ⟨v3, rfl, hv3, hb⟩
    replace HA := Lib.hid (HA.out.next hb)
    replace HBb := Lib.hid (HBb.out.next hb)
    clear hb q0 q1 q2 p0 p1 p2 pl ql
    obtain ⟨p0, p1, p2, -, -, -, pl⟩ := HA.out.a
    obtain ⟨q0, q1, q2, -, -, -, ql⟩ := HBb.out.a
    go_wp2_with fail
    refine (HFx.out _ _ hv3).mono ?_
    rintro e w4 ⟨rfl, hb⟩
    replace HA := Lib.hid (HA.out.next hb)
    replace HBb := Lib.hid (HBb.out.next hb)
    clear hb q0 q1 q2 p0 p1 p2 pl ql
    obtain ⟨p0, p1, p2, -, -, -, pl⟩ := HA.out.a
    obtain ⟨q0, q1, q2, -, -, -, ql⟩ := HBb.out.a
    go_wp2_with fail
    refine (H2.out _).mono ?_
    rintro e w5 ⟨v5, rfl, hv5, hb⟩
    replace HA := Lib.hid (HA.out.next hb)
    replace HBb := Lib.hid (HBb.out.next hb)
    clear hb q0 q1 q2 p0 p1 p2 pl ql
    obtain ⟨p0, p1, p2, -, -, -, pl⟩ := HA.out.a
    obtain ⟨q0, q1, q2, -, -, -, ql⟩ := HBb.out.a
    go_wp2_with fail
    refine (HFy.out _ _ hv5).mono ?_
    rintro e w6 ⟨rfl, hb⟩
    replace HA := Lib.hid (HA.out.next hb)
    replace HBb := Lib.hid (HBb.out.next hb)
    clear hb q0 q1 q2 p0 p1 p2 pl ql
    obtain ⟨p0, p1, p2, -, -, -, pl⟩ := HA.out.a
    obtain ⟨q0, q1, q2, -, -, -, ql⟩ := HBb.out.a

    rcases okx with _ | _
    · obtain ⟨r0, r1, r2, h0, h1, h2, hl⟩ := HA.out.r
      have HW := Lib.hid HA.out.below
      go_wp2_with fail
      refine bodyPost_ret (v := .tuple #[Dt.zero.v, .int .i64 4]) (by simp [results, Tryz.results23, go_sem, r0, r1, r2, Dt.zero]) rfl ⟨rfl, ?_⟩
      exact ((HW.out.setCell (p := ⟨w.heap.size, 0, none⟩) (Nat.le_refl _) _).setCell (p := ⟨w.heap.size, 1, none⟩) (Nat.le_refl _) _).setCell (p := ⟨w.heap.size, 2, none⟩) (Nat.le_refl _) _
    · obtain rfl : oky = false := HXY.out rfl
      obtain ⟨r0, r1, r2, h0, h1, h2, hl⟩ := HA.out.r
      have HW := Lib.hid HA.out.below
      go_wp2_with fail
      refine bodyPost_ret (v := .tuple #[Dt.zero.v, .int .i64 4]) (by simp [results, Tryz.results23, go_sem, r0, r1, r2, Dt.zero]) rfl ⟨rfl, ?_⟩
      exact ((HW.out.setCell (p := ⟨w.heap.size, 0, none⟩) (Nat.le_refl _) _).setCell (p := ⟨w.heap.size, 1, none⟩) (Nat.le_refl _) _).setCell (p := ⟨w.heap.size, 2, none⟩) (Nat.le_refl _) _


set_option maxRecDepth 100000 in
set_option maxHeartbeats 2000000 in
theorem refar_good (op : Int) (ak ai : Int) (sa : ByteArray) (bk bi : Int) (sb : ByteArray) (b o cap : Nat) (w : World) (hbk : b < w.heap.size) (hc : DCells w b o [⟨ak, ai, sa⟩, ⟨bk, bi, sb⟩]) (hr : rightD ⟨ak, ai, sa⟩ = true) (hr' : rightD ⟨bk, bi, sb⟩ = true) (hany : ([⟨ak, ai, sa⟩, ⟨bk, bi, sb⟩] : List Dt).any (fun d => d.k == 0) = false) (hop : op = 3 ∨ op = 4 ∨ op = 5 ∨ op = 6) (hi : In64 ai) (hj : In64 bi) (ka kb : Bool) (hka : (ak == 2) = ka) (hkb : (bk == 2) = kb) (hkk : (ka && kb) = false) (hgx : In64 (numZ ak ai)) (hgy : In64 (numZ bk bi)) :
    Calls Tryz.prog 23 #[.int .i64 op, .slice (some ⟨b, o, none⟩) 2 cap] w fun e w' => e = .returned (.tuple #[(twoD 3 op (numZ ak ai) (numZ bk bi) 10000).1.v, .int .i64 (twoD 3 op (numZ ak ai) (numZ bk bi) 10000).2]) ∧ Below w.heap.size w w' := by
  have HN : Hid ((([⟨ak, ai, sa⟩, ⟨bk, bi, sb⟩] : List Dt).any fun d => eqD d.k d.i d.s 0 0 ⟨#[]⟩) = false) := by show _ = _; rw [← hany]; simp [eq_null hr, eq_null hr']
  clear hany
  obtain ⟨okx, rx, hokx, hrx, hFx⟩ := numZ_res (k := ak) hi
  obtain ⟨oky, ry, hoky, hry, hFy⟩ := numZ_res (k := bk) hj
  have HFx := Lib.hid hFx
  have HFy := Lib.hid hFy
  obtain rfl : okx = true := by rw [hokx]; exact decide_eq_true hgx
  obtain rfl : oky = true := by rw [hoky]; exact decide_eq_true hgy
  have H1 := Lib.hid (fun (W : World) => show Calls Tryz.prog 35 #[.agg #[.int .i64 ak, .int .i64 ai, .string sa]] W (fun e w' => ∃ v, e = .returned v ∧ BigV w' v (numZ ak ai) ∧ Below W.heap.size W w') from number_v ak ai sa hi.1 hi.2 W)
  have H2 := Lib.hid (fun (W : World) => show Calls Tryz.prog 35 #[.agg #[.int .i64 bk, .int .i64 bi, .string sb]] W (fun e w' => ∃ v, e = .returned v ∧ BigV w' v (numZ bk bi) ∧ Below W.heap.size W w') from number_v bk bi sb hj.1 hj.2 W)
  obtain ⟨⟨tk, ti, ts⟩, te, hT⟩ : ∃ T te, twoD 3 op (numZ ak ai) (numZ bk bi) 10000 = (T, te) := ⟨_, _, rfl⟩
  have HT2 := Lib.hid (fun (W : World) (v1 v2 : Value) (h1 : BigV W v1 (numZ ak ai)) (h2 : BigV W v2 (numZ bk bi)) => show Calls Tryz.prog 40 #[.int .i64 op, .int .i64 3, v1, v2, .int .i64 10000] W (fun e w' => e = .returned (.tuple #[.agg #[.int .i64 tk, .int .i64 ti, .string ts], .int .i64 te]) ∧ Below W.heap.size W w') from by
    have := two_any op 3 10000 hop h1 h2 hgx hgy (by decide) (by decide)
    rw [hT] at this
    exact this)
  have HT := Lib.hid hT
  have o20 : (op == 20) = false := by simp; omega
  have o1 : (op == 1) = false := by simp; omega
  have o19 : (op == 19) = false := by simp; omega
  clear hT hop
  clear hi hj hokx hrx hoky hry hFx hFy hgx hgy

  have Hc := Lib.hid hc
  clear hc hr hr'
  go_enter Tryz.func23, Tryz.ntmps23
  go_wp2_with fail
  refine (refhas_any ([⟨ak, ai, sa⟩, ⟨bk, bi, sb⟩] : List Dt) b o cap 0 0 ⟨#[]⟩ _ (by simp) (by simp; omega) (Hc.out.below ((Below.refl _ _).alloc (Nat.le_refl _) _) hbk)).mono ?_
  rintro e w2 ⟨rfl, hb2⟩
  rw [HN.out]
  have hb2' : Below (w.heap.size + 1) (w.alloc (.cells #[.int .i64 0, .int .i64 0, .string ⟨#[]⟩] 27)) w2 := by rw [← World.size_alloc]; exact hb2
  obtain ⟨⟨b1, b2, b3⟩, ⟨f1, f2, f3⟩, hB, hzw⟩ := box_new hb2'
  have Hc2 := Lib.hid (Hc.out.below hB hbk)
  have HB := Lib.hid hB
  have hb2h := Lib.hid hb2'
  clear hb2 hb2' hB Hc
  rcases ka with _ | _ <;> rcases kb with _ | _
  case true.true => simp at hkk
  all_goals
    clear hkk
    have e0 := Hc2.out 0 (by simp)
    have d0 : dnth ([⟨ak, ai, sa⟩, ⟨bk, bi, sb⟩] : List Dt) 0 = ⟨ak, ai, sa⟩ := rfl
    rw [d0] at e0
    simp only [Nat.zero_mul, Nat.add_zero] at e0
    obtain ⟨e0, e1, e2⟩ := e0
    clear d0
    have HA0 := Lib.hid (ArW.new (k := ak) (i := ai) (s := sa) (t := 27) hb2h.out)
    have g0 := Hc2.out 1 (by simp)
    have d0 : dnth ([⟨ak, ai, sa⟩, ⟨bk, bi, sb⟩] : List Dt) 1 = ⟨bk, bi, sb⟩ := rfl
    rw [d0] at g0
    simp only [Nat.one_mul] at g0
    obtain ⟨g0, g1, g2⟩ := g0
    clear d0
    have hbk2 : b < w2.heap.size := by omega
    have HP := Lib.hid (HA0.out.two (k' := bk) (i' := bi) (s' := sb) (t := 27))
    go_wp2_with fail
    generalize ((w2.alloc (.cells #[.int .i64 ak, .int .i64 ai, .string sa] 27)).alloc (.cells #[.int .i64 bk, .int .i64 bi, .string sb] 27)) = W0 at *
    have HA := Lib.hid HP.out.1
    have HBb := HP.out.2
    rw [World.size_alloc] at HBb
    replace HBb := Lib.hid HBb
    clear HP HA0 e0 e1 e2 g0 g1 g2 Hc2 hb2h HB b1 b2 b3 f1 f2 f3
    obtain ⟨p0, p1, p2, -, -, -, pl⟩ := HA.out.a
    obtain ⟨q0, q1, q2, -, -, -, ql⟩ := HBb.out.a
    refine (H1.out _).mono ?_
    rintro e w3 ⟨v3, rfl, hv3, hb⟩
    replace HA := Lib.hid (HA.out.next hb)
    replace HBb := Lib.hid (HBb.out.next hb)
    clear hb q0 q1 q2 p0 p1 p2 pl ql
    obtain ⟨p0, p1, p2, -, -, -, pl⟩ := HA.out.a
    obtain ⟨q0, q1, q2, -, -, -, ql⟩ := HBb.out.a
    go_wp2_with fail
    refine (HFx.out _ _ hv3).mono ?_
    rintro e w4 ⟨rfl, hb⟩
    replace HA := Lib.hid (HA.out.next hb)
    replace HBb := Lib.hid (HBb.out.next hb)
    clear hb q0 q1 q2 p0 p1 p2 pl ql
    obtain ⟨p0, p1, p2, -, -, -, pl⟩ := HA.out.a
    obtain ⟨q0, q1, q2, -, -, -, ql⟩ := HBb.out.a
    go_wp2_with fail
    refine (H2.out _).mono ?_
    rintro e w5 ⟨v5, rfl, hv5, hb⟩
    replace HA := Lib.hid (HA.out.next hb)
    replace HBb := Lib.hid (HBb.out.next hb)
    clear hb q0 q1 q2 p0 p1 p2 pl ql
    obtain ⟨p0, p1, p2, -, -, -, pl⟩ := HA.out.a
    obtain ⟨q0, q1, q2, -, -, -, ql⟩ := HBb.out.a
    go_wp2_with fail
    refine (HFy.out _ _ hv5).mono ?_
    rintro e w6 ⟨rfl, hb⟩
    replace HA := Lib.hid (HA.out.next hb)
    replace HBb := Lib.hid (HBb.out.next hb)
    clear hb q0 q1 q2 p0 p1 p2 pl ql
    obtain ⟨p0, p1, p2, -, -, -, pl⟩ := HA.out.a
    obtain ⟨q0, q1, q2, -, -, -, ql⟩ := HBb.out.a
    clear p0 p1 p2 q0 q1 q2 pl ql
    have hna : w2.heap.size ≠ w.heap.size := HA.out.ne
    have hnb : w2.heap.size + 1 ≠ w.heap.size := HBb.out.ne
    have HS0 := Lib.hid (arS_of HA.out HBb.out)
    have KR0 := Lib.hid HA.out.r
    clear HA HBb HFx HFy hv3 hv5
    go_wp2_with fail
    go_region_held3 (fun w' => Below w.heap.size w w' ∧ w2.heap.size < w'.heap.size ∧ (w2.heap.size + 1) < w'.heap.size ∧ (w'.cell? ⟨w2.heap.size, 0, none⟩ = some (.int .i64 ak) ∧ w'.cell? ⟨w2.heap.size, 1, none⟩ = some (.int .i64 ai) ∧ w'.cell? ⟨w2.heap.size, 2, none⟩ = some (.string sa)) ∧ (w'.cell? ⟨(w2.heap.size + 1), 0, none⟩ = some (.int .i64 bk) ∧ w'.cell? ⟨(w2.heap.size + 1), 1, none⟩ = some (.int .i64 bi) ∧ w'.cell? ⟨(w2.heap.size + 1), 2, none⟩ = some (.string sb))) ((clear H1 H2 HT2; first | (with_reducible exact arS_drew HS0.out) | (with_reducible exact arS_next ‹_› ‹_›) | (with_reducible exact arS_store hna hnb ‹_›)))
      (first
        | (go_at_call_of 35 (Value.int IntKind.i64 ai); (with_reducible refine (H1.out _).mono ?_); rintro e w7 ⟨v7, rfl, hv7, hb3⟩; have KR3 := Lib.hid (KR0.out.drew.below hb3))
        | (go_at_call_of 35 (Value.int IntKind.i64 bi); (with_reducible refine (H2.out _).mono ?_); rintro e w8 ⟨v4, rfl, hv4, hb4⟩; have KR4 := Lib.hid (KR3.out.below hb4); have hv7' := hv7.below hb4)
        | (go_at_call 40; (with_reducible refine (HT2.out _ _ _ hv7' hv4).mono ?_); rintro e w9 ⟨rfl, hb5⟩; have KR5 := Lib.hid (KR4.out.below hb5); obtain ⟨r0, r1, r2, h0, h1, h2, hl⟩ := KR5.out))
    all_goals
      go_wp2_with fail
      refine bodyPost_ret (v := .tuple #[.agg #[.int .i64 tk, .int .i64 ti, .string ts], .int .i64 te]) (by simp [results, Tryz.results23, go_sem, r0, r1, r2]) rfl ⟨by rw [HT.out], ?_⟩
      exact (‹_ ∧ _› : Below w.heap.size w _ ∧ _).1

end Go.Proofs.YtokbdleokihdaaaGreatDoor

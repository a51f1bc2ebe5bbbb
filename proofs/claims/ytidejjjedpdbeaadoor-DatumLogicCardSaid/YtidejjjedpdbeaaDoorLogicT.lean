/- The walk of DatumLogic: it answers true. -/
import Derived.Test.YtidejjjedpdbeaaDoorDatApply
import Derived.Test.YtidejjjedpdbeaaDoorRefRight
import Derived.Test.YtidejjjedpdbeaaDoorDatEq
namespace Go.Proofs.YtidejjjedpdbeaaDoor
open Go.RowKit

/-- A truth, or none, as a value. -/
def tv : Option Bool → Dt
  | none => Dt.zero
  | some b => truthD b
def andO (a b : Option Bool) : Option Bool := if a = some false ∨ b = some false then some false else if a = none ∨ b = none then none else some true
def orO (a b : Option Bool) : Option Bool := if a = some true ∨ b = some true then some true else if a = none ∨ b = none then none else some false
def notO : Option Bool → Option Bool
  | none => none
  | some b => some (!b)

theorem tv_right (x : Option Bool) : rightD (tv x) = true := by
  rcases x with _ | _ | _ <;> simp [tv, rightD, rightN, Dt.zero, truthD] <;> rfl
theorem not_tv (x : Option Bool) : notR (tv x) = (tv (notO x), 0) := by
  rcases x with _ | _ | _ <;> rfl
theorem and_tv (x y : Option Bool) : andorR 0 (tv x) (tv y) = (tv (andO x y), 0) := by
  rcases x with _ | _ | _ <;> rcases y with _ | _ | _ <;> rfl
theorem or_tv (x y : Option Bool) : andorR 1 (tv x) (tv y) = (tv (orO x y), 0) := by
  rcases x with _ | _ | _ <;> rcases y with _ | _ | _ <;> rfl
theorem and_comm' (a b : Option Bool) : andO b a = andO a b := by rcases a with _ | _ | _ <;> rcases b with _ | _ | _ <;> rfl
theorem or_comm' (a b : Option Bool) : orO b a = orO a b := by rcases a with _ | _ | _ <;> rcases b with _ | _ | _ <;> rfl
theorem and_assoc' (a b c : Option Bool) : andO (andO a b) c = andO a (andO b c) := by rcases a with _ | _ | _ <;> rcases b with _ | _ | _ <;> rcases c with _ | _ | _ <;> rfl
theorem mirror (a b : Option Bool) : orO (notO a) (notO b) = notO (andO a b) := by rcases a with _ | _ | _ <;> rcases b with _ | _ | _ <;> rfl
theorem not_not' (a : Option Bool) : notO (notO a) = a := by rcases a with _ | _ | _ <;> rfl
theorem distr (a b c : Option Bool) : orO (andO a b) (andO a c) = andO a (orO b c) := by rcases a with _ | _ | _ <;> rcases b with _ | _ | _ <;> rcases c with _ | _ | _ <;> rfl
theorem and_self' (a : Option Bool) : andO a a = a := by rcases a with _ | _ | _ <;> rfl
theorem eqD_self (k i : Int) (s : ByteArray) : eqD k i s k i s = true := eqD_iff.2 ⟨rfl, rfl, rfl⟩
attribute [go_sem] eqD_self

/-- A value that may be and is NULL or a BOOL is a truth, or none. -/
theorem tv_of {d : Dt} (h : rightD d = true) (hk : d.k = 0 ∨ d.k = 1) : ∃ x, d = tv x := by
  obtain ⟨k, i, s⟩ := d
  rcases hk with hk | hk
  · simp only at hk
    subst hk
    simp [rightD, rightN] at h
    obtain ⟨rfl, h2⟩ := h
    rw [empty_of (s := s) (by simpa using h2)]
    exact ⟨none, rfl⟩
  · simp only at hk
    subst hk
    simp [rightD, rightN] at h
    obtain ⟨h1, h2⟩ := h
    rw [empty_of (s := s) (by simpa using h2)]
    rcases h1 with rfl | rfl
    · exact ⟨some false, rfl⟩
    · exact ⟨some true, rfl⟩

set_option maxHeartbeats 1000000 in
theorem and_any (x y : Option Bool) (w : World) (hT : Tabs w) :
    Calls Tryd.prog 14 #[(tv x).v, (tv y).v] w fun e w' => e = .returned (tv (andO x y)).v ∧ Below w.heap.size w w' := by
  have hx := Lib.hid (tv_right x)
  have hy := Lib.hid (tv_right y)
  have HE := Lib.hid (and_tv x y)
  generalize tv x = d at *
  generalize tv y = d' at *
  generalize hr : tv (andO x y) = r at *
  clear hr
  obtain ⟨ak, ai, sa⟩ := d
  obtain ⟨bk, bi, sb⟩ := d'
  obtain ⟨rk, ri, rs⟩ := r
  have HT := Lib.hid hT
  clear hT
  go_enter Tryd.func14, Tryd.ntmps14
  go_wp2_with fail
  have HB3 := boxes3 w #[.int .i64 ak, .int .i64 ai, .string sa] #[.int .i64 bk, .int .i64 bi, .string sb] #[.int .i64 0, .int .i64 0, .string ⟨#[]⟩] 24 24 24
  have hfz : ∀ i, (((w.alloc (.cells #[.int .i64 ak, .int .i64 ai, .string sa] 24)).alloc (.cells #[.int .i64 bk, .int .i64 bi, .string sb] 24)).alloc (.cells #[.int .i64 0, .int .i64 0, .string ⟨#[]⟩] 24)).frozen? ⟨w.heap.size + 1 + 1, i, none⟩ = false := fun i => World.frozen?_alloc_at _ _ _ _ (by simp)
  generalize (((w.alloc (.cells #[.int .i64 ak, .int .i64 ai, .string sa] 24)).alloc (.cells #[.int .i64 bk, .int .i64 bi, .string sb] 24)).alloc (.cells #[.int .i64 0, .int .i64 0, .string ⟨#[]⟩] 24)) = W0 at *
  obtain ⟨hB, hz, -, -, a2⟩ := HB3
  have e3 : w.heap.size + 1 + 1 + 1 = W0.heap.size := by omega
  rw [e3]
  refine (apply_and ⟨ak, ai, sa⟩ ⟨bk, bi, sb⟩ W0.heap.size 0 _ _ (by simp) (dcells_new2 _ _ _ _ _ _ _ _) ((HT.out.below hB).below ((Below.refl _ _).alloc (Nat.le_refl _) _)) hx.out hy.out).mono ?_
  rintro e w1 ⟨rfl, hb⟩
  rw [HE.out]
  have hb1 : Below W0.heap.size W0 w1 := ((Below.refl W0.heap.size W0).alloc (Nat.le_refl _) _).trans (hb.mono (by simp))
  obtain ⟨⟨b1, b2, b3⟩, f1, f2, f3⟩ := box_kept hb1 (n := w.heap.size + 1 + 1) (by omega) (by rw [a2]; rfl) (by rw [a2]; rfl) (by rw [a2]; rfl) hfz
  have HB := Lib.hid (hB.trans (hb1.mono (by omega)))
  have hzw := hb1.size
  have hlt : w.heap.size + 1 + 1 < w1.heap.size := by omega
  clear hb hb1 a2 hfz hB e3 hz
  go_wp2_with fail
  refine bodyPost_ret (v := .agg #[.int .i64 rk, .int .i64 ri, .string rs]) (by simp [results, Tryd.results14, go_sem, b1, b2, b3, World.cell?_alloc_past, hlt]) rfl ⟨rfl, ?_⟩
  repeat (first | exact HB.out | refine Below.alloc ?_ (by first | omega | (simp; done) | (simp; omega)) _ | refine Below.setCell ?_ (by first | omega | (simp; done) | (simp; omega)) _)

set_option maxHeartbeats 1000000 in
theorem or_any (x y : Option Bool) (w : World) (hT : Tabs w) :
    Calls Tryd.prog 15 #[(tv x).v, (tv y).v] w fun e w' => e = .returned (tv (orO x y)).v ∧ Below w.heap.size w w' := by
  have hx := Lib.hid (tv_right x)
  have hy := Lib.hid (tv_right y)
  have HE := Lib.hid (or_tv x y)
  generalize tv x = d at *
  generalize tv y = d' at *
  generalize hr : tv (orO x y) = r at *
  clear hr
  obtain ⟨ak, ai, sa⟩ := d
  obtain ⟨bk, bi, sb⟩ := d'
  obtain ⟨rk, ri, rs⟩ := r
  have HT := Lib.hid hT
  clear hT
  go_enter Tryd.func15, Tryd.ntmps15
  go_wp2_with fail
  have HB3 := boxes3 w #[.int .i64 ak, .int .i64 ai, .string sa] #[.int .i64 bk, .int .i64 bi, .string sb] #[.int .i64 0, .int .i64 0, .string ⟨#[]⟩] 24 24 24
  have hfz : ∀ i, (((w.alloc (.cells #[.int .i64 ak, .int .i64 ai, .string sa] 24)).alloc (.cells #[.int .i64 bk, .int .i64 bi, .string sb] 24)).alloc (.cells #[.int .i64 0, .int .i64 0, .string ⟨#[]⟩] 24)).frozen? ⟨w.heap.size + 1 + 1, i, none⟩ = false := fun i => World.frozen?_alloc_at _ _ _ _ (by simp)
  generalize (((w.alloc (.cells #[.int .i64 ak, .int .i64 ai, .string sa] 24)).alloc (.cells #[.int .i64 bk, .int .i64 bi, .string sb] 24)).alloc (.cells #[.int .i64 0, .int .i64 0, .string ⟨#[]⟩] 24)) = W0 at *
  obtain ⟨hB, hz, -, -, a2⟩ := HB3
  have e3 : w.heap.size + 1 + 1 + 1 = W0.heap.size := by omega
  rw [e3]
  refine (apply_or ⟨ak, ai, sa⟩ ⟨bk, bi, sb⟩ W0.heap.size 0 _ _ (by simp) (dcells_new2 _ _ _ _ _ _ _ _) ((HT.out.below hB).below ((Below.refl _ _).alloc (Nat.le_refl _) _)) hx.out hy.out).mono ?_
  rintro e w1 ⟨rfl, hb⟩
  rw [HE.out]
  have hb1 : Below W0.heap.size W0 w1 := ((Below.refl W0.heap.size W0).alloc (Nat.le_refl _) _).trans (hb.mono (by simp))
  obtain ⟨⟨b1, b2, b3⟩, f1, f2, f3⟩ := box_kept hb1 (n := w.heap.size + 1 + 1) (by omega) (by rw [a2]; rfl) (by rw [a2]; rfl) (by rw [a2]; rfl) hfz
  have HB := Lib.hid (hB.trans (hb1.mono (by omega)))
  have hzw := hb1.size
  have hlt : w.heap.size + 1 + 1 < w1.heap.size := by omega
  clear hb hb1 a2 hfz hB e3 hz
  go_wp2_with fail
  refine bodyPost_ret (v := .agg #[.int .i64 rk, .int .i64 ri, .string rs]) (by simp [results, Tryd.results15, go_sem, b1, b2, b3, World.cell?_alloc_past, hlt]) rfl ⟨rfl, ?_⟩
  repeat (first | exact HB.out | refine Below.alloc ?_ (by first | omega | (simp; done) | (simp; omega)) _ | refine Below.setCell ?_ (by first | omega | (simp; done) | (simp; omega)) _)

set_option maxHeartbeats 1000000 in
theorem not_any (x : Option Bool) (w : World) (hT : Tabs w) :
    Calls Tryd.prog 16 #[(tv x).v] w fun e w' => e = .returned (tv (notO x)).v ∧ Below w.heap.size w w' := by
  have hx := Lib.hid (tv_right x)
  have HE := Lib.hid (not_tv x)
  generalize tv x = d at *
  generalize hr : tv (notO x) = r at *
  clear hr
  obtain ⟨ak, ai, sa⟩ := d
  obtain ⟨rk, ri, rs⟩ := r
  have HT := Lib.hid hT
  clear hT
  go_enter Tryd.func16, Tryd.ntmps16
  go_wp2_with fail
  have HB3 := boxes2 w #[.int .i64 ak, .int .i64 ai, .string sa] #[.int .i64 0, .int .i64 0, .string ⟨#[]⟩] 24 24
  have hfz : ∀ i, ((w.alloc (.cells #[.int .i64 ak, .int .i64 ai, .string sa] 24)).alloc (.cells #[.int .i64 0, .int .i64 0, .string ⟨#[]⟩] 24)).frozen? ⟨w.heap.size + 1, i, none⟩ = false := fun i => World.frozen?_alloc_at _ _ _ _ (by simp)
  generalize ((w.alloc (.cells #[.int .i64 ak, .int .i64 ai, .string sa] 24)).alloc (.cells #[.int .i64 0, .int .i64 0, .string ⟨#[]⟩] 24)) = W0 at *
  obtain ⟨hB, hz, -, a2⟩ := HB3
  have e3 : w.heap.size + 1 + 1 = W0.heap.size := by omega
  rw [e3]
  refine (apply_not ⟨ak, ai, sa⟩ W0.heap.size 0 _ _ (by simp) (dcells_new1 _ _ _ _ _) ((HT.out.below hB).below ((Below.refl _ _).alloc (Nat.le_refl _) _)) hx.out).mono ?_
  rintro e w1 ⟨rfl, hb⟩
  rw [HE.out]
  have hb1 : Below W0.heap.size W0 w1 := ((Below.refl W0.heap.size W0).alloc (Nat.le_refl _) _).trans (hb.mono (by simp))
  obtain ⟨⟨b1, b2, b3⟩, f1, f2, f3⟩ := box_kept hb1 (n := w.heap.size + 1) (by omega) (by rw [a2]; rfl) (by rw [a2]; rfl) (by rw [a2]; rfl) hfz
  have HB := Lib.hid (hB.trans (hb1.mono (by omega)))
  have hzw := hb1.size
  have hlt : w.heap.size + 1 < w1.heap.size := by omega
  clear hb hb1 a2 hfz hB e3 hz
  go_wp2_with fail
  refine bodyPost_ret (v := .agg #[.int .i64 rk, .int .i64 ri, .string rs]) (by simp [results, Tryd.results16, go_sem, b1, b2, b3, World.cell?_alloc_past, hlt]) rfl ⟨rfl, ?_⟩
  repeat (first | exact HB.out | refine Below.alloc ?_ (by first | omega | (simp; done) | (simp; omega)) _ | refine Below.setCell ?_ (by first | omega | (simp; done) | (simp; omega)) _)
end Go.Proofs.YtidejjjedpdbeaaDoor

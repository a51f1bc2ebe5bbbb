/- The walk of DatumRights: it answers true. -/
import Derived.Test.YtidejjjedpdbeaaDoorPrintRT
import Derived.Test.YtidejjjedpdbeaaDoorRefCmp
namespace Go.Proofs.YtidejjjedpdbeaaDoor
open Go.RowKit

/-- The cell of bytealg.MaxLen holds some number. -/
def MaxL (m : Int) (w : World) : Prop := w.cell? ⟨2, 0, none⟩ = some (.int .i64 m)
theorem MaxL.below {m : Int} {w w' : World} (h : MaxL m w) (hb : Below w.heap.size w w') : MaxL m w' :=
  (hb.cell (p := ⟨2, 0, none⟩) (World.block_lt_of_cell? _ _ h)).trans h
theorem right_kinds {d : Dt} (h : rightD d = true) : d.k = 0 ∨ d.k = 1 ∨ d.k = 2 ∨ d.k = 3 ∨ d.k = 4 ∨ d.k = 5 := by
  unfold rightD at h
  by_cases h4 : d.k = 4
  · omega
  · rw [if_neg h4] at h
    unfold rightN at h
    by_cases h0 : d.k = 0
    · omega
    · rw [if_neg h0] at h
      by_cases h1 : d.k = 1
      · omega
      · rw [if_neg h1] at h
        by_cases h2 : d.k = 2 ∨ d.k = 3
        · omega
        · rw [if_neg h2] at h
          by_cases h5 : d.k = 5
          · omega
          · rw [if_neg h5] at h; cases h
theorem print_all (d : Dt) (w : World) (hT : Tabs w) (hP : Pow w) (m : Int) (hm : MaxL m w) (i0 : -9223372036854775808 ≤ d.i) (i1 : d.i ≤ 9223372036854775807) :
    Calls Tryd.prog 20 #[d.v] w fun e w' => e = .returned (.string (bs (printF d))) ∧ Below w.heap.size w w' := by
  cases hr : rightD d
  · exact print_bad d w hT hr
  · rcases right_kinds hr with h | h | h | h | h | h
    · exact print_small d w hT hr (.inl h)
    · exact print_small d w hT hr (.inr h)
    · exact print_int d w hT hP hr h i0 i1
    · exact print_dec d w hT hP hr h i0 i1
    · exact print_text d w hT m hm hr h
    · exact print_bytes d w hT hr h
theorem rprint_all (d : Dt) (w : World) (hP : Pow w) (i0 : -9223372036854775808 ≤ d.i) (i1 : d.i ≤ 9223372036854775807) :
    Calls Tryd.prog 21 #[d.v] w fun e w' => e = .returned (.string (bs (printF d))) ∧ Below w.heap.size w w' := by
  cases hr : rightD d
  · exact rprint_bad d w hr
  · rcases right_kinds hr with h | h | h | h | h | h
    · exact rprint_null d w hr h
    · by_cases h1 : d.i = 1
      · exact rprint_true d w h1 hr h
      · exact rprint_false d w h1 hr h
    · exact rprint_int d w hP i0 i1 hr h
    · exact rprint_dec d w hP i0 i1 hr h
    · exact rprint_text d w hr h
    · exact rprint_bytes d w hr h

/-- What the law keeps while calls go on. -/
structure RK (w : World) (x y : Array Value) (m : Int) (w' : World) : Prop where
  b : Below w.heap.size w w'
  t : Tabs w'
  p : Pow w'
  mx : MaxL m w'
  n : w.heap.size + 2 ≤ w'.heap.size
  c : (∀ i, w'.cell? ⟨w.heap.size, i, none⟩ = x[i]?) ∧ (∀ i, w'.cell? ⟨w.heap.size + 1, i, none⟩ = y[i]?)
theorem RK.step {w : World} {x y : Array Value} {m : Int} {w1 w2 : World} (h : RK w x y m w1) (hb : Below w1.heap.size w1 w2) : RK w x y m w2 := by
  have hn := h.n
  refine ⟨h.b.trans (hb.mono (by omega)), h.t.below hb, h.p.below hb, h.mx.below hb, by have := hb.size; omega, fun i => ?_, fun i => ?_⟩
  · rw [hb.cell (p := ⟨w.heap.size, i, none⟩) (by show w.heap.size < _; omega)]; exact h.c.1 i
  · rw [hb.cell (p := ⟨w.heap.size + 1, i, none⟩) (by show w.heap.size + 1 < _; omega)]; exact h.c.2 i
theorem rk_next {w : World} {x y : Array Value} {m : Int} (u : GW (RK w x y m)) {w1 : World} (hb : Below u.w.heap.size u.w w1) : ∃ u' : GW (RK w x y m), w1 = u'.w := ⟨⟨w1, u.h.step hb⟩, rfl⟩

set_option maxRecDepth 100000 in
set_option maxHeartbeats 2000000 in
theorem rights_walk (ak ai bk bi : Int) (sa sb : ByteArray) (w : World) (hT : Tabs w) (hP : Pow w) (m : Int) (hm : MaxL m w) (i0 : -9223372036854775808 ≤ ai) (i1 : ai ≤ 9223372036854775807) :
    Calls Tryd.prog 8 #[.agg #[.int .i64 ak, .int .i64 ai, .string sa], .agg #[.int .i64 bk, .int .i64 bi, .string sb]] w fun e w' => e = .returned (.bool true) ∧ Below w.heap.size w w' := by
  obtain ⟨hB, hz, a0, a1⟩ := boxes2 w #[.int .i64 ak, .int .i64 ai, .string sa] #[.int .i64 bk, .int .i64 bi, .string sb] 24 24
  have hk0 : RK w #[.int .i64 ak, .int .i64 ai, .string sa] #[.int .i64 bk, .int .i64 bi, .string sb] m ((w.alloc (.cells #[.int .i64 ak, .int .i64 ai, .string sa] 24)).alloc (.cells #[.int .i64 bk, .int .i64 bi, .string sb] 24)) :=
    ⟨hB, hT.below hB, hP.below hB, hm.below hB, by omega, a0, a1⟩
  have HK := Lib.hid hk0
  have H1 : Hid (∀ u : GW (RK w #[.int .i64 ak, .int .i64 ai, .string sa] #[.int .i64 bk, .int .i64 bi, .string sb] m), Calls Tryd.prog 18 #[.agg #[.int .i64 ak, .int .i64 ai, .string sa]] u.w fun e w' => e = .returned (.bool (rightD ⟨ak, ai, sa⟩)) ∧ Below u.w.heap.size u.w w') := fun u => right_any _ _ _ _ u.h.t
  have H2 : Hid (∀ u : GW (RK w #[.int .i64 ak, .int .i64 ai, .string sa] #[.int .i64 bk, .int .i64 bi, .string sb] m), Calls Tryd.prog 11 #[.agg #[.int .i64 ak, .int .i64 ai, .string sa]] u.w fun e w' => e = .returned (.bool (rightD ⟨ak, ai, sa⟩)) ∧ Below u.w.heap.size u.w w') := fun u => refright_any _ _ _ _
  have H3 : Hid (∀ u : GW (RK w #[.int .i64 ak, .int .i64 ai, .string sa] #[.int .i64 bk, .int .i64 bi, .string sb] m), Calls Tryd.prog 13 #[.agg #[.int .i64 ak, .int .i64 ai, .string sa], .agg #[.int .i64 bk, .int .i64 bi, .string sb]] u.w fun e w' => e = .returned (.int .i64 (dco ak ai sa bk bi sb)) ∧ Below u.w.heap.size u.w w') := fun u => dcmp ak ai bk bi sa sb u.w
  have H4 : Hid (∀ u : GW (RK w #[.int .i64 ak, .int .i64 ai, .string sa] #[.int .i64 bk, .int .i64 bi, .string sb] m), Calls Tryd.prog 19 #[.agg #[.int .i64 ak, .int .i64 ai, .string sa], .agg #[.int .i64 bk, .int .i64 bi, .string sb]] u.w fun e w' => e = .returned (.int .i64 (dco ak ai sa bk bi sb)) ∧ Below u.w.heap.size u.w w') := fun u => refcmp_any ak ai bk bi sa sb u.w
  have H5 : Hid (∀ u : GW (RK w #[.int .i64 ak, .int .i64 ai, .string sa] #[.int .i64 bk, .int .i64 bi, .string sb] m), Calls Tryd.prog 20 #[.agg #[.int .i64 ak, .int .i64 ai, .string sa]] u.w fun e w' => e = .returned (.string (bs (printF ⟨ak, ai, sa⟩))) ∧ Below u.w.heap.size u.w w') := fun u => print_all ⟨ak, ai, sa⟩ u.w u.h.t u.h.p m u.h.mx i0 i1
  have H6 : Hid (∀ u : GW (RK w #[.int .i64 ak, .int .i64 ai, .string sa] #[.int .i64 bk, .int .i64 bi, .string sb] m), Calls Tryd.prog 21 #[.agg #[.int .i64 ak, .int .i64 ai, .string sa]] u.w fun e w' => e = .returned (.string (bs (printF ⟨ak, ai, sa⟩))) ∧ Below u.w.heap.size u.w w') := fun u => rprint_all ⟨ak, ai, sa⟩ u.w u.h.p i0 i1
  generalize rightD ⟨ak, ai, sa⟩ = r at *
  generalize dco ak ai sa bk bi sb = n at *
  generalize bs (printF ⟨ak, ai, sa⟩) = S at *
  have p0 : ∀ u : GW (RK w #[.int .i64 ak, .int .i64 ai, .string sa] #[.int .i64 bk, .int .i64 bi, .string sb] m), u.w.cell? ⟨w.heap.size, 0, none⟩ = some (.int .i64 ak) := fun u => (u.h.c.1 0).trans rfl
  have p1 : ∀ u : GW (RK w #[.int .i64 ak, .int .i64 ai, .string sa] #[.int .i64 bk, .int .i64 bi, .string sb] m), u.w.cell? ⟨w.heap.size, 1, none⟩ = some (.int .i64 ai) := fun u => (u.h.c.1 1).trans rfl
  have p2 : ∀ u : GW (RK w #[.int .i64 ak, .int .i64 ai, .string sa] #[.int .i64 bk, .int .i64 bi, .string sb] m), u.w.cell? ⟨w.heap.size, 2, none⟩ = some (.string sa) := fun u => (u.h.c.1 2).trans rfl
  have q0 : ∀ u : GW (RK w #[.int .i64 ak, .int .i64 ai, .string sa] #[.int .i64 bk, .int .i64 bi, .string sb] m), u.w.cell? ⟨w.heap.size + 1, 0, none⟩ = some (.int .i64 bk) := fun u => (u.h.c.2 0).trans rfl
  have q1 : ∀ u : GW (RK w #[.int .i64 ak, .int .i64 ai, .string sa] #[.int .i64 bk, .int .i64 bi, .string sb] m), u.w.cell? ⟨w.heap.size + 1, 1, none⟩ = some (.int .i64 bi) := fun u => (u.h.c.2 1).trans rfl
  have q2 : ∀ u : GW (RK w #[.int .i64 ak, .int .i64 ai, .string sa] #[.int .i64 bk, .int .i64 bi, .string sb] m), u.w.cell? ⟨w.heap.size + 1, 2, none⟩ = some (.string sb) := fun u => (u.h.c.2 2).trans rfl
  have hgn := GW.ne (Inv := RK w #[.int .i64 ak, .int .i64 ai, .string sa] #[.int .i64 bk, .int .i64 bi, .string sb] m) hk0
  clear hT hP hm hB hz a0 a1 hk0 i0 i1
  go_enter Tryd.func8, Tryd.ntmps8
  go_wp2_with fail
  generalize ((w.alloc (.cells #[.int .i64 ak, .int .i64 ai, .string sa] 24)).alloc (.cells #[.int .i64 bk, .int .i64 bi, .string sb] 24)) = W0 at *
  refine wp_region_grow (RK w #[.int .i64 ak, .int .i64 ai, .string sa] #[.int .i64 bk, .int .i64 bi, .string sb] m) (by kernel_rfl) (by kernel_rfl) (HK.out.step (Below.refl _ _).drew) ?_
  repeat (go_big_quiet_step (first
    | (go_at_call 18; refine (H1.out _).mono ?_; rintro e w1 ⟨rfl, hb⟩; exact ⟨rfl, rk_next _ hb⟩)
    | (go_at_call 11; refine (H2.out _).mono ?_; rintro e w1 ⟨rfl, hb⟩; exact ⟨rfl, rk_next _ hb⟩)
    | (go_at_call 13; refine (H3.out _).mono ?_; rintro e w1 ⟨rfl, hb⟩; exact ⟨rfl, rk_next _ hb⟩)
    | (go_at_call 19; refine (H4.out _).mono ?_; rintro e w1 ⟨rfl, hb⟩; exact ⟨rfl, rk_next _ hb⟩)
    | (go_at_call 20; refine (H5.out _).mono ?_; rintro e w1 ⟨rfl, hb⟩; exact ⟨rfl, rk_next _ hb⟩)
    | (go_at_call 21; refine (H6.out _).mono ?_; rintro e w1 ⟨rfl, hb⟩; exact ⟨rfl, rk_next _ hb⟩)))
  refine wpQuiet_nil ?_
  intro _ hw'
  obtain ⟨⟨w4, h4⟩, hw''⟩ := hw'
  subst hw''
  have HB4 := Lib.hid h4.b
  clear h4 H1 H2 H3 H4 H5 H6 p0 p1 p2 q0 q1 q2 hgn
  go_wp2_with fail
  go_ret
  exact ⟨rfl, HB4.out⟩
end Go.Proofs.YtidejjjedpdbeaaDoor

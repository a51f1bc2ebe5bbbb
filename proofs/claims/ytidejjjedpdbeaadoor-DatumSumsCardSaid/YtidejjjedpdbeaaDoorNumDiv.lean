/- Contract of datum.number at two values, operator 6. -/
import Derived.Test.YtidejjjedpdbeaaDoorQuo
import Derived.Test.YtidejjjedpdbeaaDoorNumNeg
namespace Go.Proofs.YtidejjjedpdbeaaDoor
open Go.RowKit

set_option maxHeartbeats 2000000 in
theorem number6_int (d d' : Dt) (b o cap : Nat) (w : World) (hbk : b < w.heap.size) (hc : DCells w b o [d, d']) (hk : d.k ≠ 3) (hk' : d'.k ≠ 3)
    (x0 : -9223372036854775808 ≤ d.i) (x1 : d.i < 9223372036854775808) (y0 : -9223372036854775808 ≤ d'.i) (y1 : d'.i < 9223372036854775808) :
    Calls Tryd.prog 29 #[.int .i64 6, .slice (some ⟨b, o, none⟩) 2 cap] w fun e w' => e = .returned (.tuple #[(arith 2 6 d.i d'.i 1).1.v, .bool (arith 2 6 d.i d'.i 1).2]) ∧ Below w.heap.size w w' := by
  have HT := Lib.hid (fun w => times_any d.i 1 w x0 (by omega) (by omega) (by omega))
  have HO := Lib.hid (fun w => times_over d.i 1 d'.i w y0 (by omega))
  have e0 := hc 0 (by simp)
  have e1 := hc 1 (by simp)
  have d0 : dnth [d, d'] 0 = d := rfl
  have d1 : dnth [d, d'] 1 = d' := rfl
  rw [d0] at e0
  rw [d1] at e1
  clear d0 d1
  simp only [Nat.zero_mul, Nat.one_mul, Nat.add_zero] at e0 e1
  obtain ⟨c0, c1, c2⟩ := e0
  obtain ⟨c3, c4, c5⟩ := e1
  have hne : (w.heap.size == b) = false := by simp; omega
  have hne2 : (w.heap.size + 1 == b) = false := by simp; omega
  have k1 : (d.k == 3) = false := by simpa using hk
  have k2 : (d'.k == 3) = false := by simpa using hk'
  rw [show arith 2 6 d.i d'.i 1 = (⟨2, (arI 6 d.i d'.i 1).1, ⟨#[]⟩⟩, (arI 6 d.i d'.i 1).2) from rfl]
  rw [show arI 6 d.i d'.i 1 = quo (d.i * 1) d'.i from rfl]
  clear hc x0 x1 y0 y1
  dsimp only
  generalize quo _ _ = q at *
  obtain ⟨ri, rb⟩ := q
  dsimp only at HO ⊢
  go_enter Tryd.func29, Tryd.ntmps29
  obtain ⟨hB3, hz3, -, q1, q2⟩ := boxes3 w #[.int .i64 0, .int .i64 0, .string ⟨#[]⟩] #[.int .i64 d.k, .int .i64 d.i, .string d.s] #[.int .i64 d'.k, .int .i64 d'.i, .string d'.s] 24 24 24
  have hb0 := ((Below.refl (w.alloc (.cells #[.int .i64 0, .int .i64 0, .string ⟨#[]⟩] 24)).heap.size _).alloc (Nat.le_refl _) (.cells #[.int .i64 d.k, .int .i64 d.i, .string d.s] 24)).alloc (by simp) (.cells #[.int .i64 d'.k, .int .i64 d'.i, .string d'.s] 24)
  rw [World.size_alloc] at hb0
  go_wp2_with fail
  generalize ((w.alloc (.cells #[.int .i64 0, .int .i64 0, .string ⟨#[]⟩] 24)).alloc (.cells #[.int .i64 d.k, .int .i64 d.i, .string d.s] 24)).alloc (.cells #[.int .i64 d'.k, .int .i64 d'.i, .string d'.s] 24) = W0 at *
  have p1 : ∀ (u : GW (fun w' => Below W0.heap.size W0 w')), u.w.cell? ⟨w.heap.size + 1, 1, none⟩ = some (.int .i64 d.i) := fun u => by rw [u.h.cell (p := ⟨w.heap.size + 1, 1, none⟩) (by show w.heap.size + 1 < _; omega), q1]; rfl
  have p2 : ∀ (u : GW (fun w' => Below W0.heap.size W0 w')), u.w.cell? ⟨w.heap.size + 1 + 1, 1, none⟩ = some (.int .i64 d'.i) := fun u => by rw [u.h.cell (p := ⟨w.heap.size + 1 + 1, 1, none⟩) (by show w.heap.size + 1 + 1 < _; omega), q2]; rfl
  have hgn := GW.ne (Inv := fun w' => Below W0.heap.size W0 w') (Below.refl _ _)
  have HB3 := Lib.hid hB3
  have Hb0 := Lib.hid hb0
  have hz4 : w.heap.size + 2 < W0.heap.size := by omega
  clear q1 q2 hz3 hB3 hb0
  refine wp_region_grow (fun w' => Below W0.heap.size W0 w') (by kernel_rfl) (by kernel_rfl) (Below.refl _ _).drew ?_
  repeat (go_big_quiet_step (first | (go_at_call 52; refine (HT.out _).mono ?_; rintro e w1 ⟨rfl, hb⟩; exact ⟨rfl, below_next _ hb⟩) | (go_at_call 53; refine (HO.out _).mono ?_; rintro e w1 ⟨rfl, hb⟩; exact ⟨rfl, below_next _ hb⟩)))
  refine wpQuiet_nil ?_
  intro _ hw'
  obtain ⟨⟨w4, h4⟩, hw''⟩ := hw'
  subst hw''
  have hb3 := Hb0.out.trans (h4.mono (by omega))
  obtain ⟨⟨b1, b2, b3⟩, ⟨f1, f2, f3⟩, hB, hz⟩ := box_new hb3
  have HB := Lib.hid hB
  clear h4 hb3 hB HT HO p1 p2 hgn HB3 Hb0
  go_wp2_with fail
  refine bodyPost_ret (v := .tuple #[.agg #[.int .i64 2, .int .i64 ri, .string ⟨#[]⟩], .bool rb]) (by simp [results, Tryd.results29, go_sem, b1, b2, b3]) rfl ⟨rfl, ?_⟩
  repeat' (first | exact HB.out | refine Below.setCell ?_ ?_ _ | exact Nat.le_refl w.heap.size)
end Go.Proofs.YtidejjjedpdbeaaDoor

/- The walk of DatumOrders: it answers true. -/
import Derived.Test.YtidejjjedpdbeaaDatCmp
import Derived.Test.YtidejjjedpdbeaaKeep
import Derived.Test.YtidejjjedpdbeaaDatEq
import Derived.Test.YtidejjjedpdbeaaOrdLaw
namespace Go.Proofs.Ytidejjjedpdbeaa
open Go.RowKit

set_option maxHeartbeats 1000000 in
theorem orders_walk (ak ai bk bi ck ci : Int) (sa sb sc : ByteArray) (w : World) :
    Calls Try.prog 3 #[.agg #[.int .i64 ak, .int .i64 ai, .string sa], .agg #[.int .i64 bk, .int .i64 bi, .string sb], .agg #[.int .i64 ck, .int .i64 ci, .string sc]] w fun e w' => e = .returned (.bool true) ∧ Below w.heap.size w w' := by
  have F := ord_facts ak ai bk bi ck ci sa sb sc
  have Fz := dco_zero ak ai bk bi sa sb
  have Fy := dco_bd bk bi ck ci sb sc
  have Fzz := dco_bd ak ai ck ci sa sc
  have Fe := @eqD_iff ak ai sa bk bi sb
  have Ft := dco_turn ak ai bk bi sa sb
  have Fr := (dco_zero ak ai ak ai sa sa).2 ⟨rfl, rfl, rfl⟩
  go_enter Try.func3, Try.ntmps3
  go_wp2
  have HB := boxes3 w #[.int .i64 ak, .int .i64 ai, .string sa] #[.int .i64 bk, .int .i64 bi, .string sb] #[.int .i64 ck, .int .i64 ci, .string sc] 23 23 23
  generalize (((w.alloc (.cells #[.int .i64 ak, .int .i64 ai, .string sa] 23)).alloc (.cells #[.int .i64 bk, .int .i64 bi, .string sb] 23)).alloc (.cells #[.int .i64 ck, .int .i64 ci, .string sc] 23)) = W0 at *
  obtain ⟨hB, hz, a0, a1, a2⟩ := HB
  generalize hx : dco ak ai sa bk bi sb = x at F Fz Ft
  generalize hy : dco bk bi sb ck ci sc = y at F Fy
  generalize hzz : dco ak ai sa ck ci sc = z at F Fzz
  obtain ⟨⟨hx1, hx2⟩, F1, F2, F3⟩ := F
  obtain ⟨hy1, hy2⟩ := Fy
  obtain ⟨hz1, hz2⟩ := Fzz
  have H1 := Lib.hid F1
  have H2 := Lib.hid F2
  have H3 := Lib.hid F3
  clear F1 F2 F3
  generalize hE : eqD ak ai sa bk bi sb = E at Fe
  have hxE : E = (x == 0) := by
    rw [Bool.eq_iff_iff, Fe, ← Fz]; simp
  subst hxE
  clear Fz Fe
  go_region_held3 (fun w' => Below W0.heap.size W0 w' ∧ ∀ b o, b < W0.heap.size → w'.cell? ⟨b, o, none⟩ = W0.cell? ⟨b, o, none⟩) (first | exact held_drew | exact held_below ‹_› ‹_›)
    (first
      | (go_at_call 4; refine (dcmp _ _ _ _ _ _ _).mono ?_; rintro e w' ⟨rfl, hb'⟩))
  rename_i hH
  have Hh := Lib.hid hH
  obtain ⟨hHb, hHc⟩ := hH
  have hzw := hHb.size
  clear hHb hb'
  go_wp2_with fail
  refine (dcmp _ _ _ _ _ _ _).mono ?_
  rintro e w1 ⟨rfl, hb1⟩
  have Hh1 := Lib.hid (held_below Hh.out hb1)
  clear hHc hb1 Hh
  obtain ⟨hHb, hHc⟩ := Hh1.out
  have hzw := hHb.size
  clear hHb
  go_wp2_with fail
  refine (dcmp _ _ _ _ _ _ _).mono ?_
  rintro e w2 ⟨rfl, hb2⟩
  have Hh2 := Lib.hid (held_below Hh1.out hb2)
  have HB2 := Lib.hid (hB.trans (Hh2.out.1.mono (by omega)))
  clear hHc hb2 Hh1 Hh2 hB hx hy hzz Ft hE hzw hb' a0 a1 a2 hz
  have h1 := H1.out
  have h2 := H2.out
  have h3 := H3.out
  clear H1 H2 H3
  have cx : x = -1 ∨ x = 0 ∨ x = 1 := by omega
  have cy : y = -1 ∨ y = 0 ∨ y = 1 := by omega
  have cz : z = -1 ∨ z = 0 ∨ z = 1 := by omega
  clear hx1 hx2 hy1 hy2 hz1 hz2
  rcases cx with rfl | rfl | rfl <;> rcases cy with rfl | rfl | rfl <;> rcases cz with rfl | rfl | rfl <;>
    first
      | (exfalso; omega)
      | (clear h1 h2 h3; go_wp2_with fail; go_ret; exact ⟨rfl, HB2.out⟩)
end Go.Proofs.Ytidejjjedpdbeaa

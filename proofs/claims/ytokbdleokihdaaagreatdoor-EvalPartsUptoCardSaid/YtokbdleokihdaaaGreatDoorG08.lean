/- Blocks of three cells: what they hold, through calls and stores. Contract of datum.number at two values, operator 3. Contract of datum.number at two values, operator 4. Contract of datum.number at two values, operator 5. Contract of datum.number at two values, operator 6. -/
import Derived.Test.YtokbdleokihdaaaGreatDoorG07
import Derived.Deep.RegionHeld
namespace Go.Proofs.YtokbdleokihdaaaGreatDoor
open Go.RowKit

theorem asDecR_bd (d : Dt) (x0 : -9223372036854775808 ≤ d.i) (x1 : d.i < 9223372036854775808) : -9223372036854775808 ≤ (asDecR d).1.i ∧ (asDecR d).1.i < 9223372036854775808 := by
  unfold asDecR
  split
  · exact ⟨x0, x1⟩
  · unfold decI
    split
    · rename_i h
      unfold room at h
      simp only [Bool.and_eq_true, decide_eq_true_eq] at h
      exact h
    · simp


/-- A block of three cells that can be written. -/
structure Bx (W : World) (n : Nat) (x y z : Value) : Prop where
  c0 : W.cell? ⟨n, 0, none⟩ = some x
  c1 : W.cell? ⟨n, 1, none⟩ = some y
  c2 : W.cell? ⟨n, 2, none⟩ = some z
  f0 : W.frozen? ⟨n, 0, none⟩ = false
  f1 : W.frozen? ⟨n, 1, none⟩ = false
  f2 : W.frozen? ⟨n, 2, none⟩ = false
  lt : n < W.heap.size
theorem Bx.below {W W' : World} {n : Nat} {x y z : Value} (h : Bx W n x y z) (hb : Below W.heap.size W W') : Bx W' n x y z := by
  refine ⟨?_, ?_, ?_, ?_, ?_, ?_, ?_⟩
  · rw [hb.cell (p := ⟨n, 0, none⟩) h.lt]; exact h.c0
  · rw [hb.cell (p := ⟨n, 1, none⟩) h.lt]; exact h.c1
  · rw [hb.cell (p := ⟨n, 2, none⟩) h.lt]; exact h.c2
  · rw [hb.frozen (p := ⟨n, 0, none⟩) h.lt]; exact h.f0
  · rw [hb.frozen (p := ⟨n, 1, none⟩) h.lt]; exact h.f1
  · rw [hb.frozen (p := ⟨n, 2, none⟩) h.lt]; exact h.f2
  · have := hb.size; have := h.lt; omega
theorem Bx.new (W : World) (x y z : Value) (t : TypeId) : Bx (W.alloc (.cells #[x, y, z] t)) W.heap.size x y z := by
  refine ⟨?_, ?_, ?_, ?_, ?_, ?_, ?_⟩
  · rw [World.cell?_alloc_new]; rfl
  · rw [World.cell?_alloc_new]; rfl
  · rw [World.cell?_alloc_new]; rfl
  · exact World.frozen?_alloc_new ..
  · exact World.frozen?_alloc_new ..
  · exact World.frozen?_alloc_new ..
  · simp
theorem Bx.alloc {W : World} {n : Nat} {x y z : Value} (h : Bx W n x y z) (o : Obj) : Bx (W.alloc o) n x y z := h.below ((Below.refl _ _).alloc (Nat.le_refl _) o)
theorem Bx.drew {W : World} {n : Nat} {x y z : Value} (h : Bx W n x y z) : Bx W.drew n x y z := h.below (Below.refl _ _).drew
theorem Bx.three (w : World) (x y z x' y' z' x'' y'' z'' : Value) (t u v : TypeId) :
    Bx (((w.alloc (.cells #[x, y, z] t)).alloc (.cells #[x', y', z'] u)).alloc (.cells #[x'', y'', z''] v)) w.heap.size x y z ∧
    Bx (((w.alloc (.cells #[x, y, z] t)).alloc (.cells #[x', y', z'] u)).alloc (.cells #[x'', y'', z''] v)) (w.heap.size + 1) x' y' z' ∧
    Bx (((w.alloc (.cells #[x, y, z] t)).alloc (.cells #[x', y', z'] u)).alloc (.cells #[x'', y'', z''] v)) (w.heap.size + 1 + 1) x'' y'' z'' := by
  refine ⟨((Bx.new w x y z t).alloc _).alloc _, ?_, ?_⟩
  · have := (Bx.new (w.alloc (.cells #[x, y, z] t)) x' y' z' u).alloc (.cells #[x'', y'', z''] v)
    rwa [World.size_alloc] at this
  · have := Bx.new ((w.alloc (.cells #[x, y, z] t)).alloc (.cells #[x', y', z'] u)) x'' y'' z'' v
    rwa [World.size_alloc, World.size_alloc] at this
theorem Bx.store {W : World} {n : Nat} {x y z : Value} (h : Bx W n x y z) (x' y' z' : Value) : Bx (((W.setCell ⟨n, 0, none⟩ x').setCell ⟨n, 1, none⟩ y').setCell ⟨n, 2, none⟩ z') n x' y' z' := by
  have n01 : (⟨n, 1, none⟩ : Addr) ≠ ⟨n, 0, none⟩ := by simp
  have n02 : (⟨n, 2, none⟩ : Addr) ≠ ⟨n, 0, none⟩ := by simp
  have n12 : (⟨n, 2, none⟩ : Addr) ≠ ⟨n, 1, none⟩ := by simp
  refine ⟨?_, ?_, ?_, ?_, ?_, ?_, ?_⟩
  · rw [World.cell?_setCell_other (h := n02), World.cell?_setCell_other (h := n01)]; exact World.cell?_setCell_same _ _ _ h.c0
  · rw [World.cell?_setCell_other (h := n12)]; exact World.cell?_setCell_same _ _ _ (by rw [World.cell?_setCell_other (h := n01.symm)]; exact h.c1)
  · exact World.cell?_setCell_same _ _ _ (by rw [World.cell?_setCell_other (h := n12.symm), World.cell?_setCell_other (h := n02.symm)]; exact h.c2)
  · simp only [World.frozen?_setCell]; exact h.f0
  · simp only [World.frozen?_setCell]; exact h.f1
  · simp only [World.frozen?_setCell]; exact h.f2
  · simp only [World.size_setCell]; exact h.lt
theorem Bx.far {W : World} {n m : Nat} {x y z : Value} (h : Bx W n x y z) (hm : m ≠ n) (x' y' z' : Value) : Bx (((W.setCell ⟨m, 0, none⟩ x').setCell ⟨m, 1, none⟩ y').setCell ⟨m, 2, none⟩ z') n x y z := by
  refine ⟨?_, ?_, ?_, ?_, ?_, ?_, ?_⟩
  · rw [World.cell?_setCell_far _ _ _ _ hm, World.cell?_setCell_far _ _ _ _ hm, World.cell?_setCell_far _ _ _ _ hm]; exact h.c0
  · rw [World.cell?_setCell_far _ _ _ _ hm, World.cell?_setCell_far _ _ _ _ hm, World.cell?_setCell_far _ _ _ _ hm]; exact h.c1
  · rw [World.cell?_setCell_far _ _ _ _ hm, World.cell?_setCell_far _ _ _ _ hm, World.cell?_setCell_far _ _ _ _ hm]; exact h.c2
  · simp only [World.frozen?_setCell]; exact h.f0
  · simp only [World.frozen?_setCell]; exact h.f1
  · simp only [World.frozen?_setCell]; exact h.f2
  · simp only [World.size_setCell]; exact h.lt
theorem below_store3 {m : Nat} {w W : World} (h : Below m w W) {n : Nat} (hn : m ≤ n) (x y z : Value) : Below m w (((W.setCell ⟨n, 0, none⟩ x).setCell ⟨n, 1, none⟩ y).setCell ⟨n, 2, none⟩ z) :=
  ((h.setCell (p := ⟨n, 0, none⟩) hn x).setCell (p := ⟨n, 1, none⟩) hn y).setCell (p := ⟨n, 2, none⟩) hn z
end Go.Proofs.YtokbdleokihdaaaGreatDoor
namespace Go.Proofs.YtokbdleokihdaaaGreatDoor
open Go.RowKit

set_option maxHeartbeats 2000000 in
theorem number3_int (d d' : Dt) (b o cap : Nat) (w : World) (hbk : b < w.heap.size) (hc : DCells w b o [d, d']) (hk : d.k ≠ 3) (hk' : d'.k ≠ 3)
    (x0 : -9223372036854775808 ≤ d.i) (x1 : d.i < 9223372036854775808) (y0 : -9223372036854775808 ≤ d'.i) (y1 : d'.i < 9223372036854775808) :
    Calls Tryz.prog 86 #[.int .i64 3, .slice (some ⟨b, o, none⟩) 2 cap] w fun e w' => e = .returned (.tuple #[(arith 2 3 d.i d'.i 1).1.v, .bool (arith 2 3 d.i d'.i 1).2]) ∧ Below w.heap.size w w' := by
  have HS := Lib.hid (fun w => sum_any d.i d'.i w x0 x1 y0 y1)
  have e0 := hc 0 (by simp)
  have e1 := hc 1 (by simp)
  have d0 : dnth [d, d'] 0 = d := rfl
  have d1 : dnth [d, d'] 1 = d' := rfl
  rw [d0] at e0
  rw [d1] at e1
  clear d0 d1
  simp only [Nat.zero_mul, Nat.one_mul, Nat.add_zero] at e0 e1
  obtain ⟨c0, c1, c2⟩ := e0
  obtain ⟨c3, c4, c5⟩ := e1
  have hne : (w.heap.size == b) = false := by simp; omega
  have hne2 : (w.heap.size + 1 == b) = false := by simp; omega
  have k1 : (d.k == 3) = false := by simpa using hk
  have k2 : (d'.k == 3) = false := by simpa using hk'
  rw [show arith 2 3 d.i d'.i 1 = (⟨2, (arI 3 d.i d'.i 1).1, ⟨#[]⟩⟩, (arI 3 d.i d'.i 1).2) from rfl]
  rw [show arI 3 d.i d'.i 1 = (wrap64 (d.i + d'.i), room (d.i + d'.i)) from rfl]
  clear hc x0 x1 y0 y1
  dsimp only
  generalize wrap64 (d.i + d'.i) = ri at *
  generalize room (d.i + d'.i) = rb at *
  go_enter Tryz.func86, Tryz.ntmps86
  go_wp2_with fail
  refine (HS.out _).mono ?_
  rintro e w2 ⟨rfl, hb2⟩
  have hb3 := (((Below.refl (w.alloc (.cells #[.int .i64 0, .int .i64 0, .string ⟨#[]⟩] 27)).heap.size _).alloc (Nat.le_refl _) (.cells #[.int .i64 d.k, .int .i64 d.i, .string d.s] 27)).alloc (by simp) (.cells #[.int .i64 d'.k, .int .i64 d'.i, .string d'.s] 27)).trans (hb2.mono (by simp))
  rw [World.size_alloc] at hb3
  obtain ⟨⟨b1, b2, b3⟩, ⟨f1, f2, f3⟩, hB, hz⟩ := box_new hb3
  have HB := Lib.hid hB
  clear hb2 hb3 hB HS
  go_wp2_with fail
  refine bodyPost_ret (v := .tuple #[.agg #[.int .i64 2, .int .i64 ri, .string ⟨#[]⟩], .bool rb]) (by simp [results, Tryz.results86, go_sem, b1, b2, b3]) rfl ⟨rfl, ?_⟩
  repeat' (first | exact HB.out | refine Below.setCell ?_ ?_ _ | exact Nat.le_refl w.heap.size)
end Go.Proofs.YtokbdleokihdaaaGreatDoor
namespace Go.Proofs.YtokbdleokihdaaaGreatDoor
open Go.RowKit

set_option maxHeartbeats 2000000 in
theorem number4_int (d d' : Dt) (b o cap : Nat) (w : World) (hbk : b < w.heap.size) (hc : DCells w b o [d, d']) (hk : d.k ≠ 3) (hk' : d'.k ≠ 3)
    (x0 : -9223372036854775808 ≤ d.i) (x1 : d.i < 9223372036854775808) (y0 : -9223372036854775808 ≤ d'.i) (y1 : d'.i < 9223372036854775808) :
    Calls Tryz.prog 86 #[.int .i64 4, .slice (some ⟨b, o, none⟩) 2 cap] w fun e w' => e = .returned (.tuple #[(arith 2 4 d.i d'.i 1).1.v, .bool (arith 2 4 d.i d'.i 1).2]) ∧ Below w.heap.size w w' := by
  have e0 := hc 0 (by simp)
  have e1 := hc 1 (by simp)
  have d0 : dnth [d, d'] 0 = d := rfl
  have d1 : dnth [d, d'] 1 = d' := rfl
  rw [d0] at e0
  rw [d1] at e1
  clear d0 d1
  simp only [Nat.zero_mul, Nat.one_mul, Nat.add_zero] at e0 e1
  obtain ⟨c0, c1, c2⟩ := e0
  obtain ⟨c3, c4, c5⟩ := e1
  have hne : (w.heap.size == b) = false := by simp; omega
  have hne2 : (w.heap.size + 1 == b) = false := by simp; omega
  have k1 : (d.k == 3) = false := by simpa using hk
  have k2 : (d'.k == 3) = false := by simpa using hk'
  rw [show arith 2 4 d.i d'.i 1 = (⟨2, (arI 4 d.i d'.i 1).1, ⟨#[]⟩⟩, (arI 4 d.i d'.i 1).2) from rfl]
  rw [show arI 4 d.i d'.i 1 = (wrap64 (d.i - d'.i), room (d.i - d'.i)) from rfl]
  obtain ⟨s, hs⟩ : ∃ s, s = wrap64 (d.i - d'.i) := ⟨_, rfl⟩
  have hS := hs
  have HR : Hid (room (d.i - d'.i) = ((decide (s < d.i) == decide (0 < d'.i)) || (d'.i == 0))) := by
    show room (d.i - d'.i) = _
    rw [hs]
    unfold wrap64 room
    rw [Bool.eq_iff_iff]
    simp only [Bool.and_eq_true, Bool.or_eq_true, decide_eq_true_eq, beq_iff_eq, decide_eq_decide]
    omega
  have HS := Lib.hid hs
  clear hc x0 x1 y0 y1 hs hS
  dsimp only
  go_enter Tryz.func86, Tryz.ntmps86
  go_wp2_with fail
  all_goals
    have hBB := (boxes3 w #[.int .i64 2, .int .i64 (wrap64 (d.i - d'.i)), .string ⟨#[]⟩] #[.int .i64 d.k, .int .i64 d.i, .string d.s] #[.int .i64 d'.k, .int .i64 d'.i, .string d'.s] 27 27 27).1
    cases hz : (d'.i == 0)
    all_goals have hz2 := hz
    all_goals simp only [beq_iff_eq, beq_eq_false_iff_ne, ne_eq] at hz2
    all_goals first
      | (have hrb : room (d.i - d'.i) = true := by rw [HR.out, HS.out, hz]; simp [*]
         rw [hrb]
         refine bodyPost_ret (v := .tuple #[.agg #[.int .i64 2, .int .i64 (wrap64 (d.i - d'.i)), .string ⟨#[]⟩], .bool true]) (by simp [results, Tryz.results86, go_sem, hz2] <;> assumption) rfl ⟨rfl, hBB⟩)
      | (have hrb : room (d.i - d'.i) = false := by rw [HR.out, HS.out, hz]; simp [*]
         rw [hrb]
         refine bodyPost_ret (v := .tuple #[.agg #[.int .i64 2, .int .i64 (wrap64 (d.i - d'.i)), .string ⟨#[]⟩], .bool false]) (by simp [results, Tryz.results86, go_sem] <;> assumption) rfl ⟨rfl, hBB⟩)
end Go.Proofs.YtokbdleokihdaaaGreatDoor
namespace Go.Proofs.YtokbdleokihdaaaGreatDoor
open Go.RowKit

set_option maxHeartbeats 2000000 in
theorem number5_int (d d' : Dt) (b o cap : Nat) (w : World) (hbk : b < w.heap.size) (hc : DCells w b o [d, d']) (hk : d.k ≠ 3) (hk' : d'.k ≠ 3)
    (x0 : -9223372036854775808 ≤ d.i) (x1 : d.i < 9223372036854775808) (y0 : -9223372036854775808 ≤ d'.i) (y1 : d'.i < 9223372036854775808) :
    Calls Tryz.prog 86 #[.int .i64 5, .slice (some ⟨b, o, none⟩) 2 cap] w fun e w' => e = .returned (.tuple #[(arith 2 5 d.i d'.i 1).1.v, .bool (arith 2 5 d.i d'.i 1).2]) ∧ Below w.heap.size w w' := by
  have HT := Lib.hid (fun w => times_any d.i d'.i w x0 (by omega) y0 (by omega))
  have HO := Lib.hid (fun w => times_over d.i d'.i 1 w (by omega) (by omega))
  have e0 := hc 0 (by simp)
  have e1 := hc 1 (by simp)
  have d0 : dnth [d, d'] 0 = d := rfl
  have d1 : dnth [d, d'] 1 = d' := rfl
  rw [d0] at e0
  rw [d1] at e1
  clear d0 d1
  simp only [Nat.zero_mul, Nat.one_mul, Nat.add_zero] at e0 e1
  obtain ⟨c0, c1, c2⟩ := e0
  obtain ⟨c3, c4, c5⟩ := e1
  have hne : (w.heap.size == b) = false := by simp; omega
  have hne2 : (w.heap.size + 1 == b) = false := by simp; omega
  have k1 : (d.k == 3) = false := by simpa using hk
  have k2 : (d'.k == 3) = false := by simpa using hk'
  rw [show arith 2 5 d.i d'.i 1 = (⟨2, (arI 5 d.i d'.i 1).1, ⟨#[]⟩⟩, (arI 5 d.i d'.i 1).2) from rfl]
  rw [show arI 5 d.i d'.i 1 = quo (d.i * d'.i) 1 from rfl]
  clear hc x0 x1 y0 y1
  dsimp only
  generalize quo _ _ = q at *
  obtain ⟨ri, rb⟩ := q
  dsimp only at HO ⊢
  go_enter Tryz.func86, Tryz.ntmps86
  go_wp2_with fail
  refine (HT.out _).mono ?_
  rintro e w1 ⟨rfl, hb1⟩
  obtain ⟨-, hz3, -, -, q2⟩ := boxes3 w #[.int .i64 0, .int .i64 0, .string ⟨#[]⟩] #[.int .i64 d.k, .int .i64 d.i, .string d.s] #[.int .i64 d'.k, .int .i64 d'.i, .string d'.s] 27 27 27
  have q1 : w1.cell? ⟨w.heap.size + 1 + 1, 1, none⟩ = some (.int .i64 d'.i) := by rw [hb1.cell (p := ⟨w.heap.size + 1 + 1, 1, none⟩) (by rw [hz3]; show w.heap.size + 1 + 1 < _; omega), q2]; rfl
  clear q2 hz3
  go_wp2_with fail
  refine (HO.out _).mono ?_
  rintro e w2 ⟨rfl, hb2⟩
  have hb3 := ((((Below.refl (w.alloc (.cells #[.int .i64 0, .int .i64 0, .string ⟨#[]⟩] 27)).heap.size _).alloc (Nat.le_refl _) (.cells #[.int .i64 d.k, .int .i64 d.i, .string d.s] 27)).alloc (by simp) (.cells #[.int .i64 d'.k, .int .i64 d'.i, .string d'.s] 27)).trans (hb1.mono (by simp))).trans (hb2.mono (by have := hb1.size; simp at this ⊢; omega))
  rw [World.size_alloc] at hb3
  obtain ⟨⟨b1, b2, b3⟩, ⟨f1, f2, f3⟩, hB, hz⟩ := box_new hb3
  have HB := Lib.hid hB
  clear hb1 hb2 hb3 hB HT HO q1
  go_wp2_with fail
  refine bodyPost_ret (v := .tuple #[.agg #[.int .i64 2, .int .i64 ri, .string ⟨#[]⟩], .bool rb]) (by simp [results, Tryz.results86, go_sem, b1, b2, b3]) rfl ⟨rfl, ?_⟩
  repeat' (first | exact HB.out | refine Below.setCell ?_ ?_ _ | exact Nat.le_refl w.heap.size)
end Go.Proofs.YtokbdleokihdaaaGreatDoor
namespace Go.Proofs.YtokbdleokihdaaaGreatDoor
open Go.RowKit

set_option maxHeartbeats 2000000 in
theorem number6_int (d d' : Dt) (b o cap : Nat) (w : World) (hbk : b < w.heap.size) (hc : DCells w b o [d, d']) (hk : d.k ≠ 3) (hk' : d'.k ≠ 3)
    (x0 : -9223372036854775808 ≤ d.i) (x1 : d.i < 9223372036854775808) (y0 : -9223372036854775808 ≤ d'.i) (y1 : d'.i < 9223372036854775808) :
    Calls Tryz.prog 86 #[.int .i64 6, .slice (some ⟨b, o, none⟩) 2 cap] w fun e w' => e = .returned (.tuple #[(arith 2 6 d.i d'.i 1).1.v, .bool (arith 2 6 d.i d'.i 1).2]) ∧ Below w.heap.size w w' := by
  have HT := Lib.hid (fun w => times_any d.i 1 w x0 (by omega) (by omega) (by omega))
  have HO := Lib.hid (fun w => times_over d.i 1 d'.i w y0 (by omega))
  have e0 := hc 0 (by simp)
  have e1 := hc 1 (by simp)
  have d0 : dnth [d, d'] 0 = d := rfl
  have d1 : dnth [d, d'] 1 = d' := rfl
  rw [d0] at e0
  rw [d1] at e1
  clear d0 d1
  simp only [Nat.zero_mul, Nat.one_mul, Nat.add_zero] at e0 e1
  obtain ⟨c0, c1, c2⟩ := e0
  obtain ⟨c3, c4, c5⟩ := e1
  have hne : (w.heap.size == b) = false := by simp; omega
  have hne2 : (w.heap.size + 1 == b) = false := by simp; omega
  have k1 : (d.k == 3) = false := by simpa using hk
  have k2 : (d'.k == 3) = false := by simpa using hk'
  rw [show arith 2 6 d.i d'.i 1 = (⟨2, (arI 6 d.i d'.i 1).1, ⟨#[]⟩⟩, (arI 6 d.i d'.i 1).2) from rfl]
  rw [show arI 6 d.i d'.i 1 = quo (d.i * 1) d'.i from rfl]
  clear hc x0 x1 y0 y1
  dsimp only
  generalize quo _ _ = q at *
  obtain ⟨ri, rb⟩ := q
  dsimp only at HO ⊢
  go_enter Tryz.func86, Tryz.ntmps86
  obtain ⟨hB3, hz3, -, q1, q2⟩ := boxes3 w #[.int .i64 0, .int .i64 0, .string ⟨#[]⟩] #[.int .i64 d.k, .int .i64 d.i, .string d.s] #[.int .i64 d'.k, .int .i64 d'.i, .string d'.s] 27 27 27
  have hb0 := ((Below.refl (w.alloc (.cells #[.int .i64 0, .int .i64 0, .string ⟨#[]⟩] 27)).heap.size _).alloc (Nat.le_refl _) (.cells #[.int .i64 d.k, .int .i64 d.i, .string d.s] 27)).alloc (by simp) (.cells #[.int .i64 d'.k, .int .i64 d'.i, .string d'.s] 27)
  rw [World.size_alloc] at hb0
  go_wp2_with fail
  generalize ((w.alloc (.cells #[.int .i64 0, .int .i64 0, .string ⟨#[]⟩] 27)).alloc (.cells #[.int .i64 d.k, .int .i64 d.i, .string d.s] 27)).alloc (.cells #[.int .i64 d'.k, .int .i64 d'.i, .string d'.s] 27) = W0 at *
  have p1 : ∀ (u : GW (fun w' => Below W0.heap.size W0 w')), u.w.cell? ⟨w.heap.size + 1, 1, none⟩ = some (.int .i64 d.i) := fun u => by rw [u.h.cell (p := ⟨w.heap.size + 1, 1, none⟩) (by show w.heap.size + 1 < _; omega), q1]; rfl
  have p2 : ∀ (u : GW (fun w' => Below W0.heap.size W0 w')), u.w.cell? ⟨w.heap.size + 1 + 1, 1, none⟩ = some (.int .i64 d'.i) := fun u => by rw [u.h.cell (p := ⟨w.heap.size + 1 + 1, 1, none⟩) (by show w.heap.size + 1 + 1 < _; omega), q2]; rfl
  have hgn := GW.ne (Inv := fun w' => Below W0.heap.size W0 w') (Below.refl _ _)
  have HB3 := Lib.hid hB3
  have Hb0 := Lib.hid hb0
  have hz4 : w.heap.size + 2 < W0.heap.size := by omega
  clear q1 q2 hz3 hB3 hb0
  refine wp_region_grow (fun w' => Below W0.heap.size W0 w') (by kernel_rfl) (by kernel_rfl) (Below.refl _ _).drew ?_
  repeat (go_big_quiet_step (first | (go_at_call 99; refine (HT.out _).mono ?_; rintro e w1 ⟨rfl, hb⟩; exact ⟨rfl, below_next _ hb⟩) | (go_at_call 100; refine (HO.out _).mono ?_; rintro e w1 ⟨rfl, hb⟩; exact ⟨rfl, below_next _ hb⟩)))
  refine wpQuiet_nil ?_
  intro _ hw'
  obtain ⟨⟨w4, h4⟩, hw''⟩ := hw'
  subst hw''
  have hb3 := Hb0.out.trans (h4.mono (by omega))
  obtain ⟨⟨b1, b2, b3⟩, ⟨f1, f2, f3⟩, hB, hz⟩ := box_new hb3
  have HB := Lib.hid hB
  clear h4 hb3 hB HT HO p1 p2 hgn HB3 Hb0
  go_wp2_with fail
  refine bodyPost_ret (v := .tuple #[.agg #[.int .i64 2, .int .i64 ri, .string ⟨#[]⟩], .bool rb]) (by simp [results, Tryz.results86, go_sem, b1, b2, b3]) rfl ⟨rfl, ?_⟩
  repeat' (first | exact HB.out | refine Below.setCell ?_ ?_ _ | exact Nat.le_refl w.heap.size)
end Go.Proofs.YtokbdleokihdaaaGreatDoor

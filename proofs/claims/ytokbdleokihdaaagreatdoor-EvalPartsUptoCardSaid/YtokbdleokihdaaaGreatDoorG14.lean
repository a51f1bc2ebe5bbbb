/- The document's big numbers as whole numbers: the contracts of Of, big, Amounts, Order, Minus, trimmed said of what the rows are worth. A local big number: its box of two cells, kept; the row it is made of. The document's added: a sum of amounts. The document's less: a difference of amounts. The document's big: a machine number as a big one. The document's Order, said of whole numbers. -/
import Derived.Test.YtokbdleokihdaaaGreatDoorG13
import Derived.Test.YtokbdleokihdaaaGreatDoorG12
namespace Go.Proofs.YtokbdleokihdaaaGreatDoor
open Go.RowKit

/-- A big number in memory: its sign, and the row of its digits. -/
def BigV (w : World) (v : Value) (z : Int) : Prop := ∃ rv, v = .agg #[.bool (decide (z < 0)), rv] ∧ URow w rv (digs z.natAbs)
theorem BigV.below {w w' : World} {v : Value} {z : Int} (h : BigV w v z) (hb : Below w.heap.size w w') : BigV w' v z := by
  obtain ⟨rv, rfl, h⟩ := h
  exact ⟨rv, rfl, h.below hb⟩
theorem BigV.form {w : World} {v : Value} {z : Int} (h : BigV w v z) : ∃ p c, v = .agg #[.bool (decide (z < 0)), .slice p (digs z.natAbs).length c] := by
  obtain ⟨rv, rfl, p, c, rfl, _⟩ := h
  exact ⟨p, c, rfl⟩
theorem BigV.formN {w : World} {v : Value} {z : Int} (h : BigV w v z) (h0 : 0 ≤ z) : ∃ p n c, v = .agg #[.bool false, .slice p n c] := by
  obtain ⟨p, c, rfl⟩ := h.form
  exact ⟨p, _, c, by rw [decide_eq_false (by omega)]⟩
theorem BigV.later {w w' : World} {v : Value} {z : Int} {x : Obj} (h : BigV w v z) (hb : Below (w.alloc x).heap.size (w.alloc x) w') : BigV w' v z :=
  (h.below ((Below.refl w.heap.size w).alloc (Nat.le_refl _) x)).below hb
theorem BigV.alloc {w : World} {v : Value} {z : Int} (h : BigV w v z) (x : Obj) : BigV (w.alloc x) v z := h.below ((Below.refl w.heap.size w).alloc (Nat.le_refl _) x)
theorem len_le {n k : Nat} (h : n < 1000000 ^ k) : (digs n).length ≤ k := digs_len h
/-- Big enough for all that is reckoned here. -/
def Fit (z : Int) : Prop := (digs z.natAbs).length ≤ 700
theorem Fit.of_lt {z : Int} {k : Nat} (h : z.natAbs < 1000000 ^ k) (hk : k ≤ 700) : Fit z := Nat.le_trans (digs_len h) hk
theorem fit64 {i : Int} (h0 : -9223372036854775808 ≤ i) (h1 : i ≤ 9223372036854775807) : Fit i := by
  have h : i.natAbs < 1000000 ^ 4 := by have : i.natAbs ≤ 9223372036854775808 := by omega
                                        exact Nat.lt_of_le_of_lt this (by decide)
  exact Fit.of_lt h (by decide)
theorem Fit.len {z : Int} (h : Fit z) : (digs z.natAbs).length ≤ 700 := h

theorem of_v (i : Int) (h0 : -9223372036854775808 ≤ i) (h1 : i ≤ 9223372036854775807) (w : World) :
    Calls Tryz.prog 39 #[.int .i64 i] w fun e w' => ∃ v, e = .returned v ∧ BigV w' v i ∧ Below w.heap.size w w' := by
  refine (bigof_any i h0 h1 w).mono ?_
  rintro e w' ⟨v, rfl, hrow, hb⟩
  rw [digsF_digs 4 i.natAbs (by have : i.natAbs < 1000000 ^ 4 := by omega
                                exact this)] at hrow
  exact ⟨_, rfl, ⟨v, rfl, URow.of_owns hrow⟩, hb⟩
theorem amounts_v {w : World} {va vb : Value} {a b : Int} (ha : BigV w va a) (hb : BigV w vb b) (fa : Fit a) (fb : Fit b) :
    Calls Tryz.prog 49 #[va, vb] w fun e w' => e = .returned (.int .i64 (cmpN a.natAbs b.natAbs)) ∧ Below w.heap.size w w' := by
  obtain ⟨ra, rfl, ha⟩ := ha
  obtain ⟨rb, rfl, hb⟩ := hb
  have := amounts_any (decide (a < 0)) (decide (b < 0)) ra rb _ _ w ha hb (by have := fa.len; omega) (by have := fb.len; omega)
  rwa [amt_cmp] at this
/-- The order of numbers. -/
def cmpZ (a b : Int) : Int := if a < b then -1 else if b < a then 1 else 0
theorem minus_v {w : World} {va : Value} {a : Int} (ha : BigV w va a) :
    Calls Tryz.prog 38 #[va] w fun e w' => ∃ v, e = .returned v ∧ BigV w' v (-a) ∧ Below w.heap.size w w' := by
  obtain ⟨ra, rfl, ha⟩ := ha
  refine (bigminus_any (decide (a < 0)) ra _ w ha).mono ?_
  rintro e w' ⟨rfl, hb⟩
  refine ⟨_, rfl, ⟨ra, ?_, by simpa using ha.below hb⟩, hb⟩
  have h1 : 0 < (digs a.natAbs).length ↔ a ≠ 0 := by
    rw [Nat.pos_iff_ne_zero, Ne, digs_nil]; omega
  have h2 : (!decide (a < 0) && decide (0 < (digs a.natAbs).length)) = decide (-a < 0) := by
    rw [Bool.eq_iff_iff]
    simp only [Bool.and_eq_true, Bool.not_eq_true', decide_eq_false_iff_not, decide_eq_true_eq, h1]
    omega
  rw [h2]
theorem trimmed_v {w : World} {va : Value} {ds : List Nat} (ha : URow w va ds) (hs : Small ds) (hl : ds.length ≤ 3000) :
    Calls Tryz.prog 65 #[.agg #[.bool false, va]] w fun e w' => ∃ v, e = .returned v ∧ BigV w' v (val ds : Int) ∧ Below w.heap.size w w' := by
  refine (trimmed_any false va ds w ha hl).mono ?_
  rintro e w' ⟨v, rfl, hrow, hb⟩
  rw [tlen_digs hs] at hrow
  exact ⟨_, rfl, ⟨v, by simp, by simpa using hrow⟩, hb⟩
end Go.Proofs.YtokbdleokihdaaaGreatDoor
namespace Go.Proofs.YtokbdleokihdaaaGreatDoor
open Go.RowKit

/-- A box of a sign and a row. -/
structure Bg (w : World) (b : Nat) (m : Bool) (v : Value) : Prop where
  lt : b < w.heap.size
  c0 : w.cell? ⟨b, 0, none⟩ = some (.bool m)
  c1 : w.cell? ⟨b, 1, none⟩ = some v
  f0 : w.frozen? ⟨b, 0, none⟩ = false
  f1 : w.frozen? ⟨b, 1, none⟩ = false
theorem Bg.new (w : World) (m : Bool) (v : Value) (t : TypeId) : Bg (w.alloc (.cells #[.bool m, v] t)) w.heap.size m v := by
  obtain ⟨-, hz, h⟩ := boxes1 w #[.bool m, v] t
  exact ⟨by omega, by rw [h]; rfl, by rw [h]; rfl, World.frozen?_alloc_at _ _ _ _ rfl, World.frozen?_alloc_at _ _ _ _ rfl⟩
theorem Bg.alloc {w : World} {b : Nat} {m : Bool} {v : Value} (h : Bg w b m v) (x : Obj) : Bg (w.alloc x) b m v :=
  have hl := h.lt
  ⟨by simp; omega, (World.cell?_alloc_past _ _ _ (by show b < _; omega)).trans h.c0, (World.cell?_alloc_past _ _ _ (by show b < _; omega)).trans h.c1,
    (World.frozen?_alloc_past _ _ _ (by show b < _; omega)).trans h.f0, (World.frozen?_alloc_past _ _ _ (by show b < _; omega)).trans h.f1⟩
theorem Bg.below {w w' : World} {b B : Nat} {m : Bool} {v : Value} (h : Bg w b m v) (hb : Below B w w') (hB : b < B) : Bg w' b m v :=
  ⟨Nat.lt_of_lt_of_le h.lt hb.size, (hb.cell (p := ⟨b, 0, none⟩) hB).trans h.c0, (hb.cell (p := ⟨b, 1, none⟩) hB).trans h.c1, (hb.frozen (p := ⟨b, 0, none⟩) hB).trans h.f0, (hb.frozen (p := ⟨b, 1, none⟩) hB).trans h.f1⟩
theorem Bg.grown {w w' : World} {b : Nat} {m : Bool} {v : Value} {row : Option Nat} (h : Bg w b m v) (hg : w.grownBy w' row) (hr : some b ≠ row) : Bg w' b m v := by
  have hblk := hg.block b h.lt hr
  refine ⟨?_, hg.cell h.c0 hr, hg.cell h.c1 hr, ?_, ?_⟩
  · exact World.block_lt_of_cell? _ _ (hg.cell h.c0 hr)
  · rw [World.frozen?_of_block hblk]; exact h.f0
  · rw [World.frozen?_of_block hblk]; exact h.f1
theorem Bg.set {w : World} {b : Nat} {m : Bool} {v : Value} (h : Bg w b m v) {a : Addr} (ha : a.block ≠ b) (x : Value) : Bg (w.setCell a x) b m v := by
  refine ⟨by rw [World.size_setCell]; exact h.lt, ?_, ?_, by rw [World.frozen?_setCell]; exact h.f0, by rw [World.frozen?_setCell]; exact h.f1⟩
  · rw [World.cell?_setCell_other]
    · exact h.c0
    · exact fun e => ha ((congrArg Addr.block e))
  · rw [World.cell?_setCell_other]
    · exact h.c1
    · exact fun e => ha ((congrArg Addr.block e))
theorem Bg.set1 {w : World} {b : Nat} {m : Bool} {v : Value} (h : Bg w b m v) (x : Value) : Bg (w.setCell ⟨b, 1, none⟩ x) b m x := by
  refine ⟨by rw [World.size_setCell]; exact h.lt, ?_, World.cell?_setCell_same _ _ _ h.c1, by rw [World.frozen?_setCell]; exact h.f0, by rw [World.frozen?_setCell]; exact h.f1⟩
  rw [World.cell?_setCell_other (h := by simp)]; exact h.c0
theorem Bg.set0 {w : World} {b : Nat} {m : Bool} {v : Value} (h : Bg w b m v) (x : Bool) : Bg (w.setCell ⟨b, 0, none⟩ (.bool x)) b x v := by
  refine ⟨by rw [World.size_setCell]; exact h.lt, World.cell?_setCell_same _ _ _ h.c0, ?_, by rw [World.frozen?_setCell]; exact h.f0, by rw [World.frozen?_setCell]; exact h.f1⟩
  rw [World.cell?_setCell_other (h := by simp)]; exact h.c1
/-- A row is not the box. -/
theorem URow.set {w : World} {b : Nat} {m : Bool} {u v : Value} {ds : List Nat} (h : URow w v ds) (hb : Bg w b m u) (i : Nat) (x : Value) : URow (w.setCell ⟨b, i, none⟩ x) v ds := by
  obtain ⟨p, c, rfl, hl, h⟩ := h
  refine ⟨p, c, rfl, hl, ?_⟩
  rcases h with h | ⟨g, rfl, hg, hc⟩
  · exact .inl h
  · by_cases h0 : ds = []
    · exact .inl h0
    · refine .inr ⟨g, rfl, by rw [World.size_setCell]; exact hg, fun j hj => ?_⟩
      have hne : g ≠ b := fun e => by
        have h1 := hc 0 (List.length_pos_iff.2 h0)
        rw [e, hb.c0] at h1
        cases h1
      rw [World.cell?_setCell_other]
      · exact hc j hj
      · intro e; exact hne (congrArg Addr.block e).symm
/-- A digit of a row that came in. -/
theorem URow.at {w w' : World} {p : Option Addr} {n : Nat} {ds : List Nat} (h : ds = [] ∨ ∃ g, p = some ⟨g, 0, none⟩ ∧ g < w.heap.size ∧ ∀ j, j < n → w.cell? ⟨g, j, none⟩ = some (.int .u64 ((ds.getD j 0 : Nat) : Int)))
    (hb : Below w.heap.size w w') {k : Nat} (hk : k < n) (hn : ds.length = n) : ∃ g, p = some ⟨g, 0, none⟩ ∧ w'.cell? ⟨g, k, none⟩ = some (.int .u64 ((ds.getD k 0 : Nat) : Int)) := by
  rcases h with rfl | ⟨g, rfl, hg, hc⟩
  · simp at hn; omega
  · exact ⟨g, rfl, by rw [hb.cell (p := ⟨g, k, none⟩) hg]; exact hc k hk⟩
theorem AddR.bound {x y : Nat} {ds : List Nat} {i c : Nat} (h : AddR (digs x) (digs y) ds i c) (hc : 0 < c) : i ≤ max (digs x).length (digs y).length := by
  have h1 := h.sum
  have h2 := val_take_le (digs x) i
  have h3 := val_take_le (digs y) i
  rw [val_digs] at h2 h3
  have h4 : 1 * 1000000 ^ i ≤ c * 1000000 ^ i := Nat.mul_le_mul_right _ hc
  have h5 := digs_lt x
  have h6 := digs_lt y
  generalize (digs x).length = p at *
  generalize (digs y).length = q at *
  have h7 : 1000000 ^ p ≤ 1000000 ^ max p q := Nat.pow_le_pow_right (by decide) (by omega)
  have h8 : 1000000 ^ q ≤ 1000000 ^ max p q := Nat.pow_le_pow_right (by decide) (by omega)
  refine Nat.le_of_not_lt fun hlt => ?_
  have h9 : 1000000 ^ (max p q + 1) ≤ 1000000 ^ i := Nat.pow_le_pow_right (by decide) (by omega)
  rw [Nat.pow_succ] at h9
  omega
end Go.Proofs.YtokbdleokihdaaaGreatDoor
namespace Go.Proofs.YtokbdleokihdaaaGreatDoor
open Go.RowKit

set_option maxRecDepth 100000 in
set_option maxHeartbeats 4000000 in
theorem added_any (ma mb : Bool) (va vb : Value) (x y : Nat) (w : World) (ha : URow w va (digs x)) (hb : URow w vb (digs y)) (hla : (digs x).length ≤ 1900) (hlb : (digs y).length ≤ 1900) :
    Calls Tryz.prog 51 #[.agg #[.bool ma, va], .agg #[.bool mb, vb]] w fun e w' => ∃ v, e = .returned (.agg #[.bool false, v]) ∧ w'.ownsRow w.heap.size 51 1 v (digs (x + y)).length (u64s (digs (x + y))) ∧ Below w.heap.size w w' := by
  obtain ⟨i0, hi, hz0, hz1, hz2⟩ := info_parts u64info
  obtain ⟨pa, ca, rfl, -, ha⟩ := ha
  obtain ⟨pb, cb, rfl, -, hb⟩ := hb
  have HA := Lib.hid ha
  have HB := Lib.hid hb
  clear ha hb
  generalize hna : (digs x).length = na at *
  generalize hnb : (digs y).length = nb at *
  have HNA := Lib.hid hna
  have HNB := Lib.hid hnb
  clear hna hnb
  go_enter Tryz.func51, Tryz.ntmps51
  go_wp2_with fail
  obtain ⟨hB3, hz3, -⟩ := boxes3 w #[.bool ma, .slice pa na ca] #[.bool mb, .slice pb nb cb] #[.bool false, .slice none 0 0] 65 65 65
  have b0 := (((Bg.new w ma (.slice pa na ca) 65).alloc (.cells #[.bool mb, .slice pb nb cb] 65)).alloc (.cells #[.bool false, .slice none 0 0] 65)).alloc (.cells #[.bool false, .slice none 0 0] 65)
  have b1 := ((Bg.new (w.alloc (.cells #[.bool ma, .slice pa na ca] 65)) mb (.slice pb nb cb) 65).alloc (.cells #[.bool false, .slice none 0 0] 65)).alloc (.cells #[.bool false, .slice none 0 0] 65)
  have b2 := (Bg.new ((w.alloc (.cells #[.bool ma, .slice pa na ca] 65)).alloc (.cells #[.bool mb, .slice pb nb cb] 65)) false (.slice none 0 0) 65).alloc (.cells #[.bool false, .slice none 0 0] 65)
  have b3 := Bg.new (((w.alloc (.cells #[.bool ma, .slice pa na ca] 65)).alloc (.cells #[.bool mb, .slice pb nb cb] 65)).alloc (.cells #[.bool false, .slice none 0 0] 65)) false (.slice none 0 0) 65
  have hB4 := hB3.alloc (by omega) (.cells #[.bool false, .slice none 0 0] 65)
  rw [hz3] at b3
  have e2 : ((w.alloc (.cells #[.bool ma, .slice pa na ca] 65)).alloc (.cells #[.bool mb, .slice pb nb cb] 65)).heap.size = w.heap.size + 2 := by simp
  have e1 : (w.alloc (.cells #[.bool ma, .slice pa na ca] 65)).heap.size = w.heap.size + 1 := by simp
  rw [e2] at b2
  rw [e1] at b1
  clear hB3 hz3 e1 e2
  generalize ((((w.alloc (.cells #[.bool ma, .slice pa na ca] 65)).alloc (.cells #[.bool mb, .slice pb nb cb] 65)).alloc (.cells #[.bool false, .slice none 0 0] 65)).alloc (.cells #[.bool false, .slice none 0 0] 65)) = W0 at *
  go_loopw [6, 7] (fun c i wr => ∃ (cr k : Nat) (ds : List Nat) (v : Value), c = .int .u64 (cr : Int) ∧ i = .int .i64 (k : Int) ∧ AddR (digs x) (digs y) ds k cr ∧ k ≤ 1901 ∧
      wr.ownsRow (w.heap.size + 4) 51 1 v ds.length (u64s ds) ∧ Bg wr w.heap.size ma (.slice pa na ca) ∧ Bg wr (w.heap.size + 1) mb (.slice pb nb cb) ∧ Bg wr (w.heap.size + 2) false (.slice none 0 0) ∧ Bg wr (w.heap.size + 3) false v ∧ Below w.heap.size w wr)
    (fun _ i _ => (1901 - intOf i).toNat)
  case atStart => exact ⟨0, 0, [], .slice none 0 0, rfl, rfl, AddR.start _ _, by omega, World.ownsRow_nil _ _ _ _, b0, b1, b2, b3, hB4⟩
  case round =>
    clear b0 b1 b2 b3 hB4
    obtain ⟨cr, k, ds, v, rfl, rfl, hR, hk, hown, b0, b1, b2, b3, hB⟩ := hrel
    have HW := Lib.hid hB
    have HR := Lib.hid hR
    have HO := Lib.hid hown
    have hcr : cr ≤ 1 := hR.hca
    have hl3 := b3.lt
    have k0 := b0.c1
    have k1 := b1.c1
    have k20 := b2.c0
    have k21 := b2.c1
    have k2f := b2.f0
    have k2g := b2.f1
    have k30 := b3.c0
    have k31 := b3.c1
    have k3f := b3.f1
    have H0 := Lib.hid b0
    have H1 := Lib.hid b1
    have H2 := Lib.hid b2
    have H3 := Lib.hid b3
    obtain ⟨p, ln, cp, rfl⟩ := owns_slice hown
    have hbd : Hid (0 < cr → k ≤ 1900) := fun hc => by have := hR.bound hc; rw [HNA.out, HNB.out] at this; omega
    clear hB hR hown b0 b1 b2 b3
    have hsx : (digs x).getD k 0 < 1000000 := small_getD (small_digs x) k
    have hsy : (digs y).getD k 0 < 1000000 := small_getD (small_digs y) k
    by_cases hx : k < na
    · obtain ⟨ga, rfl, kx⟩ := URow.at HA.out HW.out hx HNA.out
      have hk9 : k ≤ 1900 := by omega
      obtain ⟨s1, hs1⟩ : ∃ s, s = cr + (digs x).getD k 0 := ⟨_, rfl⟩
      by_cases hy : k < nb
      · obtain ⟨gb, rfl, ky⟩ := URow.at HB.out HW.out hy HNB.out
        obtain ⟨s, hs⟩ : ∃ s, s = s1 + (digs y).getD k 0 := ⟨_, rfl⟩
        have HS : Hid (s = cr + (digs x).getD k 0 + (digs y).getD k 0) := by show _ = _; rw [hs, hs1]
        have HG : Hid (k < (digs x).length ∨ k < (digs y).length ∨ 0 < cr) := .inl (by rw [HNA.out]; exact hx)
        generalize (digs x).getD k 0 = dx at kx hs1 hsx
        generalize (digs y).getD k 0 = dy at ky hs hsy
        have es1 : (cr : Int) + (dx : Int) = (s1 : Int) := by omega
        have es : (s1 : Int) + (dy : Int) = (s : Int) := by omega
        have hs3 : s ≤ 2000000 := by omega
        have hs4 : s1 ≤ 2000000 := by omega
        clear hs hs1
        clear hbd
        go_wp2_with (at_builtin; refine wpList_append_own _ rfl _ _ 63 rfl (w.heap.size + 4) 51 i0 (.int .u64 0) 1 8 Tryz.underlying63 hi hz0 hz1 hz2 rfl (by decide) _ _ _ rfl (HO.out.alloc _) ⟨wr.heap.size, 0, none⟩ 1 1 [.int .u64 ((s : Int) % 1000000)] rfl rfl ?c1 ?c2 ?c3 ?c4 ?c5 ?_)
        case c1 =>
          intro j u hj
          match j, hj with
          | 0, hj => simp at hj; subst hj; simp [Addr.add]
        case c2 => intro u hu; simp at hu; subst hu; rfl
        case c3 => have := HR.out.len; unfold maxLen; omega
        case c4 => have := HR.out.len; omega
        case c5 => simp; omega
        intro v' w1 hown' hgrow _
        obtain ⟨p', ln', cp', rfl⟩ := owns_slice hown'
        have hne : ∀ j, j < w.heap.size + 4 → some j ≠ (Value.slice p ln cp).ownBlock := fun j hj h => by have := HO.out.lt j h.symm; omega
        have G0 := Lib.hid ((H0.out.alloc _).grown hgrow (hne _ (by omega)))
        have G1 := Lib.hid ((H1.out.alloc _).grown hgrow (hne _ (by omega)))
        have G2 := Lib.hid ((H2.out.alloc _).grown hgrow (hne _ (by omega)))
        have G3 := Lib.hid ((H3.out.alloc _).grown hgrow (hne _ (by omega)))
        have HB1 := Lib.hid ((HW.out.alloc (by omega) _).grown hgrow (by simp; omega) (fun j hj => by have := (HO.out.lt j hj).1; omega))
        have HO1 := Lib.hid hown'
        have HR2 := Lib.hid (HR.out.round HG.out)
        rw [← HS.out] at HR2
        clear hown' hgrow hne HO HR H0 H1 H2 H3 HW k0 k1 k20 k21 k2f k2g k30 k31 k3f
        have k1 := G3.out.c1
        have k2 := G3.out.f1
        go_wp2_with fail
        go_roundw
        case rel =>
          refine ⟨s / 1000000, k + 1, ds ++ [s % 1000000], .slice p' ln' cp', by go_num, by go_num, HR2.out, by omega, ?_, G0.out.set (by show w.heap.size + 3 ≠ w.heap.size; omega) _, G1.out.set (by show w.heap.size + 3 ≠ w.heap.size + 1; omega) _, G2.out.set (by show w.heap.size + 3 ≠ w.heap.size + 2; omega) _, G3.out.set1 _, ?_⟩
          · have := ownsRow_setCell_below HO1.out (a := ⟨w.heap.size + 3, 1, none⟩) (by show w.heap.size + 3 < w.heap.size + 4; omega) (.slice p' ln' cp')
            simpa [u64s] using this
          · exact HB1.out.setCell (p := ⟨w.heap.size + 3, 1, none⟩) (Nat.le_add_right _ _) _
        case measure => simp [intOf]; omega
      · obtain ⟨s, hs⟩ : ∃ s, s = s1 := ⟨_, rfl⟩
        have HS : Hid (s = cr + (digs x).getD k 0 + (digs y).getD k 0) := by show _ = _; rw [hs, hs1, getD_out (l := digs y) (by rw [HNB.out]; omega)]; rfl
        have HG : Hid (k < (digs x).length ∨ k < (digs y).length ∨ 0 < cr) := .inl (by rw [HNA.out]; exact hx)
        subst hs
        generalize (digs x).getD k 0 = dx at kx hs1 hsx
        have es1 : (cr : Int) + (dx : Int) = (s : Int) := by omega
        have hs3 : s ≤ 2000000 := by omega
        clear hs1
        clear hbd
        go_wp2_with (at_builtin; refine wpList_append_own _ rfl _ _ 63 rfl (w.heap.size + 4) 51 i0 (.int .u64 0) 1 8 Tryz.underlying63 hi hz0 hz1 hz2 rfl (by decide) _ _ _ rfl (HO.out.alloc _) ⟨wr.heap.size, 0, none⟩ 1 1 [.int .u64 ((s : Int) % 1000000)] rfl rfl ?c1 ?c2 ?c3 ?c4 ?c5 ?_)
        case c1 =>
          intro j u hj
          match j, hj with
          | 0, hj => simp at hj; subst hj; simp [Addr.add]
        case c2 => intro u hu; simp at hu; subst hu; rfl
        case c3 => have := HR.out.len; unfold maxLen; omega
        case c4 => have := HR.out.len; omega
        case c5 => simp; omega
        intro v' w1 hown' hgrow _
        obtain ⟨p', ln', cp', rfl⟩ := owns_slice hown'
        have hne : ∀ j, j < w.heap.size + 4 → some j ≠ (Value.slice p ln cp).ownBlock := fun j hj h => by have := HO.out.lt j h.symm; omega
        have G0 := Lib.hid ((H0.out.alloc _).grown hgrow (hne _ (by omega)))
        have G1 := Lib.hid ((H1.out.alloc _).grown hgrow (hne _ (by omega)))
        have G2 := Lib.hid ((H2.out.alloc _).grown hgrow (hne _ (by omega)))
        have G3 := Lib.hid ((H3.out.alloc _).grown hgrow (hne _ (by omega)))
        have HB1 := Lib.hid ((HW.out.alloc (by omega) _).grown hgrow (by simp; omega) (fun j hj => by have := (HO.out.lt j hj).1; omega))
        have HO1 := Lib.hid hown'
        have HR2 := Lib.hid (HR.out.round HG.out)
        rw [← HS.out] at HR2
        clear hown' hgrow hne HO HR H0 H1 H2 H3 HW k0 k1 k20 k21 k2f k2g k30 k31 k3f
        have k1 := G3.out.c1
        have k2 := G3.out.f1
        go_wp2_with fail
        go_roundw
        case rel =>
          refine ⟨s / 1000000, k + 1, ds ++ [s % 1000000], .slice p' ln' cp', by go_num, by go_num, HR2.out, by omega, ?_, G0.out.set (by show w.heap.size + 3 ≠ w.heap.size; omega) _, G1.out.set (by show w.heap.size + 3 ≠ w.heap.size + 1; omega) _, G2.out.set (by show w.heap.size + 3 ≠ w.heap.size + 2; omega) _, G3.out.set1 _, ?_⟩
          · have := ownsRow_setCell_below HO1.out (a := ⟨w.heap.size + 3, 1, none⟩) (by show w.heap.size + 3 < w.heap.size + 4; omega) (.slice p' ln' cp')
            simpa [u64s] using this
          · exact HB1.out.setCell (p := ⟨w.heap.size + 3, 1, none⟩) (Nat.le_add_right _ _) _
        case measure => simp [intOf]; omega
    · have HX0 : Hid ((digs x).getD k 0 = 0) := getD_out (by rw [HNA.out]; omega)
      by_cases hy : k < nb
      · obtain ⟨gb, rfl, ky⟩ := URow.at HB.out HW.out hy HNB.out
        have hk9 : k ≤ 1900 := by omega
        obtain ⟨s, hs⟩ : ∃ s, s = cr + (digs y).getD k 0 := ⟨_, rfl⟩
        have HS : Hid (s = cr + (digs x).getD k 0 + (digs y).getD k 0) := by show _ = _; rw [hs, HX0.out]; rfl
        have HG : Hid (k < (digs x).length ∨ k < (digs y).length ∨ 0 < cr) := .inr (.inl (by rw [HNB.out]; exact hy))
        generalize (digs y).getD k 0 = dy at ky hs hsy
        have es : (cr : Int) + (dy : Int) = (s : Int) := by omega
        have hs3 : s ≤ 2000000 := by omega
        clear hs
        clear hbd
        go_wp2_with (at_builtin; refine wpList_append_own _ rfl _ _ 63 rfl (w.heap.size + 4) 51 i0 (.int .u64 0) 1 8 Tryz.underlying63 hi hz0 hz1 hz2 rfl (by decide) _ _ _ rfl (HO.out.alloc _) ⟨wr.heap.size, 0, none⟩ 1 1 [.int .u64 ((s : Int) % 1000000)] rfl rfl ?c1 ?c2 ?c3 ?c4 ?c5 ?_)
        case c1 =>
          intro j u hj
          match j, hj with
          | 0, hj => simp at hj; subst hj; simp [Addr.add]
        case c2 => intro u hu; simp at hu; subst hu; rfl
        case c3 => have := HR.out.len; unfold maxLen; omega
        case c4 => have := HR.out.len; omega
        case c5 => simp; omega
        intro v' w1 hown' hgrow _
        obtain ⟨p', ln', cp', rfl⟩ := owns_slice hown'
        have hne : ∀ j, j < w.heap.size + 4 → some j ≠ (Value.slice p ln cp).ownBlock := fun j hj h => by have := HO.out.lt j h.symm; omega
        have G0 := Lib.hid ((H0.out.alloc _).grown hgrow (hne _ (by omega)))
        have G1 := Lib.hid ((H1.out.alloc _).grown hgrow (hne _ (by omega)))
        have G2 := Lib.hid ((H2.out.alloc _).grown hgrow (hne _ (by omega)))
        have G3 := Lib.hid ((H3.out.alloc _).grown hgrow (hne _ (by omega)))
        have HB1 := Lib.hid ((HW.out.alloc (by omega) _).grown hgrow (by simp; omega) (fun j hj => by have := (HO.out.lt j hj).1; omega))
        have HO1 := Lib.hid hown'
        have HR2 := Lib.hid (HR.out.round HG.out)
        rw [← HS.out] at HR2
        clear hown' hgrow hne HO HR H0 H1 H2 H3 HW k0 k1 k20 k21 k2f k2g k30 k31 k3f
        have k1 := G3.out.c1
        have k2 := G3.out.f1
        go_wp2_with fail
        go_roundw
        case rel =>
          refine ⟨s / 1000000, k + 1, ds ++ [s % 1000000], .slice p' ln' cp', by go_num, by go_num, HR2.out, by omega, ?_, G0.out.set (by show w.heap.size + 3 ≠ w.heap.size; omega) _, G1.out.set (by show w.heap.size + 3 ≠ w.heap.size + 1; omega) _, G2.out.set (by show w.heap.size + 3 ≠ w.heap.size + 2; omega) _, G3.out.set1 _, ?_⟩
          · have := ownsRow_setCell_below HO1.out (a := ⟨w.heap.size + 3, 1, none⟩) (by show w.heap.size + 3 < w.heap.size + 4; omega) (.slice p' ln' cp')
            simpa [u64s] using this
          · exact HB1.out.setCell (p := ⟨w.heap.size + 3, 1, none⟩) (Nat.le_add_right _ _) _
        case measure => simp [intOf]; omega
      · have HY0 : Hid ((digs y).getD k 0 = 0) := getD_out (by rw [HNB.out]; omega)
        by_cases hc : 0 < cr
        · have hk9 : k ≤ 1900 := hbd.out hc
          obtain ⟨s, hs⟩ : ∃ s, s = cr := ⟨_, rfl⟩
          have HS : Hid (s = cr + (digs x).getD k 0 + (digs y).getD k 0) := by show _ = _; rw [hs, HX0.out, HY0.out]; rfl
          have HG : Hid (k < (digs x).length ∨ k < (digs y).length ∨ 0 < cr) := .inr (.inr hc)
          subst hs
          have hs3 : s ≤ 2000000 := by omega
          clear hbd
          go_wp2_with (at_builtin; refine wpList_append_own _ rfl _ _ 63 rfl (w.heap.size + 4) 51 i0 (.int .u64 0) 1 8 Tryz.underlying63 hi hz0 hz1 hz2 rfl (by decide) _ _ _ rfl (HO.out.alloc _) ⟨wr.heap.size, 0, none⟩ 1 1 [.int .u64 ((s : Int) % 1000000)] rfl rfl ?c1 ?c2 ?c3 ?c4 ?c5 ?_)
          case c1 =>
            intro j u hj
            match j, hj with
            | 0, hj => simp at hj; subst hj; simp [Addr.add]
          case c2 => intro u hu; simp at hu; subst hu; rfl
          case c3 => have := HR.out.len; unfold maxLen; omega
          case c4 => have := HR.out.len; omega
          case c5 => simp; omega
          intro v' w1 hown' hgrow _
          obtain ⟨p', ln', cp', rfl⟩ := owns_slice hown'
          have hne : ∀ j, j < w.heap.size + 4 → some j ≠ (Value.slice p ln cp).ownBlock := fun j hj h => by have := HO.out.lt j h.symm; omega
          have G0 := Lib.hid ((H0.out.alloc _).grown hgrow (hne _ (by omega)))
          have G1 := Lib.hid ((H1.out.alloc _).grown hgrow (hne _ (by omega)))
          have G2 := Lib.hid ((H2.out.alloc _).grown hgrow (hne _ (by omega)))
          have G3 := Lib.hid ((H3.out.alloc _).grown hgrow (hne _ (by omega)))
          have HB1 := Lib.hid ((HW.out.alloc (by omega) _).grown hgrow (by simp; omega) (fun j hj => by have := (HO.out.lt j hj).1; omega))
          have HO1 := Lib.hid hown'
          have HR2 := Lib.hid (HR.out.round HG.out)
          rw [← HS.out] at HR2
          clear hown' hgrow hne HO HR H0 H1 H2 H3 HW k0 k1 k20 k21 k2f k2g k30 k31 k3f
          have k1 := G3.out.c1
          have k2 := G3.out.f1
          go_wp2_with fail
          go_roundw
          case rel =>
            refine ⟨s / 1000000, k + 1, ds ++ [s % 1000000], .slice p' ln' cp', by go_num, by go_num, HR2.out, by omega, ?_, G0.out.set (by show w.heap.size + 3 ≠ w.heap.size; omega) _, G1.out.set (by show w.heap.size + 3 ≠ w.heap.size + 1; omega) _, G2.out.set (by show w.heap.size + 3 ≠ w.heap.size + 2; omega) _, G3.out.set1 _, ?_⟩
            · have := ownsRow_setCell_below HO1.out (a := ⟨w.heap.size + 3, 1, none⟩) (by show w.heap.size + 3 < w.heap.size + 4; omega) (.slice p' ln' cp')
              simpa [u64s] using this
            · exact HB1.out.setCell (p := ⟨w.heap.size + 3, 1, none⟩) (Nat.le_add_right _ _) _
          case measure => simp [intOf]; omega
        · obtain rfl : cr = 0 := by omega
          have HE : Hid (ds = digs (x + y)) := HR.out.done (by rw [HNA.out]; omega) (by rw [HNB.out]; omega)
          clear hbd
          go_wp2_with fail
          refine bodyPost_ret (v := .agg #[.bool false, .slice p ln cp]) (by simp [results, Tryz.results51, go_sem, k20, k21]) rfl ⟨_, rfl, ?_, ?_⟩
          · rw [← HE.out]
            exact owns_down (ownsRow_setCell_below (ownsRow_setCell_below HO.out (by show w.heap.size + 2 < w.heap.size + 4; omega) _) (by show w.heap.size + 2 < w.heap.size + 4; omega) _) (by omega)
          · exact (HW.out.setCell (p := ⟨w.heap.size + 2, 0, none⟩) (Nat.le_add_right _ _) _).setCell (p := ⟨w.heap.size + 2, 1, none⟩) (Nat.le_add_right _ _) _
end Go.Proofs.YtokbdleokihdaaaGreatDoor
namespace Go.Proofs.YtokbdleokihdaaaGreatDoor
open Go.RowKit

set_option maxRecDepth 100000 in
set_option maxHeartbeats 4000000 in
theorem less_any (ma mb : Bool) (va vb : Value) (x y : Nat) (hxy : y ≤ x) (w : World) (ha : URow w va (digs x)) (hb : URow w vb (digs y)) (hla : (digs x).length ≤ 1900) (_hlb : (digs y).length ≤ 1900) :
    Calls Tryz.prog 66 #[.agg #[.bool ma, va], .agg #[.bool mb, vb]] w fun e w' => ∃ v, e = .returned v ∧ BigV w' v ((x - y : Nat) : Int) ∧ Below w.heap.size w w' := by
  obtain ⟨i0, hi, hz0, hz1, hz2⟩ := info_parts u64info
  obtain ⟨pa, ca, rfl, -, ha⟩ := ha
  obtain ⟨pb, cb, rfl, -, hb⟩ := hb
  have HA := Lib.hid ha
  have HB := Lib.hid hb
  clear ha hb
  generalize hna : (digs x).length = na at *
  generalize hnb : (digs y).length = nb at *
  have HNA := Lib.hid hna
  have HNB := Lib.hid hnb
  have HXY := Lib.hid hxy
  clear hna hnb hxy
  go_enter Tryz.func66, Tryz.ntmps66
  go_wp2_with fail
  obtain ⟨hB3, hz3, -⟩ := boxes3 w #[.bool ma, .slice pa na ca] #[.bool mb, .slice pb nb cb] #[.bool false, .slice none 0 0] 65 65 65
  have b0 := (((Bg.new w ma (.slice pa na ca) 65).alloc (.cells #[.bool mb, .slice pb nb cb] 65)).alloc (.cells #[.bool false, .slice none 0 0] 65)).alloc (.cells #[.bool false, .slice none 0 0] 65)
  have b1 := ((Bg.new (w.alloc (.cells #[.bool ma, .slice pa na ca] 65)) mb (.slice pb nb cb) 65).alloc (.cells #[.bool false, .slice none 0 0] 65)).alloc (.cells #[.bool false, .slice none 0 0] 65)
  have b2 := (Bg.new ((w.alloc (.cells #[.bool ma, .slice pa na ca] 65)).alloc (.cells #[.bool mb, .slice pb nb cb] 65)) false (.slice none 0 0) 65).alloc (.cells #[.bool false, .slice none 0 0] 65)
  have b3 := Bg.new (((w.alloc (.cells #[.bool ma, .slice pa na ca] 65)).alloc (.cells #[.bool mb, .slice pb nb cb] 65)).alloc (.cells #[.bool false, .slice none 0 0] 65)) false (.slice none 0 0) 65
  have hB4 := hB3.alloc (by omega) (.cells #[.bool false, .slice none 0 0] 65)
  rw [hz3] at b3
  have e2 : ((w.alloc (.cells #[.bool ma, .slice pa na ca] 65)).alloc (.cells #[.bool mb, .slice pb nb cb] 65)).heap.size = w.heap.size + 2 := by simp
  have e1 : (w.alloc (.cells #[.bool ma, .slice pa na ca] 65)).heap.size = w.heap.size + 1 := by simp
  rw [e2] at b2
  rw [e1] at b1
  clear hB3 hz3 e1 e2
  generalize ((((w.alloc (.cells #[.bool ma, .slice pa na ca] 65)).alloc (.cells #[.bool mb, .slice pb nb cb] 65)).alloc (.cells #[.bool false, .slice none 0 0] 65)).alloc (.cells #[.bool false, .slice none 0 0] 65)) = W0 at *
  have kk := b0.c1
  go_wp2_with fail
  clear kk
  go_loopw [6, 14] (fun c i wr => ∃ (br k : Nat) (ds : List Nat) (v : Value), c = .int .u64 (br : Int) ∧ i = .int .i64 (k : Int) ∧ SubR (digs x) (digs y) ds k br ∧ k ≤ na ∧
      wr.ownsRow (w.heap.size + 4) 51 1 v ds.length (u64s ds) ∧ Bg wr w.heap.size ma (.slice pa na ca) ∧ Bg wr (w.heap.size + 1) mb (.slice pb nb cb) ∧ Bg wr (w.heap.size + 2) false (.slice none 0 0) ∧ Bg wr (w.heap.size + 3) false v ∧ Below w.heap.size w wr)
    (fun _ i _ => (na - intOf i).toNat)
  case atStart => exact ⟨0, 0, [], .slice none 0 0, rfl, rfl, SubR.start _ _, by omega, World.ownsRow_nil _ _ _ _, b0, b1, b2, b3, hB4⟩
  case round =>
    clear b0 b1 b2 b3 hB4
    obtain ⟨br, k, ds, v, rfl, rfl, hR, hk, hown, b0, b1, b2, b3, hB⟩ := hrel
    have HW := Lib.hid hB
    have HR := Lib.hid hR
    have HO := Lib.hid hown
    have hbr : br ≤ 1 := hR.hbr
    have hl3 := b3.lt
    have k1 := b1.c1
    have k20 := b2.c0
    have k21 := b2.c1
    have k2f := b2.f0
    have k2g := b2.f1
    have k30 := b3.c0
    have k31 := b3.c1
    have k3f := b3.f1
    have H0 := Lib.hid b0
    have H1 := Lib.hid b1
    have H2 := Lib.hid b2
    have H3 := Lib.hid b3
    obtain ⟨p, ln, cp, rfl⟩ := owns_slice hown
    clear hB hR hown b0 b1 b2 b3
    have hsx : (digs x).getD k 0 < 1000000 := small_getD (small_digs x) k
    have hsy : (digs y).getD k 0 < 1000000 := small_getD (small_digs y) k
    by_cases hx : k < na
    · obtain ⟨ga, rfl, kx⟩ := URow.at HA.out HW.out hx HNA.out
      by_cases hy : k < nb
      · obtain ⟨gb, rfl, ky⟩ := URow.at HB.out HW.out hy HNB.out
        obtain ⟨t, ht⟩ : ∃ t, t = br + (digs y).getD k 0 := ⟨_, rfl⟩
        have HT := Lib.hid ht
        obtain ⟨dx, hdx⟩ : ∃ dx, dx = (digs x).getD k 0 := ⟨_, rfl⟩
        have HDX := Lib.hid hdx
        rw [← hdx] at kx hsx
        generalize (digs y).getD k 0 = dy at ky ht hsy
        have et : (br : Int) + (dy : Int) = (t : Int) := by omega
        have ht3 : t ≤ 1000000 := by omega
        clear ht hdx
        by_cases hlt : dx < t
        · obtain ⟨z, hz⟩ : ∃ z, z = dx + 1000000 := ⟨_, rfl⟩
          obtain ⟨s, hs⟩ : ∃ s, s = z - t := ⟨_, rfl⟩
          have ez : (dx : Int) + 1000000 = (z : Int) := by omega
          have es : (z : Int) - (t : Int) = (s : Int) := by omega
          have hz3 : t ≤ z := by omega
          have hs3 : s < 1000000 := by omega
          have HR2 : Hid (SubR (digs x) (digs y) (ds ++ [s]) (k + 1) 1) := HR.out.round hs3 (by omega) (by rw [← HT.out, ← HDX.out]; omega)
          have hz4 : z < 2000000 := by omega
          clear hz hs
          go_wp2_with (at_builtin; refine wpList_append_own _ rfl _ _ 63 rfl (w.heap.size + 4) 51 i0 (.int .u64 0) 1 8 Tryz.underlying63 hi hz0 hz1 hz2 rfl (by decide) _ _ _ rfl (HO.out.alloc _) ⟨wr.heap.size, 0, none⟩ 1 1 [.int .u64 (s : Int)] rfl rfl ?c1 ?c2 ?c3 ?c4 ?c5 ?_)
          case c1 =>
            intro j u hj
            match j, hj with
            | 0, hj => simp at hj; subst hj; simp [Addr.add]
          case c2 => intro u hu; simp at hu; subst hu; rfl
          case c3 => have := HR.out.len; unfold maxLen; omega
          case c4 => have := HR.out.len; omega
          case c5 => simp; omega
          intro v' w1 hown' hgrow _
          obtain ⟨p', ln', cp', rfl⟩ := owns_slice hown'
          have hne : ∀ j, j < w.heap.size + 4 → some j ≠ (Value.slice p ln cp).ownBlock := fun j hj h => by have := HO.out.lt j h.symm; omega
          have G0 := Lib.hid ((H0.out.alloc _).grown hgrow (hne _ (by omega)))
          have G1 := Lib.hid ((H1.out.alloc _).grown hgrow (hne _ (by omega)))
          have G2 := Lib.hid ((H2.out.alloc _).grown hgrow (hne _ (by omega)))
          have G3 := Lib.hid ((H3.out.alloc _).grown hgrow (hne _ (by omega)))
          have HB1 := Lib.hid ((HW.out.alloc (by omega) _).grown hgrow (by simp; omega) (fun j hj => by have := (HO.out.lt j hj).1; omega))
          have HO1 := Lib.hid hown'
          clear hown' hgrow hne HO HR H0 H1 H2 H3 HW k1 k20 k21 k2f k2g k30 k31 k3f
          have k1 := G3.out.c1
          have k2 := G3.out.f1
          go_wp2_with fail
          go_roundw
          case rel =>
            refine ⟨1, k + 1, ds ++ [s], .slice p' ln' cp', by go_num, by go_num, HR2.out, by omega, ?_, G0.out.set (by show w.heap.size + 3 ≠ w.heap.size; omega) _, G1.out.set (by show w.heap.size + 3 ≠ w.heap.size + 1; omega) _, G2.out.set (by show w.heap.size + 3 ≠ w.heap.size + 2; omega) _, G3.out.set1 _, ?_⟩
            · have := ownsRow_setCell_below HO1.out (a := ⟨w.heap.size + 3, 1, none⟩) (by show w.heap.size + 3 < w.heap.size + 4; omega) (.slice p' ln' cp')
              simpa [u64s] using this
            · exact HB1.out.setCell (p := ⟨w.heap.size + 3, 1, none⟩) (Nat.le_add_right _ _) _
          case measure => simp [intOf]; omega
        · obtain ⟨s, hs⟩ : ∃ s, s = dx - t := ⟨_, rfl⟩
          have es : (dx : Int) - (t : Int) = (s : Int) := by omega
          have hs3 : s < 1000000 := by omega
          have hz3 : t ≤ dx := by omega
          have HR2 : Hid (SubR (digs x) (digs y) (ds ++ [s]) (k + 1) 0) := HR.out.round hs3 (by omega) (by rw [← HT.out, ← HDX.out]; omega)
          clear hs
          go_wp2_with (at_builtin; refine wpList_append_own _ rfl _ _ 63 rfl (w.heap.size + 4) 51 i0 (.int .u64 0) 1 8 Tryz.underlying63 hi hz0 hz1 hz2 rfl (by decide) _ _ _ rfl (HO.out.alloc _) ⟨wr.heap.size, 0, none⟩ 1 1 [.int .u64 (s : Int)] rfl rfl ?c1 ?c2 ?c3 ?c4 ?c5 ?_)
          case c1 =>
            intro j u hj
            match j, hj with
            | 0, hj => simp at hj; subst hj; simp [Addr.add]
          case c2 => intro u hu; simp at hu; subst hu; rfl
          case c3 => have := HR.out.len; unfold maxLen; omega
          case c4 => have := HR.out.len; omega
          case c5 => simp; omega
          intro v' w1 hown' hgrow _
          obtain ⟨p', ln', cp', rfl⟩ := owns_slice hown'
          have hne : ∀ j, j < w.heap.size + 4 → some j ≠ (Value.slice p ln cp).ownBlock := fun j hj h => by have := HO.out.lt j h.symm; omega
          have G0 := Lib.hid ((H0.out.alloc _).grown hgrow (hne _ (by omega)))
          have G1 := Lib.hid ((H1.out.alloc _).grown hgrow (hne _ (by omega)))
          have G2 := Lib.hid ((H2.out.alloc _).grown hgrow (hne _ (by omega)))
          have G3 := Lib.hid ((H3.out.alloc _).grown hgrow (hne _ (by omega)))
          have HB1 := Lib.hid ((HW.out.alloc (by omega) _).grown hgrow (by simp; omega) (fun j hj => by have := (HO.out.lt j hj).1; omega))
          have HO1 := Lib.hid hown'
          clear hown' hgrow hne HO HR H0 H1 H2 H3 HW k1 k20 k21 k2f k2g k30 k31 k3f
          have k1 := G3.out.c1
          have k2 := G3.out.f1
          go_wp2_with fail
          go_roundw
          case rel =>
            refine ⟨0, k + 1, ds ++ [s], .slice p' ln' cp', by go_num, by go_num, HR2.out, by omega, ?_, G0.out.set (by show w.heap.size + 3 ≠ w.heap.size; omega) _, G1.out.set (by show w.heap.size + 3 ≠ w.heap.size + 1; omega) _, G2.out.set (by show w.heap.size + 3 ≠ w.heap.size + 2; omega) _, G3.out.set1 _, ?_⟩
            · have := ownsRow_setCell_below HO1.out (a := ⟨w.heap.size + 3, 1, none⟩) (by show w.heap.size + 3 < w.heap.size + 4; omega) (.slice p' ln' cp')
              simpa [u64s] using this
            · exact HB1.out.setCell (p := ⟨w.heap.size + 3, 1, none⟩) (Nat.le_add_right _ _) _
          case measure => simp [intOf]; omega
      · have HY0 : Hid ((digs y).getD k 0 = 0) := getD_out (by rw [HNB.out]; omega)
        obtain ⟨t, ht⟩ : ∃ t, t = br := ⟨_, rfl⟩
        have HT : Hid (t = br + (digs y).getD k 0) := by show _ = _; rw [ht, HY0.out]; rfl
        obtain ⟨dx, hdx⟩ : ∃ dx, dx = (digs x).getD k 0 := ⟨_, rfl⟩
        have HDX := Lib.hid hdx
        rw [← hdx] at kx hsx
        subst ht
        have ht3 : t ≤ 1000000 := by omega
        clear hdx
        by_cases hlt : dx < t
        · obtain ⟨z, hz⟩ : ∃ z, z = dx + 1000000 := ⟨_, rfl⟩
          obtain ⟨s, hs⟩ : ∃ s, s = z - t := ⟨_, rfl⟩
          have ez : (dx : Int) + 1000000 = (z : Int) := by omega
          have es : (z : Int) - (t : Int) = (s : Int) := by omega
          have hz3 : t ≤ z := by omega
          have hs3 : s < 1000000 := by omega
          have HR2 : Hid (SubR (digs x) (digs y) (ds ++ [s]) (k + 1) 1) := HR.out.round hs3 (by omega) (by rw [← HT.out, ← HDX.out]; omega)
          have hz4 : z < 2000000 := by omega
          clear hz hs
          go_wp2_with (at_builtin; refine wpList_append_own _ rfl _ _ 63 rfl (w.heap.size + 4) 51 i0 (.int .u64 0) 1 8 Tryz.underlying63 hi hz0 hz1 hz2 rfl (by decide) _ _ _ rfl (HO.out.alloc _) ⟨wr.heap.size, 0, none⟩ 1 1 [.int .u64 (s : Int)] rfl rfl ?c1 ?c2 ?c3 ?c4 ?c5 ?_)
          case c1 =>
            intro j u hj
            match j, hj with
            | 0, hj => simp at hj; subst hj; simp [Addr.add]
          case c2 => intro u hu; simp at hu; subst hu; rfl
          case c3 => have := HR.out.len; unfold maxLen; omega
          case c4 => have := HR.out.len; omega
          case c5 => simp; omega
          intro v' w1 hown' hgrow _
          obtain ⟨p', ln', cp', rfl⟩ := owns_slice hown'
          have hne : ∀ j, j < w.heap.size + 4 → some j ≠ (Value.slice p ln cp).ownBlock := fun j hj h => by have := HO.out.lt j h.symm; omega
          have G0 := Lib.hid ((H0.out.alloc _).grown hgrow (hne _ (by omega)))
          have G1 := Lib.hid ((H1.out.alloc _).grown hgrow (hne _ (by omega)))
          have G2 := Lib.hid ((H2.out.alloc _).grown hgrow (hne _ (by omega)))
          have G3 := Lib.hid ((H3.out.alloc _).grown hgrow (hne _ (by omega)))
          have HB1 := Lib.hid ((HW.out.alloc (by omega) _).grown hgrow (by simp; omega) (fun j hj => by have := (HO.out.lt j hj).1; omega))
          have HO1 := Lib.hid hown'
          clear hown' hgrow hne HO HR H0 H1 H2 H3 HW k1 k20 k21 k2f k2g k30 k31 k3f
          have k1 := G3.out.c1
          have k2 := G3.out.f1
          go_wp2_with fail
          go_roundw
          case rel =>
            refine ⟨1, k + 1, ds ++ [s], .slice p' ln' cp', by go_num, by go_num, HR2.out, by omega, ?_, G0.out.set (by show w.heap.size + 3 ≠ w.heap.size; omega) _, G1.out.set (by show w.heap.size + 3 ≠ w.heap.size + 1; omega) _, G2.out.set (by show w.heap.size + 3 ≠ w.heap.size + 2; omega) _, G3.out.set1 _, ?_⟩
            · have := ownsRow_setCell_below HO1.out (a := ⟨w.heap.size + 3, 1, none⟩) (by show w.heap.size + 3 < w.heap.size + 4; omega) (.slice p' ln' cp')
              simpa [u64s] using this
            · exact HB1.out.setCell (p := ⟨w.heap.size + 3, 1, none⟩) (Nat.le_add_right _ _) _
          case measure => simp [intOf]; omega
        · obtain ⟨s, hs⟩ : ∃ s, s = dx - t := ⟨_, rfl⟩
          have es : (dx : Int) - (t : Int) = (s : Int) := by omega
          have hs3 : s < 1000000 := by omega
          have hz3 : t ≤ dx := by omega
          have HR2 : Hid (SubR (digs x) (digs y) (ds ++ [s]) (k + 1) 0) := HR.out.round hs3 (by omega) (by rw [← HT.out, ← HDX.out]; omega)
          clear hs
          go_wp2_with (at_builtin; refine wpList_append_own _ rfl _ _ 63 rfl (w.heap.size + 4) 51 i0 (.int .u64 0) 1 8 Tryz.underlying63 hi hz0 hz1 hz2 rfl (by decide) _ _ _ rfl (HO.out.alloc _) ⟨wr.heap.size, 0, none⟩ 1 1 [.int .u64 (s : Int)] rfl rfl ?c1 ?c2 ?c3 ?c4 ?c5 ?_)
          case c1 =>
            intro j u hj
            match j, hj with
            | 0, hj => simp at hj; subst hj; simp [Addr.add]
          case c2 => intro u hu; simp at hu; subst hu; rfl
          case c3 => have := HR.out.len; unfold maxLen; omega
          case c4 => have := HR.out.len; omega
          case c5 => simp; omega
          intro v' w1 hown' hgrow _
          obtain ⟨p', ln', cp', rfl⟩ := owns_slice hown'
          have hne : ∀ j, j < w.heap.size + 4 → some j ≠ (Value.slice p ln cp).ownBlock := fun j hj h => by have := HO.out.lt j h.symm; omega
          have G0 := Lib.hid ((H0.out.alloc _).grown hgrow (hne _ (by omega)))
          have G1 := Lib.hid ((H1.out.alloc _).grown hgrow (hne _ (by omega)))
          have G2 := Lib.hid ((H2.out.alloc _).grown hgrow (hne _ (by omega)))
          have G3 := Lib.hid ((H3.out.alloc _).grown hgrow (hne _ (by omega)))
          have HB1 := Lib.hid ((HW.out.alloc (by omega) _).grown hgrow (by simp; omega) (fun j hj => by have := (HO.out.lt j hj).1; omega))
          have HO1 := Lib.hid hown'
          clear hown' hgrow hne HO HR H0 H1 H2 H3 HW k1 k20 k21 k2f k2g k30 k31 k3f
          have k1 := G3.out.c1
          have k2 := G3.out.f1
          go_wp2_with fail
          go_roundw
          case rel =>
            refine ⟨0, k + 1, ds ++ [s], .slice p' ln' cp', by go_num, by go_num, HR2.out, by omega, ?_, G0.out.set (by show w.heap.size + 3 ≠ w.heap.size; omega) _, G1.out.set (by show w.heap.size + 3 ≠ w.heap.size + 1; omega) _, G2.out.set (by show w.heap.size + 3 ≠ w.heap.size + 2; omega) _, G3.out.set1 _, ?_⟩
            · have := ownsRow_setCell_below HO1.out (a := ⟨w.heap.size + 3, 1, none⟩) (by show w.heap.size + 3 < w.heap.size + 4; omega) (.slice p' ln' cp')
              simpa [u64s] using this
            · exact HB1.out.setCell (p := ⟨w.heap.size + 3, 1, none⟩) (Nat.le_add_right _ _) _
          case measure => simp [intOf]; omega
    · obtain rfl : k = na := by omega
      have HE : Hid (val ds = x - y) := by
        have h := HR.out
        rw [← HNA.out] at h
        exact h.done HXY.out
      have HS : Hid (Small ds) := HR.out.small
      have HL : Hid (ds.length = k) := HR.out.len
      go_wp2_with fail
      refine (trimmed_v (URow.of_owns HO.out) HS.out (by rw [HL.out]; omega)).mono ?_
      rintro e w1 ⟨v, rfl, hv, hb1⟩
      rw [HE.out] at hv
      obtain ⟨rv, hrv, hv⟩ := hv
      have hneg : decide (((x - y : Nat) : Int) < 0) = false := by simp
      rw [hneg] at hrv
      subst hrv
      have HV := Lib.hid hv
      have g2 := H2.out.below hb1 (by omega)
      have HB2 := Lib.hid (HW.out.trans (hb1.mono (by omega)))
      have k20 := g2.c0
      have k21 := g2.c1
      have k2f := g2.f0
      have k2g := g2.f1
      have GG := Lib.hid g2
      clear hneg hb1 g2 HW HO hv HR H0 H1 H2 H3
      obtain ⟨p', cp', rfl, -, -⟩ := id HV.out
      go_wp2_with fail
      refine bodyPost_ret (v := .agg #[.bool false, .slice p' (digs ((x - y : Nat) : Int).natAbs).length cp']) (by simp [results, Tryz.results66, go_sem, k20, k21]) rfl ⟨_, rfl, ⟨.slice p' (digs ((x - y : Nat) : Int).natAbs).length cp', by simp, ?_⟩, ?_⟩
      · exact (HV.out.set GG.out 0 _).set (GG.out.set0 _) 1 _
      · exact (HB2.out.setCell (p := ⟨w.heap.size + 2, 0, none⟩) (Nat.le_add_right _ _) _).setCell (p := ⟨w.heap.size + 2, 1, none⟩) (Nat.le_add_right _ _) _
end Go.Proofs.YtokbdleokihdaaaGreatDoor
namespace Go.Proofs.YtokbdleokihdaaaGreatDoor
open Go.RowKit

set_option maxRecDepth 100000 in
set_option maxHeartbeats 2000000 in
theorem big_any (n : Nat) (hn : n < 18446744073709551616) (w : World) :
    Calls Tryz.prog 67 #[.int .u64 (n : Int)] w fun e w' => ∃ v, e = .returned (.agg #[.bool false, v]) ∧ w'.ownsRow w.heap.size 51 1 v (digsF 4 n).length (u64s (digsF 4 n)) ∧ Below w.heap.size w w' := by
  obtain ⟨i0, hi, hz0, hz1, hz2⟩ := info_parts u64info
  go_enter Tryz.func67, Tryz.ntmps67
  go_wp2_with fail
  go_loopw [0] (fun nv wr => ∃ (m f : Nat) (ds : List Nat) (v : Value), nv = .int .u64 (m : Int) ∧ digsF 4 n = ds ++ digsF f m ∧ ds.length + f = 4 ∧ m < 18446744073709551616 ∧ m < 1000000 ^ f ∧
      wr.ownsRow (w.heap.size + 2) 51 1 v ds.length (u64s ds) ∧ wr.cell? ⟨w.heap.size + 1, 0, none⟩ = some (.bool false) ∧ wr.cell? ⟨w.heap.size + 1, 1, none⟩ = some v ∧ wr.frozen? ⟨w.heap.size + 1, 1, none⟩ = false ∧
      wr.cell? ⟨w.heap.size, 0, none⟩ = some (.bool false) ∧ wr.cell? ⟨w.heap.size, 1, none⟩ = some (.slice none 0 0) ∧ wr.frozen? ⟨w.heap.size, 0, none⟩ = false ∧ wr.frozen? ⟨w.heap.size, 1, none⟩ = false ∧ Below w.heap.size w wr)
    (fun nv _ => (intOf nv).toNat)
  case atStart =>
    obtain ⟨hB, -, X1, X2⟩ := boxes2 w #[.bool false, .slice none 0 0] #[.bool false, .slice none 0 0] 65 65
    exact ⟨n, 4, [], .slice none 0 0, rfl, by simp, rfl, hn, Nat.lt_of_lt_of_le hn (by decide), World.ownsRow_nil _ _ _ _, by rw [X2]; rfl, by rw [X2]; rfl, World.frozen?_alloc_at _ _ _ _ (by simp), by rw [X1]; rfl, by rw [X1]; rfl, by rw [World.frozen?_alloc_past _ _ _ (by simp)]; exact World.frozen?_alloc_new .., by rw [World.frozen?_alloc_past _ _ _ (by simp)]; exact World.frozen?_alloc_new .., hB⟩
  case round =>
    obtain ⟨m, f, ds, v, rfl, hdg, hlen, hm64, hmf, hown, c0, c1, f1, r0, r1, g0, g1, hB⟩ := hrel
    have HB := Lib.hid hB
    have HD := Lib.hid hdg
    have HO := Lib.hid hown
    have hzw : w.heap.size + 1 < wr.heap.size := World.block_lt_of_cell? wr _ c0
    obtain ⟨p, ln, cp, rfl⟩ := owns_slice hown
    clear hB hdg
    by_cases h0 : m = 0
    · subst h0
      have HE : Hid (digsF 4 n = ds) := by show _ = _; rw [HD.out, digsF_zero, List.append_nil]
      clear hown
      go_wp2_with fail
      refine bodyPost_ret (v := .agg #[.bool false, .slice p ln cp]) (by simp [results, Tryz.results67, go_sem, r0, r1]) rfl ⟨_, rfl, ?_, ?_⟩
      · rw [HE.out]
        exact owns_down (ownsRow_setCell_below (ownsRow_setCell_below HO.out (by show w.heap.size < w.heap.size + 2; omega) _) (by show w.heap.size < w.heap.size + 2; omega) _) (by omega)
      · exact (HB.out.setCell (p := ⟨w.heap.size, 0, none⟩) (Nat.le_refl _) _).setCell (p := ⟨w.heap.size, 1, none⟩) (Nat.le_refl _) _
    · have hpos : 0 < m := by omega
      have e1 : ((m : Int)).tmod 1000000 = ((m % 1000000 : Nat) : Int) := by rw [Int.tmod_eq_emod_of_nonneg (by omega)]; omega
      have e2 : ((m : Int)).tdiv 1000000 = ((m / 1000000 : Nat) : Int) := by rw [Int.tdiv_eq_ediv_of_nonneg (by omega)]; omega
      go_wp2_with (at_builtin; refine wpList_append_own _ rfl _ _ 63 rfl (w.heap.size + 2) 51 i0 (.int .u64 0) 1 8 Tryz.underlying63 hi hz0 hz1 hz2 rfl (by decide) _ _ _ rfl (HO.out.alloc _) ⟨wr.heap.size, 0, none⟩ 1 1 [.int .u64 ((m : Int) % 1000000)] rfl rfl ?c1 ?c2 ?c3 ?c4 ?c5 ?_)
      case c1 =>
        intro j u hj
        match j, hj with
        | 0, hj => simp at hj; subst hj; simp [Addr.add]
      case c2 => intro u hu; simp at hu; subst hu; rfl
      case c3 => unfold maxLen; omega
      case c4 => omega
      case c5 => simp; omega
      intro v' w1 hown' hgrow _
      obtain ⟨p', ln', cp', rfl⟩ := owns_slice hown'
      have hne : ∀ j, j < w.heap.size + 2 → some j ≠ (Value.slice p ln cp).ownBlock := fun j hj h => by have := HO.out.lt j h.symm; omega
      have C0 := Lib.hid (hgrow.cell ((World.cell?_alloc_past _ _ _ (by show w.heap.size + 1 < _; omega)).trans c0) (hne (w.heap.size + 1) (by omega)))
      have C1 := Lib.hid (hgrow.cell ((World.cell?_alloc_past _ _ _ (by show w.heap.size + 1 < _; omega)).trans c1) (hne (w.heap.size + 1) (by omega)))
      have R0 := Lib.hid (hgrow.cell ((World.cell?_alloc_past _ _ _ (by show w.heap.size < _; omega)).trans r0) (hne w.heap.size (by omega)))
      have R1 := Lib.hid (hgrow.cell ((World.cell?_alloc_past _ _ _ (by show w.heap.size < _; omega)).trans r1) (hne w.heap.size (by omega)))
      have F1 : Hid (w1.frozen? ⟨w.heap.size + 1, 1, none⟩ = false) := by
        show _ = _
        rw [World.frozen?_of_block (w := wr.alloc _) (hgrow.block (w.heap.size + 1) (by simp; omega) (hne (w.heap.size + 1) (by omega)))]
        exact (World.frozen?_alloc_past _ _ _ (by show w.heap.size + 1 < _; omega)).trans f1
      have G0 : Hid (w1.frozen? ⟨w.heap.size, 0, none⟩ = false) := by
        show _ = _
        rw [World.frozen?_of_block (w := wr.alloc _) (hgrow.block w.heap.size (by simp; omega) (hne w.heap.size (by omega)))]
        exact (World.frozen?_alloc_past _ _ _ (by show w.heap.size < _; omega)).trans g0
      have G1 : Hid (w1.frozen? ⟨w.heap.size, 1, none⟩ = false) := by
        show _ = _
        rw [World.frozen?_of_block (w := wr.alloc _) (hgrow.block w.heap.size (by simp; omega) (hne w.heap.size (by omega)))]
        exact (World.frozen?_alloc_past _ _ _ (by show w.heap.size < _; omega)).trans g1
      have HB1 := Lib.hid ((HB.out.alloc (by omega) _).grown hgrow (by simp; omega) (fun j hj => by have := (HO.out.lt j hj).1; omega))
      have HO1 := Lib.hid hown'
      obtain ⟨f, rfl⟩ : ∃ g, f = g + 1 := by
        cases f with
        | zero => simp at hmf; omega
        | succ g => exact ⟨g, rfl⟩
      have HD2 : Hid (digsF 4 n = (ds ++ [m % 1000000]) ++ digsF f (m / 1000000)) := by
        show _ = _
        rw [HD.out, List.append_assoc]
        have : digsF (f + 1) m = m % 1000000 :: digsF f (m / 1000000) := by rw [digsF, if_neg h0]
        rw [this]; rfl
      have HM2 : Hid (m / 1000000 < 1000000 ^ f) := by
        show _ < _
        rw [Nat.div_lt_iff_lt_mul (by omega)]
        rwa [Nat.pow_succ] at hmf
      clear hown' hgrow hne c0 c1 r0 r1 f1 g0 g1 hown HO HB HD hmf
      have k1 := C1.out
      have k2 := F1.out
      go_wp2_with fail
      go_roundw
      case rel =>
        refine ⟨m / 1000000, f, ds ++ [m % 1000000], .slice p' ln' cp', by go_num, HD2.out, by simp; omega, by omega, HM2.out, ?_, ?_, ?_, ?_, ?_, ?_, ?_, ?_, ?_⟩
        · have := ownsRow_setCell_below HO1.out (a := ⟨w.heap.size + 1, 1, none⟩) (by show w.heap.size + 1 < w.heap.size + 2; omega) (.slice p' ln' cp')
          simpa [u64s] using this
        · rw [World.cell?_setCell_other (h := by simp)]; exact C0.out
        · exact World.cell?_setCell_same _ _ _ C1.out
        · rw [World.frozen?_setCell]; exact F1.out
        · rw [World.cell?_setCell_other (h := by simp)]; exact R0.out
        · rw [World.cell?_setCell_other (h := by simp)]; exact R1.out
        · rw [World.frozen?_setCell]; exact G0.out
        · rw [World.frozen?_setCell]; exact G1.out
        · exact HB1.out.setCell (p := ⟨w.heap.size + 1, 1, none⟩) (Nat.le_succ _) _
      case measure => simp [intOf]; omega

theorem big_v (n : Nat) (hn : n < 18446744073709551616) (w : World) :
    Calls Tryz.prog 67 #[.int .u64 (n : Int)] w fun e w' => ∃ v, e = .returned v ∧ BigV w' v (n : Int) ∧ Below w.heap.size w w' := by
  refine (big_any n hn w).mono ?_
  rintro e w' ⟨v, rfl, hrow, hb⟩
  rw [digsF_digs 4 n (by omega)] at hrow
  exact ⟨_, rfl, ⟨v, by simp, by simpa using URow.of_owns hrow⟩, hb⟩
end Go.Proofs.YtokbdleokihdaaaGreatDoor
namespace Go.Proofs.YtokbdleokihdaaaGreatDoor
open Go.RowKit

theorem ordB_cmp (a b : Int) : ordB (decide (a < 0)) (decide (b < 0)) (cmpN a.natAbs b.natAbs) = cmpZ a b := by
  unfold ordB cmpN cmpZ
  by_cases ha : a < 0 <;> by_cases hb : b < 0 <;> simp [ha, hb]
  · split <;> split <;> (try split) <;> (try split) <;> first | rfl | omega
  · omega
  · rw [if_neg (by omega), if_pos (by omega)]
  · split <;> split <;> (try split) <;> (try split) <;> first | rfl | omega
theorem order_v {w : World} {va vb : Value} {a b : Int} (ha : BigV w va a) (hb : BigV w vb b) (fa : Fit a) (fb : Fit b) :
    Calls Tryz.prog 34 #[va, vb] w fun e w' => e = .returned (.int .i64 (cmpZ a b)) ∧ Below w.heap.size w w' := by
  obtain ⟨ra, rfl, ha⟩ := ha
  obtain ⟨rb, rfl, hb⟩ := hb
  have := bigorder_any (decide (a < 0)) (decide (b < 0)) ra rb _ _ w ha hb (by have := fa.len; omega) (by have := fb.len; omega)
  rwa [amt_cmp, ordB_cmp] at this
end Go.Proofs.YtokbdleokihdaaaGreatDoor

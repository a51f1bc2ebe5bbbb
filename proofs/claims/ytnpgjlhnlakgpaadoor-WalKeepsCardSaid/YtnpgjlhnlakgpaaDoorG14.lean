/- The law WalTrims, walked. The law WalTrims, walked whole. -/
import Derived.Test.YtnpgjlhnlakgpaaDoorWalTr
import Derived.Test.YtnpgjlhnlakgpaaDoorWalOn
import Derived.Test.YtnpgjlhnlakgpaaDoorG12
import Derived.Test.YtnpgjlhnlakgpaaDoorWalRd
import Derived.Test.YtnpgjlhnlakgpaaDoorG11
import Derived.Test.YtnpgjlhnlakgpaaDoorG08
import Derived.Deep.CutBlock
import Derived.Maps.AppendAt
namespace Go.Proofs.YtnpgjlhnlakgpaaDoor
open Go.RowKit Go.Maps

theorem LInv.lok2 {d : Dk} {l : Lg} {all : List (List UInt8)} {a : Nat} {init : List (List (List UInt8))} {lst : List (List UInt8)} {sb : Nat} (h : LInv d l all a init lst sb) (hs : l.seg ≤ 65536) : l.Ok := by
  have h1 := h.next
  have h2 := h.max
  have h3 := h.a1
  have h4 := h.safe1
  refine ⟨by rw [h.nums]; simp, fun n hn => ?_, by have := h.bytes; omega, ⟨by omega, by omega⟩, by omega, ⟨h.seg1, hs⟩⟩
  rw [h.nums] at hn
  have := CInv.opens.nums_bd init a n hn
  omega
theorem row_of_blk {w w' : World} {B : Nat} {e : TypeId} {s n : Nat} {v : Value} {xs : List Value} (h : w.ownsRow B e s v n xs) (hb : ∀ k, v.ownBlock = some k → w'.heap[k]? = w.heap[k]?) : w'.ownsRow B e s v n xs := by
  refine ⟨h.1, ?_⟩
  rcases h.2 with h2 | ⟨g, cap, cur, rfl, h3, h4, h5⟩
  · exact .inl h2
  · exact .inr ⟨g, cap, cur, rfl, h3, by rw [hb g rfl]; exact h4, h5⟩
/-- A log on a calm disk, and all its records in a row of the law's own. -/
structure TrS (w : World) (B B3 lb db m sg k : Nat) (d : Dk) (l : Lg) (all : List (List UInt8)) (v : Value) (a g : Nat) : Prop where
  inv : ∃ init lst sb, LInv d l all a init lst sb
  lg : LgW w B lb db m g l
  dk : DAt w db m d
  calm : Calm d
  seg : l.seg = sg
  small : ∀ r ∈ all, r.length ≤ 1000
  steps : d.steps ≤ 100 * k + 10
  row : w.ownsRow B3 9 1 v all.length (recVals all)
  ng : v.ownBlock ≠ some g
  b3 : lb < B3 ∧ db < B3 ∧ m < B3 ∧ B3 ≤ w.heap.size ∧ B ≤ B3
theorem TrS.below {w w' : World} {B B3 lb db m sg k a g : Nat} {d : Dk} {l : Lg} {all : List (List UInt8)} {v : Value} (h : TrS w B B3 lb db m sg k d l all v a g) (hB : Below w.heap.size w w') : TrS w' B B3 lb db m sg k d l all v a g :=
  ⟨h.inv, h.lg.below hB, DC.below h.dk hB, h.calm, h.seg, h.small, h.steps, row_of_blk h.row (fun k hk => hB.block k (h.row.lt k hk).2), h.ng, ⟨h.b3.1, h.b3.2.1, h.b3.2.2.1, Nat.le_trans h.b3.2.2.2.1 hB.size, h.b3.2.2.2.2⟩⟩
theorem TrS.more {w : World} {B B3 lb db m sg k a g : Nat} {d : Dk} {l : Lg} {all : List (List UInt8)} {v : Value} (h : TrS w B B3 lb db m sg k d l all v a g) : TrS w B B3 lb db m sg (k + 1) d l all v a g :=
  ⟨h.inv, h.lg, h.dk, h.calm, h.seg, h.small, by have := h.steps; omega, h.row, h.ng, h.b3⟩
/-- What a call of the log does to the row: nothing. -/
theorem TrS.kl {w w' : World} {B B3 lb db m sg k a g g' : Nat} {d : Dk} {l : Lg} {all : List (List UInt8)} {v : Value} (h : TrS w B B3 lb db m sg k d l all v a g) (hk : KL lb db m g w w') (hg : g' = g ∨ w.heap.size ≤ g') : w'.ownsRow B3 9 1 v all.length (recVals all) ∧ v.ownBlock ≠ some g' := by
  refine ⟨row_of_blk h.row (fun k hk2 => ?_), fun e => ?_⟩
  · have h1 := h.row.lt k hk2
    obtain ⟨q1, q2, q3, q4, q5⟩ := h.b3
    exact hk.block k h1.2 (by omega) (by omega) (by omega) (fun e => h.ng (by rw [hk2, e]))
  · rcases hg with rfl | hg
    · exact h.ng e
    · have := (h.row.lt g' e).2; omega
theorem tr_add {w : World} {B B3 lb db m sg k a g : Nat} {d : Dk} {l : Lg} {all : List (List UInt8)} {v : Value} (h : TrS w B B3 lb db m sg k d l all v a g) (hsg : sg ≤ 65536) (hk : k ≤ 1000) (hn : all.length < 60) (x : List UInt8) (hx : x.length ≤ 1000) :
    Calls Tryd.prog 38 #[.pointer (some ⟨lb, 0, none⟩), .string (bs x)] w fun e w' => e = .returned (.int .i64 0) ∧ (∃ d' l' g', (∃ init lst sb, LInv d' l' (all ++ [x]) a init lst sb) ∧ LgW w' B lb db m g' l' ∧ DAt w' db m d' ∧ Calm d' ∧ l'.seg = sg ∧ d'.steps ≤ 100 * (k + 1) + 10 ∧ w'.ownsRow B3 9 1 v all.length (recVals all) ∧ v.ownBlock ≠ some g' ∧ g' < w'.heap.size) ∧ Below B w w' := by
  obtain ⟨init, lst, sb, hI⟩ := h.inv
  have hlen := hI.len
  have hb := h.lg.bel
  have hseg := h.seg
  have hst := h.steps
  have hxz : (bs x).size = x.length := bs_size x
  refine (add_gen h.lg (hI.lok2 (by omega)) h.dk hI.ok (by omega) (by have := hI.many; omega) (bs x) (by omega)).mono ?_
  rintro e w' ⟨rfl, g', q1, q2, q3, q4⟩
  rw [bs_data'] at q1 q2 ⊢
  obtain ⟨c1, c2⟩ := hI.add_calm h.calm x hx h.small hn
  obtain ⟨init', lst', sb', i1, i2, i3⟩ := hI.add x (by omega) (by omega)
  rw [if_pos c1] at i1
  obtain ⟨r1, r2⟩ := h.kl q3 q4
  refine ⟨by rw [c1], ⟨_, _, g', ⟨init', lst', sb', i1⟩, q1, q2, c2, by rw [i2]; exact hseg, ?_, r1, r2, q1.lt.2⟩, q3.belowN hb.2.2.2.2 hb.1 hb.2.1 hb.2.2.1 hb.2.2.2.1⟩
  have := addW_st d l x
  omega
theorem tr_trim {w : World} {B B3 lb db m sg k a g : Nat} {d : Dk} {l : Lg} {all : List (List UInt8)} {v : Value} (h : TrS w B B3 lb db m sg k d l all v a g) (hsg : sg ≤ 65536) (hk : k ≤ 1000) (n : Int) :
    ∃ (d' : Dk) (l' : Lg) (a' : Nat), a ≤ a' ∧ (a < a' → (a' : Int) - 1 ≤ n) ∧ 1 ≤ a' ∧ a' - 1 ≤ all.length ∧ Calls Tryd.prog 40 #[.pointer (some ⟨lb, 0, none⟩), .int .i64 n] w fun e w' => e = .returned (.int .i64 0) ∧ TrS w' B B3 lb db m sg (k + 1) d' l' all v a' g ∧ Below B w w' := by
  obtain ⟨init, lst, sb, hI⟩ := h.inv
  have hb := h.lg.bel
  have hm := hI.many
  have hseg := h.seg
  have hst := h.steps
  have hst2 := trimN_st n l.nums d
  obtain ⟨a', init', i1, i2, i3, i4, i5⟩ := hI.trim n
  obtain ⟨c1, c2, c3⟩ := i4 h.calm.off h.calm.armed
  have hn2 := i1.next
  have hn3 := i1.len
  have hn4 := i1.a1
  refine ⟨(trimN n d l.nums).2.1, { l with nums := (trimN n d l.nums).2.2 }, a', i2, i3, hn4, by show a' - 1 ≤ all.length; omega, ?_⟩
  refine (trim_gen h.lg (hI.lok2 (by omega)) h.dk hI.ok (by omega) n).mono ?_
  rintro e w' ⟨rfl, q1, q2, q3⟩
  obtain ⟨r1, r2⟩ := h.kl q3 (.inl rfl)
  have hsz := q3.size
  exact ⟨by show Ending.returned (Value.int .i64 (trimN n d l.nums).1) = _; rw [c1], ⟨⟨init', lst, sb, i1⟩, q1, q2, ⟨c2, c3, i5.trans h.calm.room⟩, hseg, h.small, by show (trimN n d l.nums).2.1.steps ≤ _; omega, r1, r2, ⟨h.b3.1, h.b3.2.1, h.b3.2.2.1, Nat.le_trans h.b3.2.2.2.1 hsz, h.b3.2.2.2.2⟩⟩, q3.belowN hb.2.2.2.2 hb.1 hb.2.1 hb.2.2.1 hb.2.2.2.1⟩
theorem tr_read {w : World} {B B3 lb db m sg k a g : Nat} {d : Dk} {l : Lg} {all : List (List UInt8)} {v : Value} (h : TrS w B B3 lb db m sg k d l all v a g) (hsg : sg ≤ 65536) :
    Calls Tryd.prog 45 #[.pointer (some ⟨lb, 0, none⟩), .int .i64 (a : Int)] w fun e w' => ∃ vr, e = .returned (.tuple #[vr, .int .i64 0]) ∧ SL w w' vr (all.drop (a - 1)) := by
  obtain ⟨init, lst, sb, hI⟩ := h.inv
  have hseg := h.seg
  have hf := hI.first
  have hn := hI.next
  have hm := hI.many
  have hr := hI.read h.calm.off a (Nat.le_refl _) (by omega)
  refine (read_gen h.lg (hI.lok2 (by omega)) h.dk hI.ok (by omega) a (by omega) (by omega)).mono ?_
  rintro e w' ⟨q1, _⟩
  unfold readR at q1
  rw [hr] at q1
  exact q1 rfl
theorem tr_first {w : World} {B B3 lb db m sg k a g : Nat} {d : Dk} {l : Lg} {all : List (List UInt8)} {v : Value} (h : TrS w B B3 lb db m sg k d l all v a g) (hsg : sg ≤ 65536) :
    Calls Tryd.prog 41 #[.pointer (some ⟨lb, 0, none⟩)] w fun e w' => e = .returned (.int .i64 (a : Int)) ∧ w' = w := by
  obtain ⟨init, lst, sb, hI⟩ := h.inv
  have hseg := h.seg
  have h1 := first_any h.lg (hI.lok2 (by omega))
  rw [hI.first] at h1
  exact h1
theorem tr_next {w : World} {B B3 lb db m sg k a g : Nat} {d : Dk} {l : Lg} {all : List (List UInt8)} {v : Value} (h : TrS w B B3 lb db m sg k d l all v a g) :
    Calls Tryd.prog 44 #[.pointer (some ⟨lb, 0, none⟩)] w fun e w' => e = .returned (.int .i64 ((all.length : Int) + 1)) ∧ w' = w := by
  obtain ⟨init, lst, sb, hI⟩ := h.inv
  have h1 := next_any h.lg
  rw [show (l.next : Int) = (all.length : Int) + 1 by have := hI.len; omega] at h1
  exact h1
end Go.Proofs.YtnpgjlhnlakgpaaDoor
namespace Go.Proofs.YtnpgjlhnlakgpaaDoor
open Go.RowKit Go.Maps

/-- Where numbers lie. -/
def NumsW (w : World) (v : Value) (xs : List Int) : Prop :=
  ∃ p cap, v = .slice p xs.length cap ∧ (xs = [] ∨ ∃ g off, p = some ⟨g, off, none⟩ ∧ ∀ (i : Nat) (x : Int), xs[i]? = some x → w.cell? ⟨g, off + i, none⟩ = some (.int .i64 x))
/-- The texts behind the first ones. -/
theorem row_drop {w : World} {B : Nat} {p : Option Addr} {n cap : Nat} {L : List (List UInt8)} (h : w.ownsRow B 9 1 (.slice p n cap) L.length (recVals L)) (k : Nat) (hk : k ≤ L.length) :
    (p = none ∧ L = [] ∧ n = 0 ∧ cap = 0) ∨ ∃ g, p = some ⟨g, 0, none⟩ ∧ n = L.length ∧ n ≤ cap ∧ TxtAt w (.slice (if cap = k then some ⟨g, 0, none⟩ else some ⟨g, k, none⟩) (n - k) (cap - k)) (L.drop k) := by
  have hc := h
  rcases h.2 with ⟨hv, h0⟩ | ⟨g, cap', cur, hv, h3, h4, hnc, h5⟩
  · cases hv
    exact .inl ⟨rfl, List.length_eq_zero_iff.1 h0, rfl, rfl⟩
  · cases hv
    refine .inr ⟨g, rfl, rfl, hnc, ?_⟩
    refine ⟨_, _, by rw [List.length_drop], ?_⟩
    by_cases hkl : L.length = k
    · exact .inl (List.drop_eq_nil_of_le (by omega))
    · refine .inr ⟨g, k, by rw [if_neg (by omega)], fun i s hi => ?_⟩
      rw [List.getElem?_drop] at hi
      have := h.cells (g := g) rfl (k + i) (.string (bs s)) (by simp [recVals, hi])
      rw [Addr.add_lit] at this
      simpa using this
theorem LgW.other {w w' : World} {B lb db m g k : Nat} {l : Lg} (h : LgW w B lb db m g l) (hk : Kp k k w w') (h1 : lb ≠ k) (h2 : g ≠ k) (hB : B ≤ k) : LgW w' B lb db m g l := by
  obtain ⟨q1, q2⟩ := h.lt
  obtain ⟨b1, b2, b3, b4, b5⟩ := h.bel
  have c := fun o => hk.cell q1 h1 h1 o
  have f := fun o => hk.frozen q1 h1 h1 o
  obtain ⟨o, cap, hc, hn⟩ := h.c2
  exact ⟨(c 0).trans h.c0, (c 1).trans h.c1, ⟨o, cap, (c 2).trans hc, hn.of_block (hk.block g q2 h2 h2)⟩, (c 3).trans h.c3, (c 4).trans h.c4, (c 5).trans h.c5, (f 2).trans h.f2, (f 3).trans h.f3, (f 4).trans h.f4, (f 5).trans h.f5, h.ne,
    ⟨b1, b2, b3, b4, Nat.le_trans b5 hk.size⟩, h.pow.on (Kp.belowN (Below.refl _ _) hk b5 hB hB)⟩
/-- A record is put behind the law's own ones. -/
theorem tr_append {w5 w6 : World} {B B3 lb db m sg k a g : Nat} {d : Dk} {l : Lg} {all all' : List (List UInt8)} {v v' : Value} {o : Obj}
    (hI : ∃ init lst sb, LInv d l all' a init lst sb) (hL : LgW w5 B lb db m g l) (hD : DAt w5 db m d) (hC : Calm d) (hs : l.seg = sg) (hsm : ∀ r ∈ all', r.length ≤ 1000) (hst : d.steps ≤ 100 * k + 10) (hr : w5.ownsRow B3 9 1 v all.length (recVals all)) (hng : v.ownBlock ≠ some g)
    (hb3 : lb < B3 ∧ db < B3 ∧ m < B3 ∧ B3 ≤ w5.heap.size ∧ B ≤ B3) (hown : w6.ownsRow B3 9 1 v' all'.length (recVals all')) (hgr : (w5.alloc o).grownBy w6 v.ownBlock) (hat : v'.ownBlock = v.ownBlock ∨ v'.ownBlock = some (w5.alloc o).heap.size) :
    TrS w6 B B3 lb db m sg k d l all' v' a g ∧ Below B w5 w6 := by
  obtain ⟨q1, q2, q3, q4, q5⟩ := hb3
  have hz : (w5.alloc o).heap.size = w5.heap.size + 1 := by simp
  have hgl := hL.lt.2
  have hL1 := hL.alloc o
  have hD1 : DAt (w5.alloc o) db m d := DC.alloc hD o
  have hk : ∃ j, B3 ≤ j ∧ j ≠ g ∧ Kp j j (w5.alloc o) w6 := by
    cases hv : v.ownBlock with
    | none => exact ⟨w5.heap.size + 1, by omega, by omega, ⟨hgr.os, hgr.tape, hgr.output, hgr.size, fun k hk _ _ => hgr.block k hk (by rw [hv]; simp)⟩⟩
    | some j => exact ⟨j, (hr.lt j hv).1, fun e => hng (by rw [hv, e]), ⟨hgr.os, hgr.tape, hgr.output, hgr.size, fun k hk h1 _ => hgr.block k hk (by rw [hv]; exact fun e => h1 (Option.some.inj e))⟩⟩
  obtain ⟨j, j1, j2, j3⟩ := hk
  refine ⟨⟨hI, hL1.other j3 (by omega) (fun e => j2 e.symm) (by omega), DC.kept hD1 j3 (by omega) (by omega) (by omega) (by omega), hC, hs, hsm, hst, hown, ?_, ⟨q1, q2, q3, Nat.le_trans q4 (Nat.le_trans (by omega) j3.size), q5⟩⟩, ?_⟩
  · rcases hat with h | h
    · rw [h]; exact hng
    · rw [h, hz]; intro e; have := Option.some.inj e; omega
  · exact ((Below.refl B w5).alloc (by omega) o).trans (Kp.belowN (Below.refl _ _) j3 (by omega) (by omega) (by omega))
set_option maxRecDepth 100000 in
set_option maxHeartbeats 32000000 in
theorem trims_walk (seg : Int) (v : Value) (L : List (List UInt8)) (vt : Value) (xs : List Int) (w : World) (hP : Pow w) (hv : TxtC w v L) (ht : NumsW w vt xs) (hs0 : -9223372036854775808 ≤ seg) (hs1 : seg ≤ 9223372036854775807) (hxs : ∀ x ∈ xs, -9223372036854775808 ≤ x ∧ x ≤ 9223372036854775807) :
    Calls Tryd.prog 12 #[.int .i64 seg, v, vt] w fun e w' => e = .returned (.bool true) ∧ Below w.heap.size w w' := by
  obtain ⟨p, cap, rfl, hcap, hc⟩ := hv
  obtain ⟨pt, ct, rfl, hct⟩ := ht
  obtain ⟨i0, ii0, iz0, iz1, iz2⟩ := info_parts strcell
  by_cases hsg : ¬ (1 ≤ seg ∧ seg ≤ 65536)
  · generalize L.length = n at *
    generalize xs.length = k at *
    clear hc hct hcap
    by_cases h1 : seg < 1
    · go_enter Tryd.func12, Tryd.ntmps12
      go_wp2_with (first
        | (go_at_call 26; refine (known_any _).mono ?_; rintro e w1 ⟨rfl, hk⟩; have HK := Lib.hid hk; clear hk)
        | fail)
      go_ret
      exact ⟨rfl, HK.out⟩
    · have h2 : 65536 < seg := by omega
      go_enter Tryd.func12, Tryd.ntmps12
      go_wp2_with (first
        | (go_at_call 26; refine (known_any _).mono ?_; rintro e w1 ⟨rfl, hk⟩; have HK := Lib.hid hk; clear hk)
        | fail)
      go_ret
      exact ⟨rfl, HK.out⟩
  replace hsg : 1 ≤ seg ∧ seg ≤ 65536 := by omega
  obtain ⟨sg, hsgn⟩ : ∃ sg : Nat, seg = (sg : Int) := ⟨seg.toNat, by omega⟩
  have hg1 : 1 ≤ sg := by omega
  have hg2 : sg ≤ 65536 := by omega
  subst hsgn
  have n1 : ¬ (sg : Int) < 1 := by omega
  have n2 : ¬ (65536 : Int) < (sg : Int) := by omega
  obtain ⟨r1, r2, r3, r4, r5, r6⟩ := LInv.start (room := 1048576) (seg := sg) (by decide) hg1
  have HNW : Hid (∀ W, Calls Tryd.prog 35 #[.int .i64 1048576] W fun e w' => e = .returned (.tuple #[.pointer (some ⟨W.heap.size + 1, 0, none⟩), .int .i64 0]) ∧ DAt w' (W.heap.size + 1) W.heap.size (Dk.new 1048576) ∧ Below W.heap.size W w' ∧ W.heap.size + 1 < w'.heap.size) := fun W => new_ok 1048576 W (by decide)
  have HOP : Hid (∀ W db m, DAt W db m (Dk.new 1048576) → PowB w.heap.size W → w.heap.size ≤ db → w.heap.size ≤ m → w.heap.size ≤ W.heap.size → Calls Tryd.prog 36 #[.pointer (some ⟨db, 0, none⟩), .int .i64 (sg : Int)] W fun e w' => ∃ lb g d l, e = .returned (.tuple #[.pointer (some ⟨lb, 0, none⟩), .int .i64 0]) ∧ TrS w' w.heap.size w'.heap.size lb db m sg 0 d l [] (.slice none 0 0) 1 g ∧ Below w.heap.size W w') := fun W db m h hp h1 h2 h3 => by
    refine (open_fresh h (Dk.Ok.new (by decide)) (by decide) rfl rfl sg hg1 hg2 r1 hp ⟨h1, h2, h3⟩).mono ?_
    rintro e w' ⟨lb, g, rfl, q1, q2, q3, q4⟩
    have hB := Kp.belowN (Below.refl _ _) q4 h3 h1 h2
    exact ⟨lb, g, _, _, rfl, ⟨⟨[], [], 0, r2⟩, q1, q2, ⟨r3, r4, r5⟩, rfl, by simp, by rw [r6]; omega, World.ownsRow_nil _ _ _ _, by simp [Value.ownBlock], ⟨q1.lt.1, DC.lt q2, DC.ltm q2, Nat.le_refl _, Nat.le_trans h3 hB.size⟩⟩, hB⟩
  have HPW := Lib.hid (show PowB w.heap.size w from Lib.tabBelow_of_tabIs hP)
  obtain ⟨n, hn⟩ : ∃ n, L.length = n := ⟨_, rfl⟩
  obtain ⟨nt, hnt⟩ : ∃ nt, xs.length = nt := ⟨_, rfl⟩
  rw [hn] at hcap ⊢
  rw [hnt]
  have HC := Lib.hid hc
  have HCT := Lib.hid hct
  have HN := Lib.hid hn
  have HNT := Lib.hid hnt
  have HXS := Lib.hid hxs
  clear r1 r2 r3 r4 r5 r6 hP hsg hc hct hn hnt hxs
  go_enter Tryd.func12, Tryd.ntmps12
  go_upto_block 0 with (first
    | (go_at_call 35; refine (HNW.out _).mono ?_; rintro e w1 ⟨rfl, hd1, hb1, hz1⟩; have HD1 := Lib.hid hd1; have HB1 := Lib.hid hb1; clear hd1 hb1)
    | (go_at_call 26; refine (known_any _).mono ?_; rintro e w2 ⟨rfl, hk⟩; have HD2 : Hid (DAt w2 _ _ (Dk.new 1048576)) := DC.below HD1.out hk; have HB2 := Lib.hid (HB1.out.trans (hk.mono HB1.out.size)); clear hk)
    | (go_at_call 36; (with_reducible refine (HOP.out _ _ _ HD2.out (HPW.out.on HB2.out) (Nat.le_succ _) (Nat.le_refl _) HB2.out.size).mono ?_); rintro e w3 ⟨lb, g0, d0, l0, rfl, hst, hb⟩; have HS3 := Lib.hid hst; have HB3 := Lib.hid (HB2.out.trans hb); clear hst hb)
    | fail)
  go_cut [11, 12, 13, 14] from 53 to 82 (fun va _ _ _ wc => ∃ d l all g, TrS wc w.heap.size w3.heap.size lb (w.heap.size + 1) w.heap.size sg 60 d l all va 1 g ∧ all.length ≤ 60 ∧ Below w.heap.size w wc)
  case first =>
    go_wp2_with fail
    go_loopw [11, 55] (fun va iv wr => ∃ (i : Nat) (d : Dk) (l : Lg) (all : List (List UInt8)) (g : Nat), i ≤ n ∧ i ≤ 60 ∧ iv = .int .i64 (i : Int) ∧ TrS wr w.heap.size w3.heap.size lb (w.heap.size + 1) w.heap.size sg i d l all va 1 g ∧ all.length ≤ i ∧ Below w.heap.size w wr) (fun _ iv _ => n - (intOf iv).toNat)
    case atStart => exact ⟨0, d0, l0, [], g0, Nat.zero_le _, Nat.zero_le _, rfl, HS3.out, Nat.le_refl _, HB3.out⟩
    case round =>
      obtain ⟨i, d, l, all, g, hin, hi60, rfl, hS, hal, hB⟩ := hrel
      have HS := Lib.hid hS
      have HB := Lib.hid hB
      obtain ⟨ap, ac, hva⟩ := owns_sl2 hS.row
      subst hva
      clear hS hB
      by_cases hlt : i < n
      · obtain ⟨x, hx⟩ : ∃ x, L[i]? = some x := ⟨L[i]'(by rw [HN.out]; exact hlt), List.getElem?_eq_getElem _⟩
        obtain ⟨gr, o, rfl, hcc⟩ := HC.out.resolve_left (fun e => by rw [e] at hx; simp at hx)
        have a0 := hcc i x hx
        have hgr : gr < w.heap.size := World.block_lt_of_cell? w _ a0
        rw [← HB.out.cell (p := ⟨gr, o + i, none⟩) hgr] at a0
        have hi1 : (i : Int) < (n : Int) := by omega
        have hq0 : (0 : Int) ≤ (i : Int) := by omega
        have hxz : (bs x).size = x.length := bs_size x
        by_cases h60 : 60 ≤ i
        · have h60i : (60 : Int) ≤ (i : Int) := by omega
          clear hcc hx
          go_wp2_with fail
          go_meet
          case rel => exact ⟨d, l, all, g, by have : i = 60 := by omega
                                              exact this ▸ HS.out, by omega, HB.out⟩
        · have h60i : ¬ (60 : Int) ≤ (i : Int) := by omega
          by_cases hsm : x.length ≤ 1000
          · have HAD := Lib.hid (tr_add HS.out hg2 (by omega) (by omega) x hsm)
            have hsi : ((bs x).size : Int) ≤ 1000 := by omega
            obtain ⟨S, hSx⟩ : ∃ S, bs x = S := ⟨_, rfl⟩
            rw [hSx] at a0 hsi hxz HAD
            have HSX := Lib.hid hSx
            obtain ⟨ln, hln⟩ : ∃ ln, all.length = ln := ⟨_, rfl⟩
            have HLN := Lib.hid hln
            rw [hln] at hal ⊢
            have hsz : S.size ≤ 1000 := by omega
            clear hcc hx hSx hln hxz
            go_wp2_with (first
              | (go_at_call 38; refine HAD.out.mono ?_; rintro e w5 ⟨rfl, hq, hb5⟩; have HQ5 := Lib.hid hq; have HB5 := Lib.hid (HB.out.trans hb5); have hrow5 : w5.ownsRow w3.heap.size 9 1 (.slice ap ln ac) ln (recVals all) := (by obtain ⟨d', l', g', _, _, _, _, _, _, q, _⟩ := hq; rw [HLN.out] at q; exact q); have hz5 : w3.heap.size ≤ w5.heap.size := (by have h1 := HS.out.b3.2.2.2.1; have h2 := hb5.size; omega); clear hq hb5)
              | (at_builtin; refine wpList_append_own_at _ rfl _ _ 43 rfl w3.heap.size 9 i0 (.string ⟨#[]⟩) 1 16 Tryd.underlying43 ii0 iz0 iz1 iz2 rfl (by decide) (.slice ap ln ac) ln (recVals all) rfl (hrow5.alloc _) ⟨w5.heap.size, 0, none⟩ 1 1 [.string S] rfl rfl (cell_one_new _ _ _) (by simp [Value.oneCell']) (by unfold maxLen; omega) (by omega) (by simp; omega) ?_; intro v' w6 hown' hgrow _ hat; have HOWN := Lib.hid hown'; have HGR := Lib.hid hgrow; have HAT := Lib.hid hat; obtain ⟨g6, c6, hv6⟩ := ownsRow_succ hown'; subst hv6; clear hown' hgrow hat; go_frame)
              | fail)
            have HT6 : Hid (∃ d' l' g', TrS w6 w.heap.size w3.heap.size lb (w.heap.size + 1) w.heap.size sg (i + 1) d' l' (all ++ [x]) (.slice (some ⟨g6, 0, none⟩) (ln + 1) c6) 1 g' ∧ Below w.heap.size w5 w6) := by
              obtain ⟨d', l', g', e1, e2, e3, e4, e5, e6, e7, e8, e9⟩ := HQ5.out
              have hb := HS.out.b3
              have hown := HOWN.out
              have e7' : w5.ownsRow w3.heap.size 9 1 (.slice ap ln ac) all.length (recVals all) := by rw [← HLN.out]; exact e7
              have e8' : (Value.slice ap ln ac).ownBlock ≠ some g' := by rw [← HLN.out]; exact e8
              refine ⟨d', l', g', tr_append e1 e2 e3 e4 e5 (fun r hr => ?_) e6 e7' e8' ⟨hb.1, hb.2.1, hb.2.2.1, hz5, hb.2.2.2.2⟩ ?_ HGR.out HAT.out⟩
              · rcases List.mem_append.1 hr with hr | hr
                · exact HS.out.small r hr
                · rw [List.mem_singleton.1 hr]; exact hsm
              · rw [List.length_append, List.length_singleton, HLN.out]
                have e : recVals (all ++ [x]) = recVals all ++ [.string S] := by rw [← HSX.out]; simp [recVals]
                rw [e]
                exact hown
            obtain ⟨d', l', g', HT7, HB7⟩ := HT6.out
            have HT8 := Lib.hid HT7
            have HB8 := Lib.hid (HB5.out.trans HB7)
            have HL8 := Lib.hid (show (all ++ [x]).length ≤ i + 1 from by rw [List.length_append, List.length_singleton, HLN.out]; omega)
            clear HT7 HB7
            go_wp2_with fail
            go_roundw
            case rel => exact ⟨i + 1, d', l', all ++ [x], g', by omega, by omega, by go_num, HT8.out, HL8.out, HB8.out⟩
            case measure => simp [intOf]; omega
          · have hsi : ¬ ((bs x).size : Int) ≤ 1000 := by omega
            obtain ⟨S, hSx⟩ : ∃ S, bs x = S := ⟨_, rfl⟩
            rw [hSx] at a0 hsi hxz
            clear hcc hx hSx hxz
            go_wp2_with fail
            go_roundw
            case rel => exact ⟨i + 1, d, l, all, g, by omega, by omega, by go_num, HS.out.more, by omega, HB.out⟩
            case measure => simp [intOf]; omega
      · have hi1 : ¬ (i : Int) < (n : Int) := by omega
        have HS60 : Hid (TrS wr w.heap.size w3.heap.size lb (w.heap.size + 1) w.heap.size sg 60 d l all (.slice ap all.length ac) 1 g) :=
          ⟨HS.out.inv, HS.out.lg, HS.out.dk, HS.out.calm, HS.out.seg, HS.out.small, by have := HS.out.steps; omega, HS.out.row, HS.out.ng, HS.out.b3⟩
        go_wp2_with fail
        go_meet
        case rel => exact ⟨d, l, all, g, HS60.out, by omega, HB.out⟩
  case rest =>
  obtain ⟨d, l, all, g, hS, hal, hB⟩ := hcut
  have HS := Lib.hid hS
  have HB := Lib.hid hB
  obtain ⟨ap, ac, hva⟩ := owns_sl2 hS.row
  obtain ⟨ln, hln⟩ : ∃ ln, all.length = ln := ⟨_, rfl⟩
  have HLN := Lib.hid hln
  rw [hln] at hva hal
  subst hva
  clear hS hB hln
  go_wp2_with fail
  go_loopw [85] (fun jv wr => ∃ (j : Nat) (d : Dk) (l : Lg) (a : Nat), j ≤ nt ∧ j ≤ 10 ∧ jv = .int .i64 (j : Int) ∧ TrS wr w.heap.size w3.heap.size lb (w.heap.size + 1) w.heap.size sg (60 + j) d l all (.slice ap ln ac) a g ∧ Below w.heap.size w wr) (fun jv _ => nt - (intOf jv).toNat)
  case atStart => exact ⟨0, d, l, 1, Nat.zero_le _, Nat.zero_le _, rfl, HS.out, HB.out⟩
  case round =>
    obtain ⟨j, d, l, a, hjn, hj10, rfl, hS, hB⟩ := hrel
    have HS := Lib.hid hS
    have HB := Lib.hid hB
    clear hS hB
    by_cases hlt : j < nt
    · obtain ⟨x, hx⟩ : ∃ x, xs[j]? = some x := ⟨xs[j]'(by rw [HNT.out]; exact hlt), List.getElem?_eq_getElem _⟩
      obtain ⟨gr, o, rfl, hcc⟩ := HCT.out.resolve_left (fun e => by rw [e] at hx; simp at hx)
      have a0 := hcc j x hx
      have hgr : gr < w.heap.size := World.block_lt_of_cell? w _ a0
      rw [← HB.out.cell (p := ⟨gr, o + j, none⟩) hgr] at a0
      have hi1 : (j : Int) < (nt : Int) := by omega
      have hq0 : (0 : Int) ≤ (j : Int) := by omega
      have hxb := HXS.out x (List.mem_of_getElem? hx)
      by_cases h10 : 10 ≤ j
      · have h10i : (10 : Int) ≤ (j : Int) := by omega
        clear hcc hx
        go_wp2_with fail
        go_ret
        exact ⟨rfl, HB.out⟩
      · have h10i : ¬ (10 : Int) ≤ (j : Int) := by omega
        obtain ⟨d', l', a', t1, t2, t3, t4, t5⟩ := tr_trim HS.out hg2 (by omega) x
        obtain ⟨k, rfl⟩ : ∃ k, a' = k + 1 := ⟨a' - 1, by omega⟩
        have hkl : k ≤ ln := by have := HLN.out; omega
        have HTR := Lib.hid t5
        have HF1 := Lib.hid (tr_first HS.out hg2)
        have HF2 := Lib.hid (fun W (h : TrS W w.heap.size w3.heap.size lb (w.heap.size + 1) w.heap.size sg (60 + j + 1) d' l' all (.slice ap ln ac) (k + 1) g) => tr_first h hg2)
        have HN2 := Lib.hid (fun W (h : TrS W w.heap.size w3.heap.size lb (w.heap.size + 1) w.heap.size sg (60 + j + 1) d' l' all (.slice ap ln ac) (k + 1) g) => tr_next h)
        have HR2 := Lib.hid (fun W (h : TrS W w.heap.size w3.heap.size lb (w.heap.size + 1) w.heap.size sg (60 + j + 1) d' l' all (.slice ap ln ac) (k + 1) g) => tr_read h hg2)
        rw [Nat.add_sub_cancel] at HR2
        rw [HLN.out] at HN2
        obtain ⟨A1, hA1⟩ : ∃ A1 : Int, ((k + 1 : Nat) : Int) = A1 := ⟨_, rfl⟩
        obtain ⟨A0, hA0⟩ : ∃ A0 : Int, (a : Int) = A0 := ⟨_, rfl⟩
        have c1 : ¬ A1 < A0 := by omega
        have c2 : A0 < A1 → ¬ x < A1 - 1 := fun h => by have := t2 (by omega); omega
        have c3 : IntKind.i64.wrap (A1 - 1) = (k : Int) := by rw [IntKind.wrap_i64]; omega
        have c4 : IntKind.i64.wrap ((ln : Int) + 1) = (ln : Int) + 1 := by rw [IntKind.wrap_i64]; omega
        rw [hA1] at HF2 HR2
        rw [hA0] at HF1
        have hM60 : (all.drop k).length ≤ 60 := by rw [List.length_drop, HLN.out]; omega
        obtain ⟨M, hM⟩ : ∃ M, all.drop k = M := ⟨_, rfl⟩
        obtain ⟨mk, hmk⟩ : ∃ mk, M.length = mk := ⟨_, rfl⟩
        have HM := Lib.hid hM
        have HMK := Lib.hid hmk
        rw [hM] at HR2 hM60
        have HTX : Hid (∀ W va vb, TxtAt W va M → TxtAt W vb M → Calls Tryd.prog 33 #[va, vb] W fun e w' => e = .returned (.bool true) ∧ Below W.heap.size W w') := fun W va vb ha hb => (texts_any ha hb (by omega) (by omega)).mono fun e w' ⟨h1, h2⟩ => ⟨by rw [h1, decide_eq_true rfl], h2⟩
        have hkx : ¬ x < (k : Int) ∨ ¬ A0 < A1 := by
          by_cases h : A0 < A1
          · left; have := c2 h; omega
          · exact .inr h
        clear hcc hx t1 t2 t3 t4 t5 c2 hA1 hA0 hM hmk hM60
        rcases row_drop HS.out.row k (by have := HLN.out; omega) with ⟨rfl, hl0, hn0, hc0⟩ | ⟨gv, rfl, hnl, hnc, htx⟩
        · have hk0 : k = 0 := by omega
          have HDR : Hid (∀ W, TrS W w.heap.size w3.heap.size lb (w.heap.size + 1) w.heap.size sg (60 + j + 1) d' l' all (.slice none ln ac) (k + 1) g → TxtAt W (.slice none 0 0) M) := fun W h => ⟨none, 0, by rw [← HM.out, hl0]; simp, .inl (by rw [← HM.out, hl0]; simp)⟩
          clear hl0
          subst hn0 hc0 hk0
          by_cases hp : A0 < A1
          · have hq : ¬ x < ((0 : Nat) : Int) := by
              rcases hkx with h | h
              · exact h
              · exact absurd hp h
            have hq' : ¬ x < 0 := hq
            have c3' : IntKind.i64.wrap (A1 - 1) = 0 := c3
            go_wp2_with (first
              | (go_at_call 41; refine HF1.out.mono ?_; clear HF1; rintro e w9 ⟨rfl, hw9⟩; rw [hw9]; clear hw9)
              | (go_at_call 40; refine HTR.out.mono ?_; rintro e w6 ⟨rfl, hs6, hb6⟩; have HS6 := Lib.hid hs6; have HB6 := Lib.hid (HB.out.trans hb6); clear hs6 hb6)
              | (go_at_call 41; (with_reducible refine (HF2.out _ HS6.out).mono ?_); rintro e w9 ⟨rfl, hw9⟩; rw [hw9]; clear hw9)
              | (go_at_call 44; (with_reducible refine (HN2.out _ HS6.out).mono ?_); rintro e w9 ⟨rfl, hw9⟩; rw [hw9]; clear hw9)
              | (go_at_call 45; (with_reducible refine (HR2.out _ HS6.out).mono ?_); rintro e w7 ⟨vr, rfl, hsl⟩; have HT7 := Lib.hid hsl.at; have HS7 := Lib.hid (HS6.out.below hsl.B); have HB7 := Lib.hid (HB6.out.trans (hsl.B.mono HB6.out.size)); obtain ⟨rp, rc, hvr⟩ := owns_sl2 hsl.o; rw [HMK.out] at hvr; subst hvr; have HD7 := Lib.hid (HDR.out _ HS7.out); clear hsl)
              | (go_at_call 41; (with_reducible refine (HF2.out _ HS7.out).mono ?_); rintro e w9 ⟨rfl, hw9⟩; rw [hw9]; clear hw9)
              | (go_at_call 33; (with_reducible refine (HTX.out _ _ _ HT7.out HD7.out).mono ?_); rintro e w8 ⟨rfl, hb8⟩; have HS8 := Lib.hid (HS7.out.below hb8); have HB8 := Lib.hid (HB7.out.trans (hb8.mono HB7.out.size)); clear hb8)
              | fail)
            go_roundw
            case rel => exact ⟨j + 1, d', l', _, by omega, by omega, by go_num, HS8.out, HB8.out⟩
            case measure => simp [intOf]; omega
          · have hp' : A1 ≤ A0 := by omega
            have c3' : IntKind.i64.wrap (A1 - 1) = 0 := c3
            go_wp2_with (first
              | (go_at_call 41; refine HF1.out.mono ?_; clear HF1; rintro e w9 ⟨rfl, hw9⟩; rw [hw9]; clear hw9)
              | (go_at_call 40; refine HTR.out.mono ?_; rintro e w6 ⟨rfl, hs6, hb6⟩; have HS6 := Lib.hid hs6; have HB6 := Lib.hid (HB.out.trans hb6); clear hs6 hb6)
              | (go_at_call 41; (with_reducible refine (HF2.out _ HS6.out).mono ?_); rintro e w9 ⟨rfl, hw9⟩; rw [hw9]; clear hw9)
              | (go_at_call 44; (with_reducible refine (HN2.out _ HS6.out).mono ?_); rintro e w9 ⟨rfl, hw9⟩; rw [hw9]; clear hw9)
              | (go_at_call 45; (with_reducible refine (HR2.out _ HS6.out).mono ?_); rintro e w7 ⟨vr, rfl, hsl⟩; have HT7 := Lib.hid hsl.at; have HS7 := Lib.hid (HS6.out.below hsl.B); have HB7 := Lib.hid (HB6.out.trans (hsl.B.mono HB6.out.size)); obtain ⟨rp, rc, hvr⟩ := owns_sl2 hsl.o; rw [HMK.out] at hvr; subst hvr; have HD7 := Lib.hid (HDR.out _ HS7.out); clear hsl)
              | (go_at_call 41; (with_reducible refine (HF2.out _ HS7.out).mono ?_); rintro e w9 ⟨rfl, hw9⟩; rw [hw9]; clear hw9)
              | (go_at_call 33; (with_reducible refine (HTX.out _ _ _ HT7.out HD7.out).mono ?_); rintro e w8 ⟨rfl, hb8⟩; have HS8 := Lib.hid (HS7.out.below hb8); have HB8 := Lib.hid (HB7.out.trans (hb8.mono HB7.out.size)); clear hb8)
              | fail)
            go_roundw
            case rel => exact ⟨j + 1, d', l', _, by omega, by omega, by go_num, HS8.out, HB8.out⟩
            case measure => simp [intOf]; omega
        · obtain ⟨A, hA⟩ : ∃ A, (if ac = k then some (⟨gv, 0, none⟩ : Addr) else some ⟨gv, k, none⟩) = A := ⟨_, rfl⟩
          have HDR : Hid (∀ W, TrS W w.heap.size w3.heap.size lb (w.heap.size + 1) w.heap.size sg (60 + j + 1) d' l' all (.slice (some ⟨gv, 0, none⟩) ln ac) (k + 1) g → TxtAt W (.slice A (ln - k) (ac - k)) M) := fun W h => by
            have hr := h.row
            rcases row_drop hr k (by have := HLN.out; omega) with ⟨h1, _⟩ | ⟨gv', h1, _, _, h4⟩
            · cases h1
            · cases h1
              rw [hA, HM.out] at h4
              exact h4
          have hb1 : (0 : Int) ≤ (k : Int) := by omega
          have hb2 : (k : Int) ≤ (ln : Int) := by omega
          have hb3 : (ln : Int) ≤ (ac : Int) := by omega
          clear htx hnl
          by_cases hp : A0 < A1
          · have hq : ¬ x < (k : Int) := by
              rcases hkx with h | h
              · exact h
              · exact absurd hp h
            go_wp2_with (first
              | (go_at_call 41; refine HF1.out.mono ?_; clear HF1; rintro e w9 ⟨rfl, hw9⟩; rw [hw9]; clear hw9)
              | (go_at_call 40; refine HTR.out.mono ?_; rintro e w6 ⟨rfl, hs6, hb6⟩; have HS6 := Lib.hid hs6; have HB6 := Lib.hid (HB.out.trans hb6); clear hs6 hb6)
              | (go_at_call 41; (with_reducible refine (HF2.out _ HS6.out).mono ?_); rintro e w9 ⟨rfl, hw9⟩; rw [hw9]; clear hw9)
              | (go_at_call 44; (with_reducible refine (HN2.out _ HS6.out).mono ?_); rintro e w9 ⟨rfl, hw9⟩; rw [hw9]; clear hw9)
              | (go_at_call 45; (with_reducible refine (HR2.out _ HS6.out).mono ?_); rintro e w7 ⟨vr, rfl, hsl⟩; have HT7 := Lib.hid hsl.at; have HS7 := Lib.hid (HS6.out.below hsl.B); have HB7 := Lib.hid (HB6.out.trans (hsl.B.mono HB6.out.size)); obtain ⟨rp, rc, hvr⟩ := owns_sl2 hsl.o; rw [HMK.out] at hvr; subst hvr; have HD7 := Lib.hid (HDR.out _ HS7.out); clear hsl)
              | (go_at_call 41; (with_reducible refine (HF2.out _ HS7.out).mono ?_); rintro e w9 ⟨rfl, hw9⟩; rw [hw9]; clear hw9)
              | (go_at_call 33; (with_reducible refine (HTX.out _ _ _ HT7.out HD7.out).mono ?_); rintro e w8 ⟨rfl, hb8⟩; have HS8 := Lib.hid (HS7.out.below hb8); have HB8 := Lib.hid (HB7.out.trans (hb8.mono HB7.out.size)); clear hb8)
              | fail)
            go_roundw
            case rel => exact ⟨j + 1, d', l', _, by omega, by omega, by go_num, HS8.out, HB8.out⟩
            case measure => simp [intOf]; omega
          · have hp' : A1 ≤ A0 := by omega
            go_wp2_with (first
              | (go_at_call 41; refine HF1.out.mono ?_; clear HF1; rintro e w9 ⟨rfl, hw9⟩; rw [hw9]; clear hw9)
              | (go_at_call 40; refine HTR.out.mono ?_; rintro e w6 ⟨rfl, hs6, hb6⟩; have HS6 := Lib.hid hs6; have HB6 := Lib.hid (HB.out.trans hb6); clear hs6 hb6)
              | (go_at_call 41; (with_reducible refine (HF2.out _ HS6.out).mono ?_); rintro e w9 ⟨rfl, hw9⟩; rw [hw9]; clear hw9)
              | (go_at_call 44; (with_reducible refine (HN2.out _ HS6.out).mono ?_); rintro e w9 ⟨rfl, hw9⟩; rw [hw9]; clear hw9)
              | (go_at_call 45; (with_reducible refine (HR2.out _ HS6.out).mono ?_); rintro e w7 ⟨vr, rfl, hsl⟩; have HT7 := Lib.hid hsl.at; have HS7 := Lib.hid (HS6.out.below hsl.B); have HB7 := Lib.hid (HB6.out.trans (hsl.B.mono HB6.out.size)); obtain ⟨rp, rc, hvr⟩ := owns_sl2 hsl.o; rw [HMK.out] at hvr; subst hvr; have HD7 := Lib.hid (HDR.out _ HS7.out); clear hsl)
              | (go_at_call 41; (with_reducible refine (HF2.out _ HS7.out).mono ?_); rintro e w9 ⟨rfl, hw9⟩; rw [hw9]; clear hw9)
              | (go_at_call 33; (with_reducible refine (HTX.out _ _ _ HT7.out HD7.out).mono ?_); rintro e w8 ⟨rfl, hb8⟩; have HS8 := Lib.hid (HS7.out.below hb8); have HB8 := Lib.hid (HB7.out.trans (hb8.mono HB7.out.size)); clear hb8)
              | fail)
            go_roundw
            case rel => exact ⟨j + 1, d', l', _, by omega, by omega, by go_num, HS8.out, HB8.out⟩
            case measure => simp [intOf]; omega
    · have hi1 : ¬ (j : Int) < (nt : Int) := by omega
      go_wp2_with fail
      go_ret
      exact ⟨rfl, HB.out⟩
end Go.Proofs.YtnpgjlhnlakgpaaDoor

/- The law WalTrims, walked. -/
import Derived.Test.YtnpgjlhnlakgpaaDoorWalTr
import Derived.Test.YtnpgjlhnlakgpaaDoorWalOn
import Derived.Test.YtnpgjlhnlakgpaaDoorG09
import Derived.Test.YtnpgjlhnlakgpaaDoorWalRd
import Derived.Test.YtnpgjlhnlakgpaaDoorG11
import Derived.Test.YtnpgjlhnlakgpaaDoorG07
import Derived.Deep.CutBlock
namespace Go.Proofs.YtnpgjlhnlakgpaaDoor
open Go.RowKit Go.Maps

theorem LInv.lok2 {d : Dk} {l : Lg} {all : List (List UInt8)} {a : Nat} {init : List (List (List UInt8))} {lst : List (List UInt8)} {sb : Nat} (h : LInv d l all a init lst sb) (hs : l.seg ≤ 65536) : l.Ok := by
  have h1 := h.next
  have h2 := h.max
  have h3 := h.a1
  have h4 := h.safe1
  refine ⟨by rw [h.nums]; simp, fun n hn => ?_, by have := h.bytes; omega, ⟨by omega, by omega⟩, by omega, ⟨h.seg1, hs⟩⟩
  rw [h.nums] at hn
  have := CInv.opens.nums_bd init a n hn
  omega
theorem row_of_blk {w w' : World} {B : Nat} {e : TypeId} {s n : Nat} {v : Value} {xs : List Value} (h : w.ownsRow B e s v n xs) (hb : ∀ k, v.ownBlock = some k → w'.heap[k]? = w.heap[k]?) : w'.ownsRow B e s v n xs := by
  refine ⟨h.1, ?_⟩
  rcases h.2 with h2 | ⟨g, cap, cur, rfl, h3, h4, h5⟩
  · exact .inl h2
  · exact .inr ⟨g, cap, cur, rfl, h3, by rw [hb g rfl]; exact h4, h5⟩
/-- A log on a calm disk, and all its records in a row of the law's own. -/
structure TrS (w : World) (B B3 lb db m sg k : Nat) (d : Dk) (l : Lg) (all : List (List UInt8)) (v : Value) (a g : Nat) : Prop where
  inv : ∃ init lst sb, LInv d l all a init lst sb
  lg : LgW w B lb db m g l
  dk : DAt w db m d
  calm : Calm d
  seg : l.seg = sg
  small : ∀ r ∈ all, r.length ≤ 1000
  steps : d.steps ≤ 100 * k + 10
  row : w.ownsRow B3 9 1 v all.length (recVals all)
  ng : v.ownBlock ≠ some g
  b3 : lb < B3 ∧ db < B3 ∧ m < B3 ∧ B3 ≤ w.heap.size ∧ B ≤ B3
theorem TrS.below {w w' : World} {B B3 lb db m sg k a g : Nat} {d : Dk} {l : Lg} {all : List (List UInt8)} {v : Value} (h : TrS w B B3 lb db m sg k d l all v a g) (hB : Below w.heap.size w w') : TrS w' B B3 lb db m sg k d l all v a g :=
  ⟨h.inv, h.lg.below hB, DC.below h.dk hB, h.calm, h.seg, h.small, h.steps, row_of_blk h.row (fun k hk => hB.block k (h.row.lt k hk).2), h.ng, ⟨h.b3.1, h.b3.2.1, h.b3.2.2.1, Nat.le_trans h.b3.2.2.2.1 hB.size, h.b3.2.2.2.2⟩⟩
theorem TrS.more {w : World} {B B3 lb db m sg k a g : Nat} {d : Dk} {l : Lg} {all : List (List UInt8)} {v : Value} (h : TrS w B B3 lb db m sg k d l all v a g) : TrS w B B3 lb db m sg (k + 1) d l all v a g :=
  ⟨h.inv, h.lg, h.dk, h.calm, h.seg, h.small, by have := h.steps; omega, h.row, h.ng, h.b3⟩
/-- What a call of the log does to the row: nothing. -/
theorem TrS.kl {w w' : World} {B B3 lb db m sg k a g g' : Nat} {d : Dk} {l : Lg} {all : List (List UInt8)} {v : Value} (h : TrS w B B3 lb db m sg k d l all v a g) (hk : KL lb db m g w w') (hg : g' = g ∨ w.heap.size ≤ g') : w'.ownsRow B3 9 1 v all.length (recVals all) ∧ v.ownBlock ≠ some g' := by
  refine ⟨row_of_blk h.row (fun k hk2 => ?_), fun e => ?_⟩
  · have h1 := h.row.lt k hk2
    obtain ⟨q1, q2, q3, q4, q5⟩ := h.b3
    exact hk.block k h1.2 (by omega) (by omega) (by omega) (fun e => h.ng (by rw [hk2, e]))
  · rcases hg with rfl | hg
    · exact h.ng e
    · have := (h.row.lt g' e).2; omega
theorem tr_add {w : World} {B B3 lb db m sg k a g : Nat} {d : Dk} {l : Lg} {all : List (List UInt8)} {v : Value} (h : TrS w B B3 lb db m sg k d l all v a g) (hsg : sg ≤ 65536) (hk : k ≤ 1000) (hn : all.length < 60) (x : List UInt8) (hx : x.length ≤ 1000) :
    Calls Tryd.prog 38 #[.pointer (some ⟨lb, 0, none⟩), .string (bs x)] w fun e w' => e = .returned (.int .i64 0) ∧ (∃ d' l' g', (∃ init lst sb, LInv d' l' (all ++ [x]) a init lst sb) ∧ LgW w' B lb db m g' l' ∧ DAt w' db m d' ∧ Calm d' ∧ l'.seg = sg ∧ d'.steps ≤ 100 * (k + 1) + 10 ∧ w'.ownsRow B3 9 1 v all.length (recVals all) ∧ v.ownBlock ≠ some g' ∧ g' < w'.heap.size) ∧ Below B w w' := by
  obtain ⟨init, lst, sb, hI⟩ := h.inv
  have hlen := hI.len
  have hb := h.lg.bel
  have hseg := h.seg
  have hst := h.steps
  have hxz : (bs x).size = x.length := bs_size x
  refine (add_gen h.lg (hI.lok2 (by omega)) h.dk hI.ok (by omega) (by have := hI.many; omega) (bs x) (by omega)).mono ?_
  rintro e w' ⟨rfl, g', q1, q2, q3, q4⟩
  rw [bs_data'] at q1 q2 ⊢
  obtain ⟨c1, c2⟩ := hI.add_calm h.calm x hx h.small hn
  obtain ⟨init', lst', sb', i1, i2, i3⟩ := hI.add x (by omega) (by omega)
  rw [if_pos c1] at i1
  obtain ⟨r1, r2⟩ := h.kl q3 q4
  refine ⟨by rw [c1], ⟨_, _, g', ⟨init', lst', sb', i1⟩, q1, q2, c2, by rw [i2]; exact hseg, ?_, r1, r2, q1.lt.2⟩, q3.belowN hb.2.2.2.2 hb.1 hb.2.1 hb.2.2.1 hb.2.2.2.1⟩
  have := addW_st d l x
  omega
theorem tr_trim {w : World} {B B3 lb db m sg k a g : Nat} {d : Dk} {l : Lg} {all : List (List UInt8)} {v : Value} (h : TrS w B B3 lb db m sg k d l all v a g) (hsg : sg ≤ 65536) (hk : k ≤ 1000) (n : Int) :
    ∃ (d' : Dk) (l' : Lg) (a' : Nat), a ≤ a' ∧ (a < a' → (a' : Int) - 1 ≤ n) ∧ 1 ≤ a' ∧ a' - 1 ≤ all.length ∧ Calls Tryd.prog 40 #[.pointer (some ⟨lb, 0, none⟩), .int .i64 n] w fun e w' => e = .returned (.int .i64 0) ∧ TrS w' B B3 lb db m sg (k + 1) d' l' all v a' g ∧ Below B w w' := by
  obtain ⟨init, lst, sb, hI⟩ := h.inv
  have hb := h.lg.bel
  have hm := hI.many
  have hseg := h.seg
  have hst := h.steps
  have hst2 := trimN_st n l.nums d
  obtain ⟨a', init', i1, i2, i3, i4, i5⟩ := hI.trim n
  obtain ⟨c1, c2, c3⟩ := i4 h.calm.off h.calm.armed
  have hn2 := i1.next
  have hn3 := i1.len
  have hn4 := i1.a1
  refine ⟨(trimN n d l.nums).2.1, { l with nums := (trimN n d l.nums).2.2 }, a', i2, i3, hn4, by show a' - 1 ≤ all.length; omega, ?_⟩
  refine (trim_gen h.lg (hI.lok2 (by omega)) h.dk hI.ok (by omega) n).mono ?_
  rintro e w' ⟨rfl, q1, q2, q3⟩
  obtain ⟨r1, r2⟩ := h.kl q3 (.inl rfl)
  have hsz := q3.size
  exact ⟨by show Ending.returned (Value.int .i64 (trimN n d l.nums).1) = _; rw [c1], ⟨⟨init', lst, sb, i1⟩, q1, q2, ⟨c2, c3, i5.trans h.calm.room⟩, hseg, h.small, by show (trimN n d l.nums).2.1.steps ≤ _; omega, r1, r2, ⟨h.b3.1, h.b3.2.1, h.b3.2.2.1, Nat.le_trans h.b3.2.2.2.1 hsz, h.b3.2.2.2.2⟩⟩, q3.belowN hb.2.2.2.2 hb.1 hb.2.1 hb.2.2.1 hb.2.2.2.1⟩
theorem tr_read {w : World} {B B3 lb db m sg k a g : Nat} {d : Dk} {l : Lg} {all : List (List UInt8)} {v : Value} (h : TrS w B B3 lb db m sg k d l all v a g) (hsg : sg ≤ 65536) :
    Calls Tryd.prog 45 #[.pointer (some ⟨lb, 0, none⟩), .int .i64 (a : Int)] w fun e w' => ∃ vr, e = .returned (.tuple #[vr, .int .i64 0]) ∧ SL w w' vr (all.drop (a - 1)) := by
  obtain ⟨init, lst, sb, hI⟩ := h.inv
  have hseg := h.seg
  have hf := hI.first
  have hn := hI.next
  have hm := hI.many
  have hr := hI.read h.calm.off a (Nat.le_refl _) (by omega)
  refine (read_gen h.lg (hI.lok2 (by omega)) h.dk hI.ok (by omega) a (by omega) (by omega)).mono ?_
  rintro e w' ⟨q1, _⟩
  unfold readR at q1
  rw [hr] at q1
  exact q1 rfl
theorem tr_first {w : World} {B B3 lb db m sg k a g : Nat} {d : Dk} {l : Lg} {all : List (List UInt8)} {v : Value} (h : TrS w B B3 lb db m sg k d l all v a g) (hsg : sg ≤ 65536) :
    Calls Tryd.prog 41 #[.pointer (some ⟨lb, 0, none⟩)] w fun e w' => e = .returned (.int .i64 (a : Int)) ∧ w' = w := by
  obtain ⟨init, lst, sb, hI⟩ := h.inv
  have hseg := h.seg
  have h1 := first_any h.lg (hI.lok2 (by omega))
  rw [hI.first] at h1
  exact h1
theorem tr_next {w : World} {B B3 lb db m sg k a g : Nat} {d : Dk} {l : Lg} {all : List (List UInt8)} {v : Value} (h : TrS w B B3 lb db m sg k d l all v a g) :
    Calls Tryd.prog 44 #[.pointer (some ⟨lb, 0, none⟩)] w fun e w' => e = .returned (.int .i64 ((all.length : Int) + 1)) ∧ w' = w := by
  obtain ⟨init, lst, sb, hI⟩ := h.inv
  have h1 := next_any h.lg
  rw [show (l.next : Int) = (all.length : Int) + 1 by have := hI.len; omega] at h1
  exact h1
end Go.Proofs.YtnpgjlhnlakgpaaDoor

/- The law WalKeeps: the log and all its records, from call to call. -/
import Derived.Test.YtnpgjlhnlakgpaaDoorWalAg
import Derived.Test.YtnpgjlhnlakgpaaDoorG14
import Derived.Test.YtnpgjlhnlakgpaaDoorG08
namespace Go.Proofs.YtnpgjlhnlakgpaaDoor
open Go.RowKit Go.Maps

/-- A log lies here whose records are these. -/
def KeL (w : World) (B lb db m sg k : Nat) (l : Lg) (all : List (List UInt8)) (a g : Nat) : Prop :=
  ∃ (d : Dk) (init : List (List (List UInt8))) (lst : List (List UInt8)) (sb : Nat), LInv d l all a init lst sb ∧ LgW w B lb db m g l ∧ DAt w db m d ∧ l.seg = sg ∧ all.length ≤ k ∧ d.steps ≤ 100 * k + 10
/-- They lie in a row of the law's own. -/
structure KeR (w : World) (B lb db m g : Nat) (v : Value) (all : List (List UInt8)) : Prop where
  row : w.ownsRow B 9 1 v all.length (recVals all)
  n0 : v.ownBlock ≠ some lb
  n1 : v.ownBlock ≠ some db
  n2 : v.ownBlock ≠ some m
  n3 : v.ownBlock ≠ some g
/-- A block that nobody touches. -/
structure KeX (w : World) (lb db m g xb : Nat) (v : Value) (ob : Obj) : Prop where
  h : w.heap[xb]? = some ob
  ne : xb ≠ lb ∧ xb ≠ db ∧ xb ≠ m ∧ xb ≠ g
  nv : v.ownBlock ≠ some xb
section
variable {w w' : World} {B lb db m sg k a g : Nat} {l : Lg} {all : List (List UInt8)} {v : Value}
theorem KeL.below (h : KeL w B lb db m sg k l all a g) (hB : Below w.heap.size w w') : KeL w' B lb db m sg k l all a g := by
  obtain ⟨d, init, lst, sb, h1, h2, h3, h4⟩ := h
  exact ⟨d, init, lst, sb, h1, h2.below hB, DC.below h3 hB, h4⟩
theorem KeL.more (h : KeL w B lb db m sg k l all a g) (k' : Nat) (hk : k ≤ k') : KeL w B lb db m sg k' l all a g := by
  obtain ⟨d, init, lst, sb, h1, h2, h3, h4, h5, h6⟩ := h
  exact ⟨d, init, lst, sb, h1, h2, h3, h4, by omega, by omega⟩
theorem KeR.below (h : KeR w B lb db m g v all) (hB : Below w.heap.size w w') : KeR w' B lb db m g v all :=
  ⟨row_of_blk h.row (fun k hk => hB.block k (h.row.lt k hk).2), h.n0, h.n1, h.n2, h.n3⟩
theorem KeR.kl {g' : Nat} (h : KeR w B lb db m g v all) (hk : KL lb db m g w w') (hg : g' = g ∨ w.heap.size ≤ g') : KeR w' B lb db m g' v all := by
  refine ⟨row_of_blk h.row (fun k hk2 => ?_), h.n0, h.n1, h.n2, fun e => ?_⟩
  · exact hk.block k (h.row.lt k hk2).2 (fun e => h.n0 (by rw [hk2, e])) (fun e => h.n1 (by rw [hk2, e])) (fun e => h.n2 (by rw [hk2, e])) (fun e => h.n3 (by rw [hk2, e]))
  · rcases hg with rfl | hg
    · exact h.n3 e
    · have := (h.row.lt g' e).2; omega
theorem KeR.kp {lb' g' : Nat} (h : KeR w B lb db m g v all) (hk : Kp db m w w') (h1 : w.heap.size ≤ lb') (h2 : w.heap.size ≤ g') : KeR w' B lb' db m g' v all :=
  ⟨row_of_blk h.row (fun k hk2 => hk.block k (h.row.lt k hk2).2 (fun e => h.n1 (by rw [hk2, e])) (fun e => h.n2 (by rw [hk2, e]))), fun e => by have := (h.row.lt _ e).2; omega, h.n1, h.n2, fun e => by have := (h.row.lt _ e).2; omega⟩
/-- The first ones. -/
theorem KeR.take {p : Option Addr} {n c : Nat} (h : KeR w B lb db m g (.slice p n c) all) (k : Nat) (hk : k ≤ all.length) : KeR w B lb db m g (.slice p k c) (all.take k) := by
  have ho : (Value.slice p k c).ownBlock = (Value.slice p n c).ownBlock := by cases p <;> rfl
  refine ⟨?_, by rw [ho]; exact h.n0, by rw [ho]; exact h.n1, by rw [ho]; exact h.n2, by rw [ho]; exact h.n3⟩
  have hl : (all.take k).length = k := by rw [List.length_take]; omega
  rw [hl]
  refine ⟨by simp [recVals]; omega, ?_⟩
  rcases h.row.2 with ⟨hv, h0⟩ | ⟨g2, cap, cur, hv, q1, q2, q3, q4, q5, q6⟩
  · cases hv
    exact .inl ⟨by rw [show k = 0 by omega], by omega⟩
  · cases hv
    refine .inr ⟨g2, c, cur, rfl, q1, q2, by omega, q4, q5, ?_⟩
    have : recVals (all.take k) = (recVals all).take k := by simp [recVals]
    rw [this, ← q6, List.take_take]
    congr 1
    omega
theorem KeX.below {xb : Nat} {ob : Obj} (h : KeX w lb db m g xb v ob) (hB : Below w.heap.size w w') : KeX w' lb db m g xb v ob :=
  ⟨(hB.block xb (Array.getElem?_eq_some_iff.1 h.h).1).trans h.h, h.ne, h.nv⟩
theorem KeX.kl {xb g' : Nat} {ob : Obj} (h : KeX w lb db m g xb v ob) (hk : KL lb db m g w w') (hg : g' = g ∨ w.heap.size ≤ g') : KeX w' lb db m g' xb v ob := by
  have hl := (Array.getElem?_eq_some_iff.1 h.h).1
  obtain ⟨n1, n2, n3, n4⟩ := h.ne
  refine ⟨(hk.block xb hl n1 n2 n3 n4).trans h.h, ⟨n1, n2, n3, ?_⟩, h.nv⟩
  rcases hg with rfl | hg
  · exact n4
  · omega
theorem ke_add (h : KeL w B lb db m sg k l all a g) (hr : KeR w B lb db m g v all) (hsg : sg ≤ 65536) (hk : k ≤ 1000) (x : List UInt8) (hx : x.length ≤ 1000) :
    ∃ (c : Int) (l' : Lg), Calls Tryd.prog 38 #[.pointer (some ⟨lb, 0, none⟩), .string (bs x)] w fun e w' => (∃ g', e = .returned (.int .i64 c) ∧ KeL w' B lb db m sg (k + 1) l' (if c = 0 then all ++ [x] else all) a g' ∧ KeR w' B lb db m g' v all ∧ (∀ xb ob, KeX w lb db m g xb v ob → KeX w' lb db m g' xb v ob)) ∧ Below B w w' := by
  obtain ⟨d, init, lst, sb, h1, h2, h3, h4, h5, h6⟩ := h
  have hlen := h1.len
  have hb := h2.bel
  have hxz : (bs x).size = x.length := bs_size x
  refine ⟨(addW d l x).1, (addW d l x).2.2, ?_⟩
  refine (add_gen h2 (h1.lok2 (by omega)) h3 h1.ok (by omega) (by have := h1.many; omega) (bs x) (by omega)).mono ?_
  rintro e w' ⟨rfl, g', q1, q2, q3, q4⟩
  rw [bs_data'] at q1 q2 ⊢
  obtain ⟨init', lst', sb', i1, i2, i3⟩ := h1.add x (by omega) (by omega)
  refine ⟨⟨g', rfl, ⟨_, init', lst', sb', i1, q1, q2, by rw [i2]; exact h4, ?_, ?_⟩, hr.kl q3 q4, fun _ _ hx => hx.kl q3 q4⟩, q3.belowN hb.2.2.2.2 hb.1 hb.2.1 hb.2.2.1 hb.2.2.2.1⟩
  · split
    · rw [List.length_append, List.length_singleton]; omega
    · omega
  · have := addW_st d l x
    omega
theorem ke_sync (h : KeL w B lb db m sg k l all a g) (hr : KeR w B lb db m g v all) (hsg : sg ≤ 65536) (hk : k ≤ 1000) :
    Calls Tryd.prog 39 #[.pointer (some ⟨lb, 0, none⟩)] w fun e w' => (∃ c l', e = .returned (.int .i64 c) ∧ KeL w' B lb db m sg (k + 1) l' all a g ∧ KeR w' B lb db m g v all ∧ (∀ xb ob, KeX w lb db m g xb v ob → KeX w' lb db m g xb v ob)) ∧ Below B w w' := by
  obtain ⟨d, init, lst, sb, h1, h2, h3, h4, h5, h6⟩ := h
  have hb := h2.bel
  have hst := syncW_st d l
  refine (sync_gen h2 (h1.lok2 (by omega)) h3 h1.ok (by omega)).mono ?_
  rintro e w' ⟨rfl, q1, q2, q3⟩
  have hB := q3.belowN hb.2.2.2.2 hb.1 hb.2.1 hb.2.2.1 hb.2.2.2.1
  rcases h1.sync with ⟨_, i2, i3, _⟩ | ⟨_, i2, i3⟩
  · rw [i2] at q1
    exact ⟨⟨_, l, rfl, ⟨_, init, lst, sb, i3, q1, q2, h4, by omega, by omega⟩, hr.kl q3 (.inl rfl), fun _ _ hx => hx.kl q3 (.inl rfl)⟩, hB⟩
  · exact ⟨⟨_, _, rfl, ⟨_, init, lst, _, i3, q1, q2, by rw [(syncW_seg d l).1]; exact h4, by omega, by omega⟩, hr.kl q3 (.inl rfl), fun _ _ hx => hx.kl q3 (.inl rfl)⟩, hB⟩
theorem ke_trim (h : KeL w B lb db m sg k l all a g) (hr : KeR w B lb db m g v all) (hsg : sg ≤ 65536) (hk : k ≤ 1000) (n : Int) :
    Calls Tryd.prog 40 #[.pointer (some ⟨lb, 0, none⟩), .int .i64 n] w fun e w' => (∃ c l' a', e = .returned (.int .i64 c) ∧ KeL w' B lb db m sg (k + 1) l' all a' g ∧ KeR w' B lb db m g v all ∧ (∀ xb ob, KeX w lb db m g xb v ob → KeX w' lb db m g xb v ob)) ∧ Below B w w' := by
  obtain ⟨d, init, lst, sb, h1, h2, h3, h4, h5, h6⟩ := h
  have hb := h2.bel
  have hm := h1.many
  have hst := trimN_st n l.nums d
  refine (trim_gen h2 (h1.lok2 (by omega)) h3 h1.ok (by omega) n).mono ?_
  rintro e w' ⟨rfl, q1, q2, q3⟩
  have hB := q3.belowN hb.2.2.2.2 hb.1 hb.2.1 hb.2.2.1 hb.2.2.2.1
  obtain ⟨a', init', i1, _⟩ := h1.trim n
  exact ⟨⟨_, _, a', rfl, ⟨_, init', lst, sb, i1, q1, q2, h4, by omega, by show (trimN n d l.nums).2.1.steps ≤ _; omega⟩, hr.kl q3 (.inl rfl), fun _ _ hx => hx.kl q3 (.inl rfl)⟩, hB⟩
theorem ke_first (h : KeL w B lb db m sg k l all a g) (hsg : sg ≤ 65536) :
    Calls Tryd.prog 41 #[.pointer (some ⟨lb, 0, none⟩)] w fun e w' => e = .returned (.int .i64 (a : Int)) ∧ w' = w := by
  obtain ⟨d, init, lst, sb, h1, h2, h3, h4, h5, h6⟩ := h
  have q := first_any h2 (h1.lok2 (by omega))
  rw [h1.first] at q
  exact q
theorem ke_next (h : KeL w B lb db m sg k l all a g) :
    Calls Tryd.prog 44 #[.pointer (some ⟨lb, 0, none⟩)] w fun e w' => e = .returned (.int .i64 ((all.length : Int) + 1)) ∧ w' = w := by
  obtain ⟨d, init, lst, sb, h1, h2, h3, h4, h5, h6⟩ := h
  have q := next_any h2
  rw [show (l.next : Int) = (all.length : Int) + 1 by have := h1.len; omega] at q
  exact q
theorem ke_safe (h : KeL w B lb db m sg k l all a g) (hsg : sg ≤ 65536) :
    Calls Tryd.prog 47 #[.pointer (some ⟨lb, 0, none⟩)] w fun e w' => e = .returned (.int .i64 (l.told : Int)) ∧ Below w.heap.size w w' := by
  obtain ⟨d, init, lst, sb, h1, h2, h3, h4, h5, h6⟩ := h
  exact safe_any h2 (h1.lok2 (by omega))
theorem ke_told (h : KeL w B lb db m sg k l all a g) : l.told ≤ all.length ∧ 1 ≤ a ∧ a ≤ all.length + 1 ∧ all.length ≤ k := by
  obtain ⟨d, init, lst, sb, h1, h2, h3, h4, h5, h6⟩ := h
  have q1 := h1.safe1
  have q2 := h1.len
  have q3 := h1.first
  have q4 := h1.next
  have q5 := h1.a1
  unfold Lg.told
  rw [q3]
  omega
/-- The disk's power, with so many steps. -/
theorem ke_arm (h : KeL w B lb db m sg k l all a g) (hr : KeR w B lb db m g v all) (n : Int) (hn : n < 9223372036854775808) :
    Calls Tryd.prog 46 #[.pointer (some ⟨db, 0, none⟩), .int .i64 n] w fun e w' => e = .returned (.tuple #[]) ∧ KeL w' B lb db m sg k l all a g ∧ KeR w' B lb db m g v all ∧ (∀ xb ob, KeX w lb db m g xb v ob → KeX w' lb db m g xb v ob) ∧ Below B w w' := by
  obtain ⟨d, init, lst, sb, h1, h2, h3, h4, h5, h6⟩ := h
  have hb := h2.bel
  refine (arm_any h3 n).mono ?_
  rintro e w' ⟨rfl, q1, q2⟩
  have e : (d.arm n).L = d.L := by unfold Dk.arm; split <;> rfl
  exact ⟨rfl, ⟨d.arm n, init, lst, sb, ⟨e.trans h1.files, h1.nums, h1.a1, h1.recs, h1.next, h1.len, h1.seg1, h1.full, h1.size, h1.sble, h1.safe1, h1.safe2, h1.small, h1.max, h1.ok.arm hn⟩, h2.kp q2, q1, h4, h5, by rw [arm_st]; exact h6⟩, hr.kl (KL.of_kp q2) (.inl rfl), fun _ _ hx => hx.kl (KL.of_kp q2) (.inl rfl), Kp.belowN (Below.refl B w) q2 hb.2.2.2.2 hb.2.1 hb.2.2.1⟩
/-- Crashes, and openings: what is there behind them. -/
theorem ke_again (h : KeL w B lb db m sg k l all a g) (hr : KeR w B lb db m g v all) (h1' : 1 ≤ sg) (hsg : sg ≤ 65536) (hk : k ≤ 1000) {keep turn ss : List Int} {kv tv sv : Value}
    (hkv : IntsAt db m w kv keep) (htv : IntsAt db m w tv turn) (hss : IntsAt db m w sv ss) (hkb : ∀ x ∈ keep, x ≤ 9223372036854775807) (htb : ∀ x ∈ turn, x ≤ 9223372036854775807) (hsb : ∀ x ∈ ss, x ≤ 9223372036854775807) :
    ∃ j, j ≤ all.length ∧ l.told ≤ j ∧ a ≤ j + 1 ∧ Calls Tryd.prog 48 #[.pointer (some ⟨db, 0, none⟩), .int .i64 (sg : Int), .agg #[kv, tv], sv] w fun e w' =>
      (∃ lb' g' l', e = .returned (.pointer (some ⟨lb', 0, none⟩)) ∧ KeL w' B lb' db m sg (k + 1) l' (all.take j) a g' ∧ l'.told = j ∧ KeR w' B lb' db m g' v all ∧
        ∀ W, Below w'.heap.size w' W → Calls Tryd.prog 45 #[.pointer (some ⟨lb', 0, none⟩), .int .i64 (a : Int)] W fun e w'' => ∃ vr, e = .returned (.tuple #[vr, .int .i64 0]) ∧ SL W w'' vr ((all.take j).drop (a - 1))) ∧ Below B w w' := by
  obtain ⟨d, init, lst, sb, h1, h2, h3, h4, h5, h6⟩ := h
  have hb := h2.bel
  obtain ⟨j, C, hj, hc, hsj, _⟩ := h1.crash keep turn
  have q1 := h1.next
  have q2 := h1.len
  have q3 := h1.a1
  have q4 := h1.first
  rw [h4] at hc
  obtain ⟨J, hJ⟩ : ∃ J, a - 1 + init.flatten.length + j = J := ⟨_, rfl⟩
  rw [hJ] at hc hsj
  refine ⟨J, by omega, by unfold Lg.told; rw [q4]; omega, by omega, ?_⟩
  refine (again_any h3 ⟨h1.ok, C, hc⟩ (by omega) h1' hsg h2.pow ⟨hb.2.1, hb.2.2.1, hb.2.2.2.2⟩ hkv htv hss hkb htb hsb).mono ?_
  rintro e w' ⟨lb', g', l', d', rfl, p1, p2, p3, p4, p5, ⟨p6, p7⟩, p8, p9, p10⟩
  have r1 := p3.next
  have r2 := p3.len
  have r3 := p3.first
  have r4 := p3.a1
  have r5 := p3.many
  have hlen : (all.take J).length = J := by rw [List.length_take]; omega
  refine ⟨⟨lb', g', l', rfl, ⟨d', init, lst.take j, l'.size, p3, p1, p2, p4, by omega, by omega⟩, by unfold Lg.told; rw [r3]; omega, hr.kp p8 p9 p10, ?_⟩, Kp.belowN (Below.refl B w) p8 hb.2.2.2.2 hb.2.1 hb.2.2.1⟩
  intro W hW
  have hrd := p3.read p6 a (Nat.le_refl _) (by omega)
  refine (read_gen (p1.below hW) (p3.lok2 (by omega)) (DC.below p2 hW) p3.ok (by omega) a (by omega) (by omega)).mono ?_
  rintro e w'' ⟨s1, _⟩
  unfold readR at s1
  rw [hrd] at s1
  exact s1 rfl
end
end Go.Proofs.YtnpgjlhnlakgpaaDoor

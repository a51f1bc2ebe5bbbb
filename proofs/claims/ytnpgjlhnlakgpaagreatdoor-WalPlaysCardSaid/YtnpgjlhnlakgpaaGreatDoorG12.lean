/- Where a log lies in the world. A segment's number put behind the others: one step of a region. A log of any segments: First, Next, Safe, last. -/
import Derived.Test.YtnpgjlhnlakgpaaGreatDoorWalNa
import Derived.Test.YtnpgjlhnlakgpaaGreatDoorG10
import Derived.Test.YtnpgjlhnlakgpaaGreatDoorG04
import Derived.Deep.RegionLaw
import Derived.Deep.RegionHeld3
import Derived.ArgAppend
import Derived.OwnWalk
namespace Go.Proofs.YtnpgjlhnlakgpaaGreatDoor
open Go.RowKit Go.Maps

/-- The table of powers of ten stands, whatever is done from block B on. -/
def PowB (B : Nat) (w : World) : Prop := Lib.TabBelow Tryz.prog B w "internal/strconv.uint64pow10" .u64 Lib.pow10Tab
theorem PowB.on {B : Nat} {w w' : World} (h : PowB B w) (hb : Below B w w') : PowB B w' := Lib.TabBelow.on h hb
theorem PowB.here {B : Nat} {w : World} (h : PowB B w) : Pow w := Lib.TabBelow.here h
/-- All is kept but what lies in four blocks. -/
structure KL (lb db m g : Nat) (w w' : World) : Prop where
  os : w'.os = w.os
  tape : w'.tape = w.tape
  output : w'.output = w.output
  size : w.heap.size ≤ w'.heap.size
  block : ∀ k, k < w.heap.size → k ≠ lb → k ≠ db → k ≠ m → k ≠ g → w'.heap[k]? = w.heap[k]?
section
variable {lb db m g g' : Nat} {w w' w0 w1 : World}
theorem KL.refl (lb db m g : Nat) (w : World) : KL lb db m g w w := ⟨rfl, rfl, rfl, Nat.le_refl _, fun _ _ _ _ _ _ => rfl⟩
theorem KL.trans (h : KL lb db m g w0 w) (k : KL lb db m g' w w') (hg : g' = g ∨ w0.heap.size ≤ g') : KL lb db m g w0 w' :=
  ⟨k.os.trans h.os, k.tape.trans h.tape, k.output.trans h.output, Nat.le_trans h.size k.size, fun j hj h1 h2 h3 h4 => (k.block j (Nat.lt_of_lt_of_le hj h.size) h1 h2 h3 (by rcases hg with e | e; exact e ▸ h4; omega)).trans (h.block j hj h1 h2 h3 h4)⟩
theorem KL.of_kp (h : Kp db m w w') : KL lb db m g w w' := ⟨h.os, h.tape, h.output, h.size, fun k hk _ h2 h3 _ => h.block k hk h2 h3⟩
theorem KL.of_below (h : Below w.heap.size w w') : KL lb db m g w w' := KL.of_kp (Kp.of_below h)
theorem KL.kp (h : KL lb db m g w0 w) (k : Kp db m w w') : KL lb db m g w0 w' := h.trans (KL.of_kp (g := g) k) (.inl rfl)
theorem KL.below (h : KL lb db m g w0 w) (k : Below w.heap.size w w') : KL lb db m g w0 w' := h.kp (Kp.of_below k)
theorem KL.set (h : KL lb db m g w0 w) (o : Nat) (u : Value) : KL lb db m g w0 (w.setCell ⟨lb, o, none⟩ u) :=
  h.trans (g' := g) ⟨rfl, rfl, rfl, by simp, fun k _ h1 _ _ _ => Below.heap_setCell _ _ _ _ h1⟩ (.inl rfl)
theorem KL.belowN {B : Nat} (h : KL lb db m g w w') (h0 : B ≤ w.heap.size) (h1 : B ≤ lb) (h2 : B ≤ db) (h3 : B ≤ m) (h4 : B ≤ g) : Below B w w' :=
  ⟨h.os, h.tape, h.output, h.size, fun k hk => h.block k (by omega) (by omega) (by omega) (by omega) (by omega)⟩
theorem KL.cell (h : KL lb db m g w w') {j : Nat} (hj : j < w.heap.size) (h1 : j ≠ lb) (h2 : j ≠ db) (h3 : j ≠ m) (h4 : j ≠ g) (o : Nat) : w'.cell? ⟨j, o, none⟩ = w.cell? ⟨j, o, none⟩ :=
  World.cell?_of_block (h.block j hj h1 h2 h3 h4)
end
/-- The numbers of a log's segments: from o on in block g. -/
structure NumAt (w : World) (g o cap : Nat) (nums : List Nat) : Prop where
  blk : ∃ x, w.heap[g]? = some x
  cells : ∀ (i n : Nat), nums[i]? = some n → w.cell? ⟨g, o + i, none⟩ = some (.int .i64 (n : Int))
  spare : ∀ i, i < cap → (w.cell? ⟨g, o + i, none⟩).isSome = true ∧ w.frozen? ⟨g, o + i, none⟩ = false
  le : nums.length ≤ cap
  max : o + cap ≤ maxLen
theorem NumAt.lt {w : World} {g o cap : Nat} {nums : List Nat} (h : NumAt w g o cap nums) : g < w.heap.size := by
  obtain ⟨x, hc⟩ := h.blk
  exact (Array.getElem?_eq_some_iff.1 hc).1
theorem NumAt.cell {w : World} {g o cap : Nat} {nums : List Nat} (h : NumAt w g o cap nums) {i n : Nat} (hi : nums[i]? = some n) : w.cell? ⟨g, o + i, none⟩ = some (.int .i64 (n : Int)) := h.cells i n hi
theorem NumAt.of_block {w w' : World} {g o cap : Nat} {nums : List Nat} (h : NumAt w g o cap nums) (hb : w'.heap[g]? = w.heap[g]?) : NumAt w' g o cap nums :=
  ⟨by rw [hb]; exact h.blk, fun i n hi => by rw [World.cell?_of_block (w := w) hb]; exact h.cells i n hi, fun i hi => by rw [World.cell?_of_block (w := w) hb, World.frozen?_of_block (w := w) hb]; exact h.spare i hi, h.le, h.max⟩
theorem NumAt.tail {w : World} {g o cap a : Nat} {nums : List Nat} (h : NumAt w g o cap (a :: nums)) : NumAt w g (o + 1) (cap - 1) nums := by
  have := h.le
  simp only [List.length_cons] at this
  exact ⟨h.blk, fun i n hi => by have := h.cells (i + 1) n (by simpa using hi); rwa [show o + 1 + i = o + (i + 1) by omega], fun i hi => by have := h.spare (i + 1) (by omega); rwa [show o + 1 + i = o + (i + 1) by omega], by omega, by have := h.max; omega⟩
theorem NumAt.init {w : World} {g o cap q : Nat} {nums : List Nat} (h : NumAt w g o cap (nums ++ [q])) : NumAt w g o cap nums :=
  ⟨h.blk, fun i n hi => h.cells i n (by rw [List.getElem?_append_left (List.getElem?_eq_some_iff.1 hi).1]; exact hi), h.spare, by have := h.le; simp at this; omega, h.max⟩
/-- A log l lies in block lb, on the disk in blocks db and m, its numbers in block g; all of them behind B. -/
structure LgW (w : World) (B lb db m g : Nat) (l : Lg) : Prop where
  c0 : w.cell? ⟨lb, 0, none⟩ = some (.pointer (some ⟨db, 0, none⟩))
  c1 : w.cell? ⟨lb, 1, none⟩ = some (.int .i64 (l.seg : Int))
  c2 : ∃ o cap, w.cell? ⟨lb, 2, none⟩ = some (.slice (some ⟨g, o, none⟩) l.nums.length cap) ∧ NumAt w g o cap l.nums
  c3 : w.cell? ⟨lb, 3, none⟩ = some (.int .i64 (l.size : Int))
  c4 : w.cell? ⟨lb, 4, none⟩ = some (.int .i64 (l.next : Int))
  c5 : w.cell? ⟨lb, 5, none⟩ = some (.int .i64 (l.safe : Int))
  f2 : w.frozen? ⟨lb, 2, none⟩ = false
  f3 : w.frozen? ⟨lb, 3, none⟩ = false
  f4 : w.frozen? ⟨lb, 4, none⟩ = false
  f5 : w.frozen? ⟨lb, 5, none⟩ = false
  ne : lb ≠ db ∧ lb ≠ m ∧ g ≠ db ∧ g ≠ m ∧ g ≠ lb
  bel : B ≤ lb ∧ B ≤ db ∧ B ≤ m ∧ B ≤ g ∧ B ≤ w.heap.size
  pow : PowB B w
section
variable {w w' : World} {B lb db m g : Nat} {l : Lg}
theorem LgW.lt (h : LgW w B lb db m g l) : lb < w.heap.size ∧ g < w.heap.size := by
  obtain ⟨o, cap, _, hn⟩ := h.c2
  exact ⟨World.block_lt_of_cell? w _ h.c0, hn.lt⟩
theorem LgW.kp (h : LgW w B lb db m g l) (hk : Kp db m w w') : LgW w' B lb db m g l := by
  obtain ⟨h1, h2⟩ := h.lt
  obtain ⟨n1, n2, n3, n4, n5⟩ := h.ne
  obtain ⟨b1, b2, b3, b4, b5⟩ := h.bel
  have c := fun o => hk.cell h1 n1 n2 o
  have f := fun o => hk.frozen h1 n1 n2 o
  obtain ⟨o, cap, hc, hn⟩ := h.c2
  exact ⟨(c 0).trans h.c0, (c 1).trans h.c1, ⟨o, cap, (c 2).trans hc, hn.of_block (hk.block g h2 n3 n4)⟩, (c 3).trans h.c3, (c 4).trans h.c4, (c 5).trans h.c5, (f 2).trans h.f2, (f 3).trans h.f3, (f 4).trans h.f4, (f 5).trans h.f5, h.ne,
    ⟨b1, b2, b3, b4, Nat.le_trans b5 hk.size⟩, h.pow.on (Kp.belowN (Below.refl _ _) hk b5 b2 b3)⟩
theorem LgW.below (h : LgW w B lb db m g l) (hB : Below w.heap.size w w') : LgW w' B lb db m g l := h.kp (Kp.of_below hB)
theorem LgW.drewN {n : Nat} (h : LgW w B lb db m g l) : LgW (w.drewN n) B lb db m g l := h.kp ((Kp.refl db m w).drewN)
theorem LgW.drew (h : LgW w B lb db m g l) : LgW w.drew B lb db m g l := h.below (Below.refl _ _).drew
/-- A number of it is stored. -/
theorem LgW.store (h : LgW w B lb db m g l) (j : Nat) (hj : j = 3 ∨ j = 4 ∨ j = 5) (u : Nat) (l' : Lg) (h1 : l'.seg = l.seg) (h2 : l'.nums = l.nums)
    (e3 : l'.size = if j = 3 then u else l.size) (e4 : l'.next = if j = 4 then u else l.next) (e5 : l'.safe = if j = 5 then u else l.safe) :
    LgW (w.setCell ⟨lb, j, none⟩ (.int .i64 (u : Int))) B lb db m g l' := by
  obtain ⟨n1, n2, n3, n4, n5⟩ := h.ne
  obtain ⟨b1, b2, b3, b4, b5⟩ := h.bel
  have c : ∀ o, o ≠ j → (w.setCell ⟨lb, j, none⟩ (.int .i64 (u : Int))).cell? ⟨lb, o, none⟩ = w.cell? ⟨lb, o, none⟩ := fun o ho => World.cell?_setCell_other _ _ _ _ (fun e => ho (by cases e; rfl))
  have f : ∀ o, (w.setCell ⟨lb, j, none⟩ (.int .i64 (u : Int))).frozen? ⟨lb, o, none⟩ = w.frozen? ⟨lb, o, none⟩ := fun o => World.frozen?_setCell ..
  obtain ⟨o, cap, hc, hn⟩ := h.c2
  refine ⟨(c 0 (by omega)).trans h.c0, by rw [c 1 (by omega), h1]; exact h.c1, ⟨o, cap, by rw [c 2 (by omega), h2]; exact hc, by rw [h2]; exact hn.of_block (Below.heap_setCell _ _ _ _ n5)⟩, ?_, ?_, ?_, (f 2).trans h.f2, (f 3).trans h.f3, (f 4).trans h.f4, (f 5).trans h.f5, h.ne,
    ⟨b1, b2, b3, b4, by simpa using b5⟩, h.pow.on ((Below.refl _ _).setCell (p := ⟨lb, j, none⟩) b1 _)⟩
  · rw [e3]
    by_cases hq : j = 3
    · subst hq; rw [if_pos rfl]; exact World.cell?_setCell_same _ _ _ h.c3
    · rw [if_neg hq, c 3 (fun e => hq e.symm)]; exact h.c3
  · rw [e4]
    by_cases hq : j = 4
    · subst hq; rw [if_pos rfl]; exact World.cell?_setCell_same _ _ _ h.c4
    · rw [if_neg hq, c 4 (fun e => hq e.symm)]; exact h.c4
  · rw [e5]
    by_cases hq : j = 5
    · subst hq; rw [if_pos rfl]; exact World.cell?_setCell_same _ _ _ h.c5
    · rw [if_neg hq, c 5 (fun e => hq e.symm)]; exact h.c5
/-- Its numbers are others. -/
theorem LgW.renum (h : LgW w B lb db m g l) {g' o cap : Nat} {l' : Lg} (hn : NumAt w g' o cap l'.nums) (hg : g' ≠ db ∧ g' ≠ m ∧ g' ≠ lb ∧ B ≤ g') (h1 : l'.seg = l.seg) (e3 : l'.size = l.size) (e4 : l'.next = l.next) (e5 : l'.safe = l.safe) :
    LgW (w.setCell ⟨lb, 2, none⟩ (.slice (some ⟨g', o, none⟩) l'.nums.length cap)) B lb db m g' l' := by
  obtain ⟨n1, n2, n3, n4, n5⟩ := h.ne
  obtain ⟨b1, b2, b3, b4, b5⟩ := h.bel
  have c : ∀ j, j ≠ 2 → (w.setCell ⟨lb, 2, none⟩ (.slice (some ⟨g', o, none⟩) l'.nums.length cap)).cell? ⟨lb, j, none⟩ = w.cell? ⟨lb, j, none⟩ := fun o ho => World.cell?_setCell_other _ _ _ _ (fun e => ho (by cases e; rfl))
  have f : ∀ j, (w.setCell ⟨lb, 2, none⟩ (.slice (some ⟨g', o, none⟩) l'.nums.length cap)).frozen? ⟨lb, j, none⟩ = w.frozen? ⟨lb, j, none⟩ := fun o => World.frozen?_setCell ..
  obtain ⟨o0, cap0, hc, _⟩ := h.c2
  exact ⟨(c 0 (by omega)).trans h.c0, by rw [c 1 (by omega), h1]; exact h.c1, ⟨o, cap, World.cell?_setCell_same _ _ _ hc, hn.of_block (Below.heap_setCell _ _ _ _ hg.2.2.1)⟩, by rw [c 3 (by omega), e3]; exact h.c3, by rw [c 4 (by omega), e4]; exact h.c4, by rw [c 5 (by omega), e5]; exact h.c5,
    (f 2).trans h.f2, (f 3).trans h.f3, (f 4).trans h.f4, (f 5).trans h.f5, ⟨n1, n2, hg.1, hg.2.1, hg.2.2.1⟩, ⟨b1, b2, b3, hg.2.2.2, by simpa using b5⟩, h.pow.on ((Below.refl _ _).setCell (p := ⟨lb, 2, none⟩) b1 _)⟩
end
end Go.Proofs.YtnpgjlhnlakgpaaGreatDoor
namespace Go.Proofs.YtnpgjlhnlakgpaaGreatDoor
open Go.RowKit Go.Maps

theorem i64cell : (Tryz.prog.info? 3).map (fun i => (i.zero, i.size, i.bytes)) = some (some (.int .i64 0), 1, 8) := by kernel_rfl
def numVals (l : List Nat) : List Value := l.map fun (n : Nat) => Value.int .i64 (n : Int)
theorem append_num (w : World) (ty : TypeId) {g o cap : Nat} {nums : List Nat} {q : Nat} (hN : NumAt w g o cap nums) (ad : Addr) (c : Nat) (hc : w.cell? ad = some (.int .i64 (q : Int))) (hle : nums.length + 1 ≤ 1000000000000) :
    ∃ g' o' cap' w', (Builtin.append_ #[38, 38] ty #[.slice (some ⟨g, o, none⟩) nums.length cap, .slice (some ad) 1 c]).run Tryz.prog w = .ok (.slice (some ⟨g', o', none⟩) (nums.length + 1) cap') w' ∧
      NumAt w' g' o' cap' (nums ++ [q]) ∧ NumAt w' g o cap nums ∧ (g' = g ∨ w.heap.size ≤ g') ∧ w.grownBy w' (some g) := by
  obtain ⟨i0, hi0, hz0, hz1, hz2⟩ := info_parts i64cell
  have hnews : ∀ (j : Nat) u, [Value.int .i64 (q : Int)][j]? = some u → w.cell? (ad.add j) = some u := by
    intro j u hj
    match j, hj with
    | 0, hj =>
      have : ad.add 0 = ad := by cases ad; unfold Addr.add; split <;> simp_all
      rw [this, hc]
      simpa using hj
  have hm := hN.max
  have hl := hN.le
  unfold maxLen at hm
  by_cases hr : nums.length + 1 ≤ cap
  · have hs := hN.spare nums.length (by omega)
    have hrun := run_append_room_cells (P := Tryz.prog) w 38 ty 3 i0 Tryz.underlying38 hi0 g o nums.length cap ad 1 c [.int .i64 (q : Int)] (by rw [hz1]; rfl) hnews (by simp [Value.oneCell']) hr
      (fun j hj => by rw [hz1, Nat.mul_one]; simp at hj; subst hj; exact hs.1) (fun j hj => by rw [hz1, Nat.mul_one]; simp at hj; subst hj; exact hs.2)
    rw [hz1, Nat.mul_one] at hrun
    obtain ⟨u0, hu0⟩ := Option.isSome_iff_exists.1 hs.1
    have cc : ∀ i, i ≠ nums.length → (w.setCells g (o + nums.length) [.int .i64 (q : Int)]).cell? ⟨g, o + i, none⟩ = w.cell? ⟨g, o + i, none⟩ := fun i hi => World.cell?_setCell_other _ _ _ _ (fun e => hi (by have := (Addr.mk.inj e).2.1; omega))
    have cs : (w.setCells g (o + nums.length) [.int .i64 (q : Int)]).cell? ⟨g, o + nums.length, none⟩ = some (.int .i64 (q : Int)) := World.cell?_setCell_same _ _ _ hu0
    have ff : ∀ i, (w.setCells g (o + nums.length) [.int .i64 (q : Int)]).frozen? ⟨g, o + i, none⟩ = w.frozen? ⟨g, o + i, none⟩ := fun i => World.frozen?_setCells ..
    have hb : ∃ x, (w.setCells g (o + nums.length) [.int .i64 (q : Int)]).heap[g]? = some x := by
      have := World.block_lt_of_cell? _ _ cs
      exact ⟨_, Array.getElem?_eq_getElem this⟩
    have hsp : ∀ i, i < cap → ((w.setCells g (o + nums.length) [.int .i64 (q : Int)]).cell? ⟨g, o + i, none⟩).isSome = true ∧ (w.setCells g (o + nums.length) [.int .i64 (q : Int)]).frozen? ⟨g, o + i, none⟩ = false := fun i hi => by
      refine ⟨?_, by rw [ff]; exact (hN.spare i hi).2⟩
      by_cases h : i = nums.length
      · subst h; rw [cs]; rfl
      · rw [cc i h]; exact (hN.spare i hi).1
    have h1 : NumAt (w.setCells g (o + nums.length) [.int .i64 (q : Int)]) g o cap (nums ++ [q]) := by
      refine ⟨hb, fun i n hi => ?_, hsp, by simpa using hr, hN.max⟩
      by_cases h : i = nums.length
      · subst h
        rw [List.getElem?_append_right (Nat.le_refl _)] at hi
        simp at hi
        subst hi
        exact cs
      · have hlt : i < nums.length := by
          have := (List.getElem?_eq_some_iff.1 hi).1
          simp at this
          omega
        rw [cc i h]
        rw [List.getElem?_append_left hlt] at hi
        exact hN.cells i n hi
    exact ⟨g, o, cap, _, hrun, h1, h1.init, .inl rfl, ⟨rfl, rfl, rfl, by simp [World.setCells], fun k _ hk => Below.heap_setCell _ _ _ _ (fun e => hk (by rw [e]))⟩⟩
  · have holds : ∀ (j : Nat) u, (numVals nums)[j]? = some u → w.cell? ((⟨g, o, none⟩ : Addr).add j) = some u := by
      intro j u hj
      rw [Addr.add_lit]
      unfold numVals at hj
      rw [List.getElem?_map] at hj
      obtain ⟨n, hn, rfl⟩ := Option.map_eq_some_iff.1 hj
      exact hN.cells j n hn
    obtain ⟨v', w', hrun, r1, r2⟩ := run_append_arg_grows (P := Tryz.prog) w 38 ty 3 i0 (.int .i64 0) 1 8 Tryz.underlying38 hi0 hz0 hz1 hz2 rfl (by decide) ⟨g, o, none⟩ nums.length cap (numVals nums) (by simp [numVals]) holds ad 1 c [.int .i64 (q : Int)] rfl hnews (by omega) (by unfold maxLen; omega) (by omega)
    rcases id r1.2 with ⟨_, h0⟩ | ⟨g', cap', cur, rfl, hg, hh, hnc, hcm, hcs, ht⟩
    · omega
    rw [Nat.mul_one] at hcs ht
    refine ⟨g', 0, cap', w', hrun, ⟨⟨_, hh⟩, fun i n hi => ?_, fun i hi => ?_, by simpa using hnc, by simpa using hcm⟩, hN.of_block (r2.block g hN.lt (by simp)), .inr hg, ⟨r2.os, r2.tape, r2.output, r2.size, fun k hk _ => r2.block k hk (by simp)⟩⟩
    · rw [Nat.zero_add]
      have hil : i < nums.length + 1 := by have := (List.getElem?_eq_some_iff.1 hi).1; simpa using this
      unfold World.cell?
      rw [hh]
      show cur[i]? = _
      have h1 : cur.toList[i]? = (numVals nums ++ [.int .i64 (q : Int)])[i]? := by rw [← ht, List.getElem?_take_of_lt hil]
      rw [← Array.getElem?_toList, h1]
      have : numVals nums ++ [.int .i64 (q : Int)] = numVals (nums ++ [q]) := by simp [numVals]
      rw [this]
      unfold numVals
      rw [List.getElem?_map, hi]
      rfl
    · rw [Nat.zero_add]
      refine ⟨?_, ?_⟩
      · unfold World.cell?
        rw [hh]
        show (cur[i]?).isSome = true
        rw [Array.getElem?_eq_getElem (by omega)]
        rfl
      · unfold World.frozen?
        rw [hh]
        simp
theorem step_append_num {ops : Array Oper} {op : Oper} {a : Act} {K : Act → World → Prop} {Q : Exit → Act → World → Prop} {E : Prop} {w : World} (hgd : op.guard = none) (s x : Operand)
    (ho : op.op = Op.call { callee := Callee.builtin Builtin.append, args := #[s, x], argTypes := #[38, 38] }) {g o cap : Nat} {nums : List Nat} {n q : Nat} (hn : nums.length = n) (hs : a.eval s = .slice (some ⟨g, o, none⟩) n cap) (hN : NumAt w g o cap nums)
    (ad : Addr) (c : Nat) (hx : a.eval x = .slice (some ad) 1 c) (hc : w.cell? ad = some (.int .i64 (q : Int))) (hle : n + 1 ≤ 1000000000000)
    (hK : ∀ g' o' cap' w', NumAt w' g' o' cap' (nums ++ [q]) → NumAt w' g o cap nums → (g' = g ∨ w.heap.size ≤ g') → w.grownBy w' (some g) → K (a.put op.dst (.slice (some ⟨g', o', none⟩) (n + 1) cap')) w') :
    if Region.wanted op (yielded ops a.tmps) = true then Oper.wp Tryz.prog op a w K Q else E := by
  have hw : Region.wanted op (yielded ops a.tmps) = true := by simp [Region.wanted, hgd]
  rw [if_pos hw]
  subst hn
  obtain ⟨g', o', cap', w', hrun, h1, h2, h3, h4⟩ := append_num w op.type hN ad c hc hle
  unfold Oper.wp
  simp [execOp, ho, resolve, invoke, builtin, hs, hx, hrun, Result.andThen]
  exact hK g' o' cap' w' h1 h2 h3 h4
end Go.Proofs.YtnpgjlhnlakgpaaGreatDoor
namespace Go.Proofs.YtnpgjlhnlakgpaaGreatDoor
open Go.RowKit Go.Maps

/-- A log's numbers are within bounds. -/
structure Lg.Ok (l : Lg) : Prop where
  nz : l.nums ≠ []
  bd : ∀ n ∈ l.nums, 0 < n ∧ n < 1000000000000
  size : l.size ≤ 8000000
  next : 1 ≤ l.next ∧ l.next ≤ 1000000000000
  safe : l.safe ≤ 1000000000000
  seg : 1 ≤ l.seg ∧ l.seg ≤ 65536
theorem Lg.Ok.head {l : Lg} (h : l.Ok) : l.nums[0]? = some l.first ∧ 0 < l.first ∧ l.first < 1000000000000 ∧ 0 < l.nums.length := by
  have h1 := h.nz
  have h2 := h.bd
  unfold Lg.first
  cases hn : l.nums with
  | nil => exact absurd hn h1
  | cons a t =>
    rw [hn] at h2
    exact ⟨rfl, (h2 a (by simp)).1, (h2 a (by simp)).2, by simp⟩
theorem Lg.Ok.lst {l : Lg} (h : l.Ok) : l.nums[l.nums.length - 1]? = some l.lastN ∧ 0 < l.lastN ∧ l.lastN < 1000000000000 := by
  have h1 := h.nz
  have h2 := h.bd
  unfold Lg.lastN
  have e : l.nums.getLastD 0 = l.nums.getLast h1 := by rw [List.getLastD_eq_getLast?, List.getLast?_eq_some_getLast h1]; rfl
  rw [e]
  refine ⟨?_, h2 _ (List.getLast_mem h1)⟩
  rw [← List.getLast?_eq_getElem?, List.getLast?_eq_some_getLast h1]

section
variable {w : World} {B lb db m g : Nat} {l : Lg}
set_option maxHeartbeats 2000000 in
theorem first_any (h : LgW w B lb db m g l) (ho : l.Ok) : Calls Tryz.prog 18 #[.pointer (some ⟨lb, 0, none⟩)] w fun e w' => e = .returned (.int .i64 (l.first : Int)) ∧ w' = w := by
  obtain ⟨o, cap, c2, hn⟩ := h.c2
  obtain ⟨h0, _, _, hz⟩ := ho.head
  have n0 := hn.cell h0
  rw [Nat.add_zero] at n0
  obtain ⟨n, hnn⟩ : ∃ n, l.nums.length = n := ⟨_, rfl⟩
  rw [hnn] at c2 hz
  obtain ⟨F, hF⟩ : ∃ F, l.first = F := ⟨_, rfl⟩
  rw [hF] at n0 ⊢
  have hzi : (0 : Int) < (n : Int) := by omega
  clear h hn h0 hnn hF ho
  go_enter Tryz.func18, Tryz.ntmps18
  go_wp2_with fail
  go_ret
  exact ⟨rfl, rfl⟩
set_option maxHeartbeats 2000000 in
theorem next_any (h : LgW w B lb db m g l) : Calls Tryz.prog 19 #[.pointer (some ⟨lb, 0, none⟩)] w fun e w' => e = .returned (.int .i64 (l.next : Int)) ∧ w' = w := by
  have c4 := h.c4
  clear h
  go_enter Tryz.func19, Tryz.ntmps19
  go_wp2_with fail
  go_ret
  exact ⟨rfl, rfl⟩
set_option maxHeartbeats 4000000 in
theorem last_any (h : LgW w B lb db m g l) (ho : l.Ok) : Calls Tryz.prog 50 #[.pointer (some ⟨lb, 0, none⟩)] w fun e w' => e = .returned (.string (nameN l.lastN)) ∧ Below w.heap.size w w' := by
  have hgn := GW.ne (Inv := fun W => Below w.heap.size w W) (Below.refl _ w)
  obtain ⟨o, cap, c2', hn⟩ := h.c2
  obtain ⟨h0, h1, h2⟩ := ho.lst
  obtain ⟨_, _, _, hz⟩ := ho.head
  have n0' := hn.cell h0
  have hlb := h.lt
  have hm := hn.le
  have hm2 := hn.max
  have c2 : ∀ u : GW (fun W => Below w.heap.size w W), u.w.cell? ⟨lb, 2, none⟩ = some (.slice (some ⟨g, o, none⟩) l.nums.length cap) := fun u => (u.h.cell (p := ⟨lb, 2, none⟩) hlb.1).trans c2'
  have n0 : ∀ u : GW (fun W => Below w.heap.size w W), u.w.cell? ⟨g, o + (l.nums.length - 1), none⟩ = some (.int .i64 (l.lastN : Int)) := fun u => (u.h.cell (p := ⟨g, o + (l.nums.length - 1), none⟩) hlb.2).trans n0'
  have NM : Hid (∀ u : GW (fun W => Below w.heap.size w W), Calls Tryz.prog 48 #[.int .i64 (l.lastN : Int)] u.w fun e w' => e = .returned (.string (nameN l.lastN)) ∧ Below u.w.heap.size u.w w') := fun u => name_any l.lastN h1 h2 u.w ((h.below u.h).pow.here)
  obtain ⟨S, hS⟩ : ∃ S, nameN l.lastN = S := ⟨_, rfl⟩
  rw [hS] at NM ⊢
  obtain ⟨n, hnn⟩ : ∃ n, l.nums.length = n + 1 := ⟨l.nums.length - 1, by omega⟩
  rw [hnn] at c2
  rw [show l.nums.length - 1 = n by omega] at n0
  rw [hnn] at hm
  unfold maxLen at hm2
  obtain ⟨F, hF⟩ : ∃ F, l.lastN = F := ⟨_, rfl⟩
  rw [hF] at n0 NM
  have q1 : IntKind.i64.wrap (((n + 1 : Nat) : Int) - 1) = (n : Int) := by rw [IntKind.wrap_i64]; omega
  have q2 : (n : Int) < ((n + 1 : Nat) : Int) := by omega
  have q3 : (0 : Int) ≤ (n : Int) := by omega
  clear h hn h0 hnn hF ho hS c2' n0' hlb hz h1 h2
  go_enter Tryz.func50, Tryz.ntmps50
  go_wp2_with fail
  refine wp_region_grow (fun W => Below w.heap.size w W) (by kernel_rfl) (by kernel_rfl) (Below.refl _ _).drew ?_
  repeat (go_big_quiet_step ((go_at_call 48; refine (NM.out _).mono ?_; rintro e w1 ⟨rfl, hb⟩; exact ⟨rfl, below_next _ hb⟩)))
  refine wpQuiet_nil ?_
  intro w4 hw'
  obtain ⟨⟨wx, h4⟩, hw''⟩ := hw'
  subst hw''
  go_wp2_with fail
  go_ret
  exact ⟨rfl, h4⟩
set_option maxHeartbeats 4000000 in
theorem safe_any (h : LgW w B lb db m g l) (ho : l.Ok) : Calls Tryz.prog 20 #[.pointer (some ⟨lb, 0, none⟩)] w fun e w' => e = .returned (.int .i64 (l.told : Int)) ∧ Below w.heap.size w w' := by
  have hgn := GW.ne (Inv := fun W => Below w.heap.size w W) (Below.refl _ w)
  have c5 : ∀ u : GW (fun W => Below w.heap.size w W), u.w.cell? ⟨lb, 5, none⟩ = some (.int .i64 (l.safe : Int)) := fun u => (h.below u.h).c5
  obtain ⟨_, hf0, hf1, _⟩ := ho.head
  have NM : Hid (∀ u : GW (fun W => Below w.heap.size w W), Calls Tryz.prog 18 #[.pointer (some ⟨lb, 0, none⟩)] u.w fun e w' => e = .returned (.int .i64 (l.first : Int)) ∧ Below u.w.heap.size u.w w') := fun u => (first_any (h.below u.h) ho).mono fun e w' ⟨h1, h2⟩ => ⟨h1, by rw [h2]; exact Below.refl _ _⟩
  have HT : Hid ((l.told : Int) = max (l.safe : Int) ((l.first : Int) - 1)) := by show _ = _; unfold Lg.told; omega
  obtain ⟨S, hS⟩ : ∃ S : Int, (l.safe : Int) = S := ⟨_, rfl⟩
  obtain ⟨F, hF⟩ : ∃ F : Int, (l.first : Int) = F := ⟨_, rfl⟩
  obtain ⟨T, hT⟩ : ∃ T : Int, (l.told : Int) = T := ⟨_, rfl⟩
  have q1 : IntKind.i64.wrap (F - 1) = F - 1 := by rw [IntKind.wrap_i64]; omega
  rw [hS] at c5
  rw [hF] at NM
  rw [hS, hF, hT] at HT
  rw [hT]
  clear h ho hf0 hf1 hS hF hT
  go_enter Tryz.func20, Tryz.ntmps20
  go_wp2_with fail
  refine wp_region_grow (fun W => Below w.heap.size w W) (by kernel_rfl) (by kernel_rfl) (Below.refl _ _).drew ?_
  repeat (go_big_quiet_step ((go_at_call 18; refine (NM.out _).mono ?_; rintro e w1 ⟨rfl, hb⟩; exact ⟨rfl, below_next _ hb⟩)))
  refine wpQuiet_nil ?_
  intro w4 hw'
  obtain ⟨⟨wx, h4⟩, hw''⟩ := hw'
  subst hw''
  go_wp2_with fail
  go_ret
  exact ⟨by rw [HT.out]; rfl, h4⟩
end
end Go.Proofs.YtnpgjlhnlakgpaaGreatDoor

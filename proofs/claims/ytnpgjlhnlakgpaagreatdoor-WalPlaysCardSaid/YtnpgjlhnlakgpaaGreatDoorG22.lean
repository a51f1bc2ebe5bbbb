/- Opening the document's log: its parts in memory. The document's Open. -/
import Derived.Test.YtnpgjlhnlakgpaaGreatDoorWalQg
import Derived.Test.YtnpgjlhnlakgpaaGreatDoorG17
import Derived.Test.YtnpgjlhnlakgpaaGreatDoorWalQn
import Derived.Test.YtnpgjlhnlakgpaaGreatDoorG15
import Derived.Test.YtnpgjlhnlakgpaaGreatDoorWalOg
namespace Go.Proofs.YtnpgjlhnlakgpaaGreatDoor
open Go.RowKit Go.Maps

/-- append of texts, wherever these lie, behind a row of the call's own. -/
theorem run_app_txts {w : World} (base : Nat) (ty : TypeId) (v : Value) (n : Nat) (xs : List Value) (hown : w.ownsRow base 9 1 v n xs) {p : Option Addr} {k c : Nat} {ys : List (List UInt8)} (hk : ys.length = k) (hy : TxtAt w (.slice p k c) ys)
    (h63 : n + k ≤ maxLen) (hbytes : (n + k) * 16 ≤ 140737488355328) (hbase : base ≤ w.heap.size) :
    ∃ v' w', (Builtin.append_ #[55, 55] ty #[v, .slice p k c]).run Tryz.prog w = .ok v' w' ∧ w'.ownsRow base 9 1 v' (n + k) (xs ++ recVals ys) ∧ w.grownBy w' v.ownBlock ∧ (v'.ownBlock = v.ownBlock ∨ v'.ownBlock = some w.heap.size) := by
  obtain ⟨i0, hi, hz, hsize, hby⟩ := info_parts string_sizes
  have ht := Tryz.underlying55
  obtain ⟨p', c', hv, h2⟩ := hy
  injection hv with h3 h4 h5
  subst h3 h5
  subst hk
  cases p with
  | none =>
    have hy0 : ys = [] := by
      rcases h2 with h2 | ⟨g, o, h2, _⟩
      · exact h2
      · cases h2
    subst hy0
    refine ⟨v, w, ?_, by simpa [recVals] using hown, ⟨rfl, rfl, rfl, Nat.le_refl _, fun _ _ _ => rfl⟩, .inl rfl⟩
    rcases hown.2 with ⟨rfl, rfl⟩ | ⟨g, cap, cur, rfl, _, _, hnc, _⟩
    · simp [Builtin.append_, run_underlying ht, sizeOf, typeInfo, hi, Builtin.lenOf, Builtin.firstCells]
    · simp [Builtin.append_, run_underlying ht, sizeOf, typeInfo, hi, Builtin.lenOf, Builtin.firstCells, hnc, storeCells]
  | some a =>
    have hcell : ∀ j u, (recVals ys)[j]? = some u → w.cell? (a.add j) = some u := fun j u hj => by
      unfold recVals at hj
      rw [List.getElem?_map] at hj
      obtain ⟨s, hs, rfl⟩ := Option.map_eq_some_iff.1 hj
      obtain ⟨g, o, h6, hc⟩ := h2.resolve_left (fun e => by rw [e] at hs; simp at hs)
      cases h6
      rw [Addr.add_lit]
      exact hc j s hs
    obtain ⟨v', w', h7, h8, h9, _, h10⟩ := run_append_own_at (P := Tryz.prog) (w := w) base 55 ty 9 i0 (.string ⟨#[]⟩) 1 16 ht hi hz hsize hby rfl (by omega) v n xs hown a ys.length c (recVals ys) (by simp [recVals]) hcell
      (fun u hu => by obtain ⟨x, _, rfl⟩ := List.mem_map.1 hu; rfl) h63 hbytes hbase
    exact ⟨v', w', h7, h8, h9, h10⟩
theorem wpList_app_txts {w : World} {ops : Array Oper} {rest : List Oper} {o : Oper} {a : Act} {Q : Exit → Act → World → Prop} (hgd : o.guard = none) (s x : Operand)
    (ho : o.op = .call { callee := .builtin .append, args := #[s, x], argTypes := #[55, 55] })
    (base : Nat) (v : Value) (n : Nat) (xs : List Value) (hs : a.eval s = v) (hown : w.ownsRow base 9 1 v n xs) (p : Option Addr) (k c : Nat) (ys : List (List UInt8)) (hx : a.eval x = .slice p k c) (hk : ys.length = k) (hy : TxtAt w (.slice p k c) ys)
    (h63 : n + k ≤ maxLen) (hbytes : (n + k) * 16 ≤ 140737488355328) (hbase : base ≤ w.heap.size)
    (h : ∀ v' w', w'.ownsRow base 9 1 v' (n + k) (xs ++ recVals ys) → w.grownBy w' v.ownBlock → (v'.ownBlock = v.ownBlock ∨ v'.ownBlock = some w.heap.size) → wpList Tryz.prog ops Q rest (a.put o.dst v') w') : wpList Tryz.prog ops Q (o :: rest) a w := by
  refine wpList_plain hgd fun K hK => ?_
  obtain ⟨v', w', hr, h2, h3, h4⟩ := run_app_txts (w := w) base o.type v n xs hown hk hy h63 hbytes hbase
  unfold Oper.wp
  simp [execOp, ho, resolve, invoke, builtin, hs, hx, hr, Result.andThen]
  exact hK _ _ (h v' w' h2 h3 h4)
/-- A row of texts of one's own is a log's. -/
theorem AllW.of_own {w : World} {mb : Nat} {v : Value} {L : List (List UInt8)} (h : w.ownsRow (mb + 1) 9 1 v L.length (recVals L)) : ∃ ga, AllW w mb ga v L ∧ ga = v.ownBlock.getD mb := by
  rcases h.2 with ⟨hv, h1⟩ | ⟨g, cap, cur, hv, hg, hh, hnc, hcm, hcs, ht⟩
  · exact ⟨mb, .inl ⟨hv, List.length_eq_zero_iff.1 h1, rfl⟩, by rw [hv]; rfl⟩
  · rw [Nat.mul_one] at hcs ht
    refine ⟨g, .inr ⟨by omega, 0, cap, hv, ⟨⟨_, hh⟩, fun i s hi => ?_, fun i hi => ?_, hnc, by simpa using hcm⟩⟩, by rw [hv]; rfl⟩
    · rw [Nat.zero_add]
      have hil : i < L.length := (List.getElem?_eq_some_iff.1 hi).1
      unfold World.cell?
      rw [hh]
      show cur[i]? = _
      have h1 : cur.toList[i]? = (recVals L)[i]? := by rw [← ht, List.getElem?_take_of_lt hil]
      rw [← Array.getElem?_toList, h1]
      unfold recVals
      rw [List.getElem?_map, hi]
      rfl
    · rw [Nat.zero_add]
      refine ⟨?_, ?_⟩
      · unfold World.cell?
        rw [hh]
        show (cur[i]?).isSome = true
        rw [Array.getElem?_eq_getElem (by omega)]
        rfl
      · unfold World.frozen?
        rw [hh]
        simp
/-- The document's log while it is opened. -/
structure Lr (w : World) (mb rb seg : Nat) (v va : Value) : Prop where
  c0 : w.cell? ⟨mb, 0, none⟩ = some (.pointer (some ⟨rb, 0, none⟩))
  c1 : w.cell? ⟨mb, 1, none⟩ = some (.int .i64 (seg : Int))
  c2 : w.cell? ⟨mb, 2, none⟩ = some v
  c3 : w.cell? ⟨mb, 3, none⟩ = some va
  c4 : w.cell? ⟨mb, 4, none⟩ = some (.int .i64 0)
  f : ∀ o, w.frozen? ⟨mb, o, none⟩ = false
section
variable {w w' : World} {mb rb seg : Nat} {v va : Value}
theorem Lr.of_block (h : Lr w mb rb seg v va) (hb : w'.heap[mb]? = w.heap[mb]?) : Lr w' mb rb seg v va := by
  have c : ∀ o, w'.cell? ⟨mb, o, none⟩ = w.cell? ⟨mb, o, none⟩ := fun o => World.cell?_of_block hb
  have f : ∀ o, w'.frozen? ⟨mb, o, none⟩ = w.frozen? ⟨mb, o, none⟩ := fun o => World.frozen?_of_block hb
  exact ⟨(c 0).trans h.c0, (c 1).trans h.c1, (c 2).trans h.c2, (c 3).trans h.c3, (c 4).trans h.c4, fun o => (f o).trans (h.f o)⟩
theorem Lr.lt (h : Lr w mb rb seg v va) : mb < w.heap.size := World.block_lt_of_cell? w _ h.c0
theorem Lr.below {B : Nat} (h : Lr w mb rb seg v va) (hb : Below B w w') (hB : mb < B) : Lr w' mb rb seg v va := h.of_block (hb.block mb hB)
theorem Lr.kp {b m : Nat} (h : Lr w mb rb seg v va) (hb : Kp b m w w') (h1 : mb ≠ b) (h2 : mb ≠ m) : Lr w' mb rb seg v va := h.of_block (hb.block mb h.lt h1 h2)
theorem Lr.new (w : World) (rb seg : Nat) (T : TypeId) : Lr (w.alloc (.cells #[.pointer (some ⟨rb, 0, none⟩), .int .i64 (seg : Int), .slice none 0 0, .slice none 0 0, .int .i64 0] T)) w.heap.size rb seg (.slice none 0 0) (.slice none 0 0) :=
  ⟨World.cell?_alloc_new .., World.cell?_alloc_new .., World.cell?_alloc_new .., World.cell?_alloc_new .., World.cell?_alloc_new .., fun _ => World.frozen?_alloc_new ..⟩
theorem Lr.set2 (h : Lr w mb rb seg v va) (u : Value) : Lr (w.setCell ⟨mb, 2, none⟩ u) mb rb seg u va := by
  have c : ∀ o, o ≠ 2 → (w.setCell ⟨mb, 2, none⟩ u).cell? ⟨mb, o, none⟩ = w.cell? ⟨mb, o, none⟩ := fun o ho => World.cell?_setCell_other _ _ _ _ (fun e => ho (by cases e; rfl))
  exact ⟨(c 0 (by decide)).trans h.c0, (c 1 (by decide)).trans h.c1, World.cell?_setCell_same _ _ _ h.c2, (c 3 (by decide)).trans h.c3, (c 4 (by decide)).trans h.c4, fun o => by rw [World.frozen?_setCell]; exact h.f o⟩
theorem Lr.set3 (h : Lr w mb rb seg v va) (u : Value) : Lr (w.setCell ⟨mb, 3, none⟩ u) mb rb seg v u := by
  have c : ∀ o, o ≠ 3 → (w.setCell ⟨mb, 3, none⟩ u).cell? ⟨mb, o, none⟩ = w.cell? ⟨mb, o, none⟩ := fun o ho => World.cell?_setCell_other _ _ _ _ (fun e => ho (by cases e; rfl))
  exact ⟨(c 0 (by decide)).trans h.c0, (c 1 (by decide)).trans h.c1, (c 2 (by decide)).trans h.c2, World.cell?_setCell_same _ _ _ h.c3, (c 4 (by decide)).trans h.c4, fun o => by rw [World.frozen?_setCell]; exact h.f o⟩
theorem Lr.rg {B g o cap ga : Nat} {nums : List Nat} {L : List (List UInt8)} (h : Lr w mb rb seg (.slice (some ⟨g, o, none⟩) nums.length cap) va) (hn : NumAt w g o cap nums) (ha : AllW w mb ga va L) (ne : g ≠ mb ∧ g ≠ ga) (hb : B ≤ mb ∧ B ≤ g ∧ B ≤ ga ∧ B ≤ w.heap.size) : RgW w B mb rb g ga ⟨seg, nums, L, 0⟩ :=
  ⟨h.c0, h.c1, ⟨o, cap, h.c2, hn⟩, ⟨va, h.c3, ha⟩, h.c4, h.f 2, h.f 3, h.f 4, ne, hb⟩
end
/-- What the document's Open answers. -/
def ROpenPost (w0 : World) (B rb rg : Nat) (R : Int × Dk × Rg) (e : Ending) (w' : World) : Prop :=
  ∃ rg', (rg' = rg ∨ rg' = rb ∨ w0.heap.size ≤ rg') ∧ Kp rb rg w0 w' ∧
    ((R.1 = 0 ∧ ∃ mb g ga, e = .returned (.tuple #[.pointer (some ⟨mb, 0, none⟩), .int .i64 0]) ∧ RgS w' B mb rb rg' g ga R.2.2 R.2.1 ∧ w0.heap.size ≤ mb ∧ w0.heap.size ≤ g ∧ w0.heap.size ≤ ga) ∨
      (R.1 ≠ 0 ∧ e = .returned (.tuple #[.pointer none, .int .i64 R.1]) ∧ RAt w' rb rg' R.2.1))
end Go.Proofs.YtnpgjlhnlakgpaaGreatDoor
namespace Go.Proofs.YtnpgjlhnlakgpaaGreatDoor
open Go.RowKit Go.Maps

set_option maxRecDepth 100000 in
set_option maxHeartbeats 2000000 in
theorem ropen_bad {w : World} {rb : Nat} (seg : Int) (h : seg < 1 ∨ 65536 < seg) :
    Calls Tryz.prog 23 #[.pointer (some ⟨rb, 0, none⟩), .int .i64 seg] w fun e w' => e = .returned (.tuple #[.pointer none, .int .i64 1]) ∧ w' = w := by
  by_cases h1 : seg < 1
  · go_enter Tryz.func23, Tryz.ntmps23
    go_wp2_with fail
    go_ret2
    exact ⟨rfl, rfl⟩
  · have h2 : 65536 < seg := by omega
    go_enter Tryz.func23, Tryz.ntmps23
    go_wp2_with fail
    go_ret2
    exact ⟨rfl, rfl⟩
set_option maxRecDepth 100000 in
set_option maxHeartbeats 2000000 in
theorem open_bad {w : World} {db : Nat} (seg : Int) (h : seg < 1 ∨ 65536 < seg) :
    Calls Tryz.prog 17 #[.pointer (some ⟨db, 0, none⟩), .int .i64 seg] w fun e w' => e = .returned (.tuple #[.pointer none, .int .i64 1]) ∧ w' = w := by
  by_cases h1 : seg < 1
  · go_enter Tryz.func17, Tryz.ntmps17
    go_wp2_with fail
    go_ret2
    exact ⟨rfl, rfl⟩
  · have h2 : 65536 < seg := by omega
    go_enter Tryz.func17, Tryz.ntmps17
    go_wp2_with fail
    go_ret2
    exact ⟨rfl, rfl⟩
set_option maxRecDepth 100000 in
set_option maxHeartbeats 2000000 in
theorem ropen_off {w : World} {B rb rg : Nat} {d : Dk} (h : RAt w rb rg d) (ho : d.off = true) (seg : Nat) (h1 : 1 ≤ seg) (h2 : seg ≤ 65536) :
    Calls Tryz.prog 23 #[.pointer (some ⟨rb, 0, none⟩), .int .i64 (seg : Int)] w (ROpenPost w B rb rg (ropenW d seg)) := by
  have HE : Hid (ropenW d seg = (143, d, ⟨seg, [], [], 0⟩)) := by show _ = _; unfold ropenW; rw [if_pos ho]
  have HL := Lib.hid (ref_list_off h ho)
  have HD := Lib.hid h
  have n1 : ¬ (seg : Int) < 1 := by omega
  have n2 : ¬ (65536 : Int) < (seg : Int) := by omega
  clear h ho
  go_enter Tryz.func23, Tryz.ntmps23
  go_wp2_with (first
    | (go_at_call 52; refine HL.out.mono ?_; rintro e w1 ⟨rfl, hw1⟩; rw [← hw1]; clear hw1)
    | fail)
  go_ret2
  rw [HE.out]
  exact ⟨rg, .inl rfl, Kp.refl _ _ _, .inr ⟨show (143 : Int) ≠ 0 by decide, rfl, HD.out⟩⟩
theorem rec_next {d : Dk} (hok : d.Ok) (ho : d.off = false) {a wh : Nat} {t : List Nat} {acc : List (List UInt8)} (hn : numsL d.L = some (a :: t)) (h : rrecN d [] 0 (a :: t) = (0, acc, wh)) : a + acc.length ≤ 1000000000000 := by
  have hfs : ∀ m ∈ a :: t, ∃ f, findF (nameL m) d.L = some f := fun m hm => by
    obtain ⟨-, f, hf, e⟩ := numsL_back hn m hm
    exact ⟨f, by rw [← e]; exact find_mem hok.rise hf⟩
  rcases rec_same ho t a 0 0 0 [] 0 hfs (numsL_ne hok.rise hn) with ⟨_, e2⟩ | ⟨_, init, lst, f, H⟩
  · rw [h] at e2; simp at e2
  · have h1 := H.res
    have h2 := H.nx
    rw [h] at h1
    by_cases hc : 999999999999 + 1 < (recN d 0 0 0 (a :: t)).2.1
    · rw [if_pos hc] at h1
      have := congrArg (fun q => q.1) h1
      simp at this
    · rw [if_neg hc] at h1
      have h3 := congrArg (fun q => q.2.1) h1
      simp only [List.nil_append] at h3
      rw [h3, List.length_append]
      omega
/-- The numbers are gathered. -/
structure OqI (mb rb seg : Nat) (W : World) (L : List Fl) (i : Nat) (nums : List Nat) (v : Value) (wr : World) : Prop where
  l : Lr wr mb rb seg v (.slice none 0 0)
  row : wr.ownsRow (mb + 1) 3 1 v nums.length (numVals nums)
  bel : Below mb W wr
  num : numsL L = (numsL (L.drop i)).map (nums ++ ·)
  len : nums.length ≤ i
/-- The segments are looked at. -/
structure OrI (d : Dk) (mb rb seg : Nat) (W : World) (nums : List Nat) (v : Value) (RR : Int × List (List UInt8) × Nat) (i : Nat) (acc : List (List UInt8)) (wh : Nat) (va : Value) (wr : World) : Prop where
  l : Lr wr mb rb seg v va
  rn : wr.ownsRow (mb + 1) 3 1 v nums.length (numVals nums)
  ra : wr.ownsRow (mb + 1) 9 1 va acc.length (recVals acc)
  ne : ∀ x, v.ownBlock = some x → va.ownBlock ≠ some x
  bel : Below mb W wr
  res : rrecN d acc wh (nums.drop i) = RR
  bd : acc.length ≤ i * 4194304 ∧ wh ≤ 4194304
theorem num_cell {w : World} {B : Nat} {nums : List Nat} {g i : Nat} {cap k : Nat} (h : w.ownsRow B 3 1 (.slice (some ⟨g, 0, none⟩) k cap) k (numVals nums)) {n : Nat} (hi : nums[i]? = some n) : w.cell? ⟨g, i, none⟩ = some (.int .i64 (n : Int)) := by
  have := h.cells (g := g) rfl i (.int .i64 (n : Int)) (by simp [numVals, hi])
  rwa [Lib.add_plain, Nat.zero_add] at this
theorem own_some {w : World} {B k cap : Nat} {p : Option Addr} {nums : List Nat} (h : w.ownsRow B 3 1 (.slice p k cap) k (numVals nums)) (hk : 0 < k) : ∃ g, p = some ⟨g, 0, none⟩ ∧ B ≤ g ∧ g < w.heap.size ∧ k ≤ cap := by
  rcases h.2 with ⟨_, h0⟩ | ⟨g, cap', cur, hv, h1, h2, h3, _⟩
  · omega
  · injection hv with e1 e2 e3
    subst e1 e3
    exact ⟨g, rfl, h1, (Array.getElem?_eq_some_iff.1 h2).1, h3⟩
/-- The document's Open, on a disk that is on: behind the numbers. -/
structure OpA (d : Dk) (mb rb seg : Nat) (W : World) (nums : List Nat) (v : Value) (wr : World) : Prop where
  l : Lr wr mb rb seg v (.slice none 0 0)
  row : wr.ownsRow (mb + 1) 3 1 v nums.length (numVals nums)
  bel : Below mb W wr
  num : numsL d.L = some nums
  len : nums.length ≤ 64
set_option maxRecDepth 100000 in
set_option maxHeartbeats 32000000 in
theorem ropen_on {w : World} {B rb rg : Nat} {d : Dk} (h : RAt w rb rg d) (hok : d.Ok) (hs : d.steps + 3 < 4611686018427387904) (ho : d.off = false) (seg : Nat) (h1 : 1 ≤ seg) (h2 : seg ≤ 65536) (hb : B ≤ rb ∧ B ≤ w.heap.size) :
    Calls Tryz.prog 23 #[.pointer (some ⟨rb, 0, none⟩), .int .i64 (seg : Int)] w (ROpenPost w B rb rg (ropenW d seg)) := by
  obtain ⟨i0, hi0', hz0', hz1', hz2'⟩ := info_parts i64cell
  have HLI := Lib.hid (ref_list h hok.many ho)
  obtain ⟨RR, hR⟩ : ∃ RR, ropenW d seg = RR := ⟨_, rfl⟩
  have hRR := hR
  unfold ropenW at hRR
  rw [if_neg (by rw [ho]; decide)] at hRR
  rw [hR]
  have HRR := Lib.hid hRR
  obtain ⟨N, hN⟩ : ∃ N, d.L.length = N := ⟨_, rfl⟩
  have hN64 := hok.many
  rw [hN] at HLI hN64
  have HN := Lib.hid hN
  have HD := Lib.hid h
  have HOK := Lib.hid hok
  have HST := Lib.hid hs
  have HO := Lib.hid ho
  have hdl := h.lt
  have hml := h.ltg
  have n1 : ¬ (seg : Int) < 1 := by omega
  have n2 : ¬ (65536 : Int) < (seg : Int) := by omega
  obtain ⟨b1, b3⟩ := hb
  clear h hok hs hRR ho hR hN
  go_enter Tryz.func23, Tryz.ntmps23
  go_wp2_with (first
    | (go_at_call 52; refine HLI.out.mono ?_; rintro e w1 ⟨vn, rfl, hrow, hb⟩; obtain ⟨pn, cn, hvn⟩ := owns_sl2 hrow; subst hvn; have HB1 := Lib.hid hb; have HRW := Lib.hid hrow; clear hb hrow)
    | fail)
  have hz1 := HB1.out.size
  have HL0 := Lib.hid (Lr.new w1 rb seg 93)
  have HBW : Hid (Below w1.heap.size w1 (w1.alloc (.cells #[.pointer (some ⟨rb, 0, none⟩), .int .i64 (seg : Int), .slice none 0 0, .slice none 0 0, .int .i64 0] 93))) := (Below.refl _ _).alloc (Nat.le_refl _) _
  obtain ⟨mb, hlb⟩ : ∃ mb, w1.heap.size = mb := ⟨_, rfl⟩
  have hrl : ∀ k, (Value.slice pn N cn).ownBlock = some k → w.heap.size ≤ k ∧ k < mb := by rw [← hlb]; exact HRW.out.lt
  have hbl : mb ≠ rb ∧ mb ≠ rg ∧ w.heap.size ≤ mb := by omega
  rw [hlb] at HL0 HBW ⊢
  have HLB := Lib.hid hlb
  clear hlb
  generalize w1.alloc (.cells #[.pointer (some ⟨rb, 0, none⟩), .int .i64 (seg : Int), .slice none 0 0, .slice none 0 0, .int .i64 0] 93) = W at *
  have HN1 := Lib.hid hz1
  clear n1 n2
  go_loopw [50] (fun iv wr => ∃ (i : Nat) (nums : List Nat) (v : Value), i ≤ N ∧ iv = .int .i64 (i : Int) ∧ OqI mb rb seg W d.L i nums v wr) (fun iv _ => N - (intOf iv).toNat)
  case atStart => exact ⟨0, [], _, Nat.zero_le _, rfl, ⟨HL0.out, World.ownsRow_nil _ _ _ _, Below.refl _ _, by rw [List.drop_zero]; cases numsL d.L <;> rfl, Nat.le_refl _⟩⟩
  case round =>
    obtain ⟨i, nums, v, hi, rfl, hI⟩ := hrel
    have HI := Lib.hid hI
    have HALL : Hid (Below w.heap.size w wr) := HB1.out.trans ((HBW.out.trans hI.bel).mono hbl.2.2)
    have hlr := hI.l.lt
    obtain ⟨pv, cv, hv⟩ := owns_sl2 hI.row
    subst hv
    have c2 := hI.l.c2
    have hle := hI.len
    clear hI
    by_cases hlt : i < N
    · have hli : (i : Int) < (N : Int) := by omega
      have hl0 : (0 : Int) ≤ (i : Int) := by omega
      obtain ⟨f, hf⟩ : ∃ f, d.L[i]? = some f := ⟨d.L[i]'(by rw [HN.out]; exact hlt), List.getElem?_eq_getElem _⟩
      have hfz := HOK.out.named f (List.mem_of_getElem? hf)
      obtain ⟨gn, rfl⟩ := row_some HRW.out (by omega)
      have hgn := hrl gn rfl
      have a0 : wr.cell? ⟨gn, i, none⟩ = some (.string f.name) := (HI.out.bel.cell (p := ⟨gn, i, none⟩) hgn.2).trans ((HBW.out.cell (p := ⟨gn, i, none⟩) hgn.2).trans (row_cell HRW.out hf))
      have hDR := numsL_drop hf
      have HNB := Lib.hid (fun W => rnumber_any f.name (by omega) W)
      obtain ⟨bp, hbp⟩ : ∃ bp, Lib.hasPrefix f.key preL = bp := ⟨_, rfl⟩
      obtain ⟨NM, hNMe⟩ : ∃ NM, f.name = NM := ⟨_, rfl⟩
      have hk : f.key = NM.data.toList := by rw [← hNMe]
      rw [hbp] at hDR
      rw [hk] at hDR hbp
      rw [hNMe] at a0 HNB
      unfold rnumZ at HNB
      rw [hbp] at HNB
      have HDR := Lib.hid hDR
      clear hf hbp hNMe hk hDR hfz
      cases bp with
      | false =>
        rw [if_neg (by decide)] at HNB
        have HNX : Hid (numsL d.L = (numsL (d.L.drop (i + 1))).map (nums ++ ·)) := by
          show _ = _
          rw [HI.out.num, HDR.out]
          rfl
        go_wp2_with (first
          | (go_at_call 53; refine (HNB.out _).mono ?_; rintro e w9 ⟨rfl, hw9⟩; rw [hw9]; clear hw9)
          | fail)
        go_roundw
        case rel => exact ⟨i + 1, nums, _, by omega, by go_num, HI.out.l, HI.out.row, HI.out.bel, HNX.out, by have := HI.out.len; omega⟩
        case measure => simp [intOf]; omega
      | true =>
        rw [if_pos rfl] at HNB
        cases hnk : numK NM.data.toList with
        | none =>
          rw [hnk] at HNB
          have HNX : Hid (RR = (150, d, ⟨seg, [], [], 0⟩)) := by
            show _ = _
            rw [← HRR.out, HI.out.num, HDR.out, hnk]
            rfl
          simp only at HNB
          clear hnk
          go_wp2_with (first
            | (go_at_call 53; refine (HNB.out _).mono ?_; rintro e w9 ⟨rfl, hw9⟩; rw [hw9]; clear hw9)
            | fail)
          go_ret2
          rw [HNX.out]
          exact ⟨rg, .inl rfl, Kp.of_below HALL.out, .inr ⟨show (150 : Int) ≠ 0 by decide, rfl, HD.out.below HALL.out⟩⟩
        | some n =>
          rw [hnk] at HNB
          have hnb := numK_bd hnk
          have HNX : Hid (numsL d.L = (numsL (d.L.drop (i + 1))).map ((nums ++ [n]) ++ ·)) := by
            show _ = _
            rw [HI.out.num, HDR.out, hnk]
            show Option.map _ (Option.map _ _) = _
            cases numsL (d.L.drop (i + 1)) with
            | none => rfl
            | some t => simp
          simp only at HNB
          obtain ⟨k, hk⟩ : ∃ k, nums.length = k := ⟨_, rfl⟩
          have HK := Lib.hid hk
          have HROW := Lib.hid HI.out.row
          rw [hk] at HROW c2 hle
          have hneb : ∀ x, (Value.slice pv k cv).ownBlock = some x → mb + 1 ≤ x ∧ x < wr.heap.size := HROW.out.lt
          have q0 : ¬ (n : Int) < 0 := by omega
          have q1 : (0 : Int) < (n : Int) := by omega
          clear hnk hk
          go_wp2_with (first
            | (go_at_call 53; refine (HNB.out _).mono ?_; rintro e w9 ⟨rfl, hw9⟩; rw [hw9]; clear hw9)
            | (at_builtin; refine wpList_append_own _ rfl _ _ 38 rfl (mb + 1) 3 i0 (.int .i64 0) 1 8 Tryz.underlying38 hi0' hz0' hz1' hz2' rfl (by decide) _ _ _ rfl (HROW.out.alloc _) ⟨wr.heap.size, 0, none⟩ 1 1 [.int .i64 (n : Int)] rfl rfl (cell_one_new _ _ _) (by simp [Value.oneCell']) (by unfold maxLen; omega) (by omega) (by simp; omega) ?_; intro v' w3 hown' hg3 hnil3; obtain ⟨p3, cp3, hv3⟩ := owns_sl2 hown'; subst hv3; have HO3 := Lib.hid hown'; have HG3 := Lib.hid hg3; have HL3 := Lib.hid ((HI.out.l.of_block (heap_alloc_old _ _ hlr)).of_block (hg3.block mb (by simp; omega) (fun e => by have := hneb mb e.symm; omega))); have c23 := HL3.out.c2; have f23 := HL3.out.f 2; rw [HK.out] at c23; clear hown' hg3 hnil3; go_frame)
            | fail)
          have HO4 : Hid ((w3.setCell ⟨mb, 2, none⟩ (.slice p3 (k + 1) cp3)).ownsRow (mb + 1) 3 1 (.slice p3 (k + 1) cp3) (k + 1) (numVals nums ++ [.int .i64 (n : Int)])) :=
            HO3.out.kept (row := some mb) ⟨rfl, rfl, rfl, by simp, fun k _ hk => Below.heap_setCell _ _ _ _ (fun e => hk (by rw [e]))⟩ (.inr (fun e => by have := (HO3.out.lt mb e).1; omega))
          have HB4 : Hid (Below mb W (w3.setCell ⟨mb, 2, none⟩ (.slice p3 (k + 1) cp3))) :=
            ((((HI.out.bel.alloc (by omega) _).grown HG3.out (by simp; omega) (fun j hj => by have := hneb j hj; omega))).setCell (p := ⟨mb, 2, none⟩) (Nat.le_refl _) _)
          have HL4 := Lib.hid (HL3.out.set2 (.slice p3 (k + 1) cp3))
          go_roundw
          case rel => exact ⟨i + 1, nums ++ [n], _, by omega, by go_num, HL4.out, by rw [List.length_append, HK.out]; simp only [numVals, List.map_append]; exact HO4.out, HB4.out, HNX.out, by rw [List.length_append, HK.out]; simp only [List.length_singleton]; omega⟩
          case measure => simp [intOf]; omega
    · have hiN : i = N := by omega
      have hli : ¬ (i : Int) < (N : Int) := by omega
      have HOA : Hid (OpA d mb rb seg W nums (.slice pv nums.length cv) wr) := ⟨HI.out.l, HI.out.row, HI.out.bel, by
        rw [HI.out.num, List.drop_eq_nil_of_le (by rw [HN.out]; omega)]
        simp [numsL], by omega⟩
      go_upto_region 16 with fail
      go_cut [10, 11, 12] from 26 (fun _ _ hv wc => hv = .int .i64 0 ∧ ∃ nums pv cv, OpA d mb rb seg W nums (.slice pv nums.length cv) wc)
      case first =>
        go_wp2_with fail
        go_meet
        case rel => exact ⟨rfl, nums, pv, cv, HOA.out⟩
      case rest =>
      obtain ⟨rfl, nums, pv, cv, hA⟩ := hcut
      clear HI HALL HOA c2 hle hlr hi hli hiN hlt
      have HOA := Lib.hid hA
      have c2 := hA.l.c2
      have hk64 := hA.len
      obtain ⟨RC, hRC⟩ : ∃ RC, rrecN d [] 0 nums = RC := ⟨_, rfl⟩
      have HRC := Lib.hid hRC
      obtain ⟨k, hk⟩ : ∃ k, nums.length = k := ⟨_, rfl⟩
      have HK := Lib.hid hk
      have HRN := Lib.hid hA.row
      have HNUM := Lib.hid hA.num
      have HNBD : Hid (∀ nums, numsL d.L = some nums → ∀ n ∈ nums, 0 < n ∧ n < 1000000000000) := fun nums h => numsL_bd _ _ h
      have HR0 : Hid (OrI d mb rb seg W nums (.slice pv nums.length cv) RC 0 [] 0 (.slice none 0 0) wc) := ⟨hA.l, hA.row, World.ownsRow_nil _ _ _ _, fun x _ => by simp [Value.ownBlock], hA.bel, by rw [List.drop_zero]; exact hRC, by simp⟩
      rw [hk] at HR0 HRN c2 hk64
      clear hA hRC hk
      go_upto_region 17 with fail
      go_wp2_with fail
      go_loopw [12, 76] (fun hv iv wr => ∃ (i : Nat) (acc : List (List UInt8)) (wh : Nat) (va : Value), i ≤ k ∧ iv = .int .i64 (i : Int) ∧ hv = .int .i64 (wh : Int) ∧ OrI d mb rb seg W nums (.slice pv k cv) RC i acc wh va wr) (fun _ iv _ => k - (intOf iv).toNat)
      case atStart => exact ⟨0, [], 0, _, Nat.zero_le _, rfl, rfl, HR0.out⟩
      case round =>
        obtain ⟨i, acc, wh, va, hi, rfl, rfl, hI⟩ := hrel
        have HI := Lib.hid hI
        have HALL : Hid (Below w.heap.size w wr) := HB1.out.trans ((HBW.out.trans hI.bel).mono hbl.2.2)
        have hlr := hI.l.lt
        have c2 := hI.l.c2
        have c3 := hI.l.c3
        obtain ⟨hbd1, hbd2⟩ := hI.bd
        clear hI
        by_cases hlt : i < k
        · have hli : (i : Int) < (k : Int) := by omega
          have hl0 : (0 : Int) ≤ (i : Int) := by omega
          obtain ⟨n, hn⟩ : ∃ n, nums[i]? = some n := ⟨nums[i]'(by rw [HK.out]; exact hlt), List.getElem?_eq_getElem _⟩
          have hrn := HI.out.rn
          rw [HK.out] at hrn
          obtain ⟨gn, rfl, hgb, hgl, hkc⟩ := own_some hrn (by omega)
          have a0 := num_cell hrn hn
          have hnb := HNBD.out nums HNUM.out n (List.mem_of_getElem? hn)
          have hdr : nums.drop i = n :: nums.drop (i + 1) := by
            have hl := (List.getElem?_eq_some_iff.1 hn)
            obtain ⟨hl1, hl2⟩ := hl
            rw [← hl2]
            exact List.drop_eq_getElem_cons hl1
          have hres := HI.out.res
          rw [hdr] at hres
          unfold rrecN at hres
          have HDR : Hid (RAt wr rb rg d) := HD.out.below HALL.out
          have HNM := Lib.hid (fun W => rname_any n (by omega) W)
          have HRD := Lib.hid (show ∀ wx, RAt wx rb rg d → Calls Tryz.prog 54 #[.pointer (some ⟨rb, 0, none⟩), .string (nameN n)] wx fun e w' => e = .returned (.tuple #[.string (d.read (nameN n)).1, .int .i64 (d.read (nameN n)).2]) ∧ Below wx.heap.size wx w' from fun wx h => ref_read h HOK.out _)
          have hSz := read_size' HOK.out (nameN n)
          obtain ⟨S, hS⟩ : ∃ S, (d.read (nameN n)).1 = S := ⟨_, rfl⟩
          obtain ⟨E0, hE0⟩ : ∃ E0, (d.read (nameN n)).2 = E0 := ⟨_, rfl⟩
          rw [hS] at hres hSz
          rw [hS, hE0] at HRD
          obtain ⟨NMS, hNMS⟩ : ∃ NMS, nameN n = NMS := ⟨_, rfl⟩
          rw [hNMS] at HNM HRD
          have HSC := Lib.hid (fun W => rscan_any S W (by omega))
          have hfew := scan_few' S.data.toList
          obtain ⟨L, hL⟩ : ∃ L, (scanF S.data.toList).1 = L := ⟨_, rfl⟩
          obtain ⟨T, hT⟩ : ∃ T, (scanF S.data.toList).2 = T := ⟨_, rfl⟩
          simp only [hL, hT] at hres HSC hfew
          obtain ⟨SZ, hSZ⟩ : ∃ SZ, S.size = SZ := ⟨_, rfl⟩
          have hsl : S.data.toList.length = SZ := by rw [← hSZ]; simp
          rw [hSZ] at hres hSz
          rw [hsl] at hfew
          obtain ⟨K, hK⟩ : ∃ K, L.length = K := ⟨_, rfl⟩
          have HKK := Lib.hid hK
          rw [hK] at hres hfew
          obtain ⟨A, hAA⟩ : ∃ A, acc.length = A := ⟨_, rfl⟩
          have HAA := Lib.hid hAA
          have HRA := Lib.hid HI.out.ra
          rw [hAA] at HRA hbd1
          obtain ⟨pa, ca, hva⟩ := owns_sl2 HRA.out
          subst hva
          have HRES := Lib.hid hres
          have HHN := Lib.hid hn
          have hA64 : A ≤ 268435456 := by have : i * 4194304 ≤ 64 * 4194304 := Nat.mul_le_mul_right _ (by omega); omega
          have hmul : (i + 1) * 4194304 = i * 4194304 + 4194304 := by rw [Nat.add_mul]
          clear hres hrn hdr hS hE0 hNMS hL hT hsl hK hAA hn
          go_upto_region 23 with (first
            | (go_at_call 55; refine (HNM.out _).mono ?_; rintro e w2 ⟨rfl, hb2⟩; have HB2 := Lib.hid hb2; have HD2 : Hid (RAt w2 rb rg d) := HDR.out.below hb2; clear hb2)
            | (go_at_call 54; (with_reducible refine (HRD.out _ HD2.out).mono ?_); rintro e w3 ⟨rfl, hb3⟩; have HB3 := Lib.hid (HB2.out.trans (hb3.mono HB2.out.size)); clear hb3)
            | (go_at_call 56; refine (HSC.out _).mono ?_; rintro e w4 ⟨vr, rfl, hsl⟩; have HTX := Lib.hid hsl.at; obtain ⟨pr, cr, hvr⟩ := owns_sl2 hsl.o; rw [HKK.out] at hvr; subst hvr; have HB4 := Lib.hid (HB3.out.trans (hsl.B.mono HB3.out.size)); have HL4 := Lib.hid (HI.out.l.below HB4.out hlr); have c34 := HL4.out.c3; have HRA4 := Lib.hid (HRA.out.kept (w' := w4) (row := none) ⟨HB4.out.os, HB4.out.tape, HB4.out.output, HB4.out.size, fun k hk _ => HB4.out.block k hk⟩ (by cases hv : (Value.slice pa A ca).ownBlock <;> first | exact .inl rfl | exact .inr (by simp))); clear hsl)
            | (at_builtin; refine wpList_app_txts rfl _ _ rfl (mb + 1) _ A (recVals acc) rfl HRA4.out pr K cr L rfl HKK.out HTX.out (by unfold maxLen; omega) (by omega) (by have := HB4.out.size; omega) ?_; intro v5 w5 ho5 hg5 hat5; obtain ⟨p5, c5, hv5⟩ := owns_sl2 ho5; subst hv5; have HO5 := Lib.hid ho5; have HG5 := Lib.hid hg5; have HA5 := Lib.hid hat5; have HL5 := Lib.hid (HL4.out.of_block (hg5.block mb HL4.out.lt (fun e => by have := (HRA.out.lt mb e.symm).1; omega))); have c35 := HL5.out.c3; have f35 := HL5.out.f 3; clear ho5 hg5 hat5; go_frame)
            | fail)
          have hz4 := HB4.out.size
          have hng := HI.out.ne gn rfl
          have hgn5 : w5.heap[gn]? = wr.heap[gn]? := (HG5.out.block gn (by omega) (fun e => hng e.symm)).trans (HB4.out.block gn hgl)
          have hgn6 : (w5.setCell ⟨mb, 3, none⟩ (.slice p5 (A + K) c5)).heap[gn]? = wr.heap[gn]? := (Below.heap_setCell _ _ _ _ (by show gn ≠ mb; omega)).trans hgn5
          have HC6 := Lib.hid (fun o => World.cell?_of_block (a := ⟨gn, o, none⟩) hgn6)
          have H6 : Hid (rrecN d (acc ++ L) T (nums.drop (i + 1)) = RC → OrI d mb rb seg W nums (.slice (some ⟨gn, 0, none⟩) k cv) RC (i + 1) (acc ++ L) T (.slice p5 (A + K) c5) (w5.setCell ⟨mb, 3, none⟩ (.slice p5 (A + K) c5))) := fun hr => by
            have hl : (acc ++ L).length = A + K := by rw [List.length_append, HAA.out, HKK.out]
            refine ⟨HL5.out.set3 _, row_block_kept HI.out.rn (fun g hg => ?_), ?_, fun x hx => ?_, ?_, hr, ?_⟩
            · have e : g = gn := (Option.some.inj hg).symm
              rw [e]; exact hgn6
            · rw [hl, show recVals (acc ++ L) = recVals acc ++ recVals L by simp [recVals]]
              exact row_block_kept HO5.out (fun g hg => Below.heap_setCell _ _ _ _ (by show g ≠ mb; have := (HO5.out.lt g hg).1; omega))
            · have e : x = gn := (Option.some.inj hx).symm
              rcases HA5.out with q | q
              · rw [q, e]; exact hng
              · rw [q, e]; intro e2; have := Option.some.inj e2; omega
            · exact (((HI.out.bel.trans (HB4.out.mono (Nat.le_of_lt hlr))).grown HG5.out (by have := HI.out.bel.size; omega) (fun j hj => by have := (HRA.out.lt j hj).1; omega)).setCell (p := ⟨mb, 3, none⟩) (Nat.le_refl _) _)
            · rw [hl]; omega
          have c26 := (HL5.out.set3 (.slice p5 (A + K) c5)).c2
          have HALL6 : Hid (Below w.heap.size w (w5.setCell ⟨mb, 3, none⟩ (.slice p5 (A + K) c5))) := HB1.out.trans ((HBW.out.trans (((HI.out.bel.trans (HB4.out.mono (Nat.le_of_lt hlr))).grown HG5.out (by have := HI.out.bel.size; omega) (fun j hj => by have := (HRA.out.lt j hj).1; omega)).setCell (p := ⟨mb, 3, none⟩) (Nat.le_refl _) _)).mono hbl.2.2)
          have a1 := fun (n2 : Nat) (h : nums[i + 1]? = some n2) => (HC6.out (i + 1)).trans (num_cell (by have := HI.out.rn; rwa [HK.out] at this) h)
          clear c35 f35 hgn5 hgn6
          generalize w5.setCell ⟨mb, 3, none⟩ (.slice p5 (A + K) c5) = w6 at *
          have HERR : Hid (RC.1 ≠ 0 → RR = (RC.1, d, ⟨seg, nums, RC.2.1, 0⟩)) := fun h => by
            have h1 := HRR.out
            rw [HNUM.out] at h1
            cases nums with
            | nil => have := HK.out; simp at this; omega
            | cons a t =>
              simp only at h1
              rw [HRC.out, if_neg h] at h1
              exact h1.symm
          have q5 : IntKind.i64.wrap ((n : Int) + (K : Int)) = (n : Int) + (K : Int) := by rw [IntKind.wrap_i64]; omega
          have q6 : IntKind.i64.wrap ((n : Int) + (K : Int) - 1) = (n : Int) + (K : Int) - 1 := by rw [IntKind.wrap_i64]; omega
          have q7 : IntKind.i64.wrap ((k : Int) - 1) = (k : Int) - 1 := by rw [IntKind.wrap_i64]; omega
          have q8 : IntKind.i64.wrap ((i : Int) + 1) = (i : Int) + 1 := by rw [IntKind.wrap_i64]; omega
          by_cases hlast : i + 1 = k
          · have hd0 : nums.drop (i + 1) = [] := List.drop_eq_nil_of_le (by rw [HK.out]; omega)
            have hl1 : ((i : Int) == (k : Int) - 1) = true := by simp; omega
            by_cases hbig : 999999999999 + 1 < n + K
            · have HR9 : Hid (RR = (150, d, ⟨seg, nums, RC.2.1, 0⟩)) := by
                have h1 := HRES.out
                rw [hd0, if_pos (.inr ⟨rfl, hbig⟩)] at h1
                have h2 := HERR.out (by rw [← h1]; show (150 : Int) ≠ 0; decide)
                rw [← h1] at h2
                show _ = _
                rw [h2, ← h1]
              have hbi : (999999999999 : Int) < (n : Int) + (K : Int) - 1 := by omega
              clear hd0 a1 hmul hA64 hSz hfew hbd1 hbd2 hng
              go_wp2_with fail
              go_ret2
              rw [HR9.out]
              exact ⟨rg, .inl rfl, Kp.of_below HALL6.out, .inr ⟨show (150 : Int) ≠ 0 by decide, rfl, HD.out.below HALL6.out⟩⟩
            · have HR9 : Hid (rrecN d (acc ++ L) T (nums.drop (i + 1)) = RC) := by
                have h1 := HRES.out
                rw [if_neg (by rw [hd0]; rintro (h | h); exact h.1 rfl; exact hbig h.2)] at h1
                exact h1
              have hbi : ¬ (999999999999 : Int) < (n : Int) + (K : Int) - 1 := by omega
              clear hd0 a1 hmul hA64 hSz hfew hbd1 hbd2 hng
              go_wp2_with fail
              go_roundw
              case rel => exact ⟨i + 1, acc ++ L, T, _, by omega, by go_num, rfl, H6.out HR9.out⟩
              case measure => simp [intOf]; omega
          · have hl1 : ((i : Int) == (k : Int) - 1) = false := by simp; omega
            have hi1 : i + 1 < nums.length := by rw [HK.out]; omega
            obtain ⟨m, hm⟩ : ∃ m, nums[i + 1]? = some m := ⟨_, List.getElem?_eq_getElem hi1⟩
            have a1' := a1 m hm
            have hdm : nums.drop (i + 1) ≠ [] ∧ (nums.drop (i + 1)).headD 0 = m := by
              obtain ⟨hq1, hq2⟩ := List.getElem?_eq_some_iff.1 hm
              rw [List.drop_eq_getElem_cons hi1, hq2]
              exact ⟨List.cons_ne_nil _ _, rfl⟩
            have hi2 : ((i : Int) + 1) < (k : Int) := by omega
            have hi3 : (0 : Int) ≤ (i : Int) + 1 := by omega
            have e1 : ((i : Int) + 1).toNat = i + 1 := by omega
            by_cases hok2 : T = SZ ∧ m = n + K
            · have HR9 : Hid (rrecN d (acc ++ L) T (nums.drop (i + 1)) = RC) := by
                have h1 := HRES.out
                rw [if_neg (by rintro (h | h); exact h.2.elim (fun q => q hok2.1) (fun q => q (hdm.2.trans hok2.2)); exact hdm.1 h.1)] at h1
                exact h1
              obtain ⟨ht1, ht2⟩ := hok2
              have hb1 : ((T : Int) != (SZ : Int)) = false := by simp; omega
              have hb2 : ((m : Int) != (n : Int) + (K : Int)) = false := by simp; omega
              clear hdm a1 hmul hA64 hSz hfew hbd1 hbd2 hng hm hi1 ht1 ht2
              go_wp2_with fail
              go_roundw
              case rel => exact ⟨i + 1, acc ++ L, T, _, by omega, by go_num, rfl, H6.out HR9.out⟩
              case measure => simp [intOf]; omega
            · have HR9 : Hid (RR = (150, d, ⟨seg, nums, RC.2.1, 0⟩)) := by
                have h1 := HRES.out
                rw [if_pos (.inl ⟨hdm.1, by
                  by_cases q : T = SZ
                  · right; intro q2; exact hok2 ⟨q, hdm.2.symm.trans q2⟩
                  · left; exact q⟩)] at h1
                have h2 := HERR.out (by rw [← h1]; show (150 : Int) ≠ 0; decide)
                rw [← h1] at h2
                show _ = _
                rw [h2, ← h1]
              by_cases hts : T = SZ
              · have hb1 : ((T : Int) != (SZ : Int)) = false := by simp; omega
                have hb2 : ((m : Int) != (n : Int) + (K : Int)) = true := by
                  have : ¬ m = n + K := fun q => hok2 ⟨hts, q⟩
                  simp; omega
                clear hdm a1 hmul hA64 hSz hfew hbd1 hbd2 hng hm hi1 hts hok2
                go_wp2_with fail
                go_ret2
                rw [HR9.out]
                exact ⟨rg, .inl rfl, Kp.of_below HALL6.out, .inr ⟨show (150 : Int) ≠ 0 by decide, rfl, HD.out.below HALL6.out⟩⟩
              · have hb1 : ((T : Int) != (SZ : Int)) = true := by simp; omega
                clear hdm a1 hmul hA64 hSz hfew hbd1 hbd2 hng hm hi1 hts hok2
                go_wp2_with fail
                go_ret2
                rw [HR9.out]
                exact ⟨rg, .inl rfl, Kp.of_below HALL6.out, .inr ⟨show (150 : Int) ≠ 0 by decide, rfl, HD.out.below HALL6.out⟩⟩
        · have hiN : i = k := by omega
          have hli : ¬ (i : Int) < (k : Int) := by omega
          have hRC : (0, acc, wh) = RC := by
            have := HI.out.res
            rw [List.drop_eq_nil_of_le (by rw [HK.out]; omega)] at this
            exact this
          obtain ⟨A, hAA⟩ : ∃ A, acc.length = A := ⟨_, rfl⟩
          have HAA := Lib.hid hAA
          have HDR : Hid (RAt wr rb rg d) := HD.out.below HALL.out
          have hA64 : A ≤ 268435456 := by have : i * 4194304 ≤ 64 * 4194304 := Nat.mul_le_mul_right _ (by omega); omega
          have hRCs : RC = (0, acc, wh) := hRC.symm
          have HRCE := Lib.hid hRCs
          have hzw := HALL.out.size
          clear hRC hRCs hAA
          go_upto_region 28 with fail
          by_cases hk0 : k = 0
          · subst hk0
            have hnil : nums = [] := List.length_eq_zero_iff.1 HK.out
            have hac : acc = [] := by
              have h1 := HRC.out
              rw [hnil, HRCE.out] at h1
              have h2 : rrecN d [] 0 [] = (0, [], 0) := rfl
              rw [h2] at h1
              exact (congrArg (fun q => q.2.1) h1).symm
            have HNM := Lib.hid (fun W => rname_any 1 (by decide) W)
            have hnm : (nameN 1).size ≤ maxLen := by rw [nameN_size]; unfold maxLen; decide
            have HP := Lib.hid (show ∀ wx, RAt wx rb rg d → Calls Tryz.prog 29 #[.pointer (some ⟨rb, 0, none⟩), .string (nameN 1)] wx fun e w' => e = .returned (.int .i64 (d.create (nameN 1)).1) ∧ ROut wx w' rb rg (d.create (nameN 1)).2 from fun wx h => ref_create h HOK.out (by have := HST.out; omega) _ hnm)
            have hRX : RR = ((d.create (nameN 1)).1, (d.create (nameN 1)).2, ⟨seg, [1], [], 0⟩) := by
              have h1 := HRR.out
              rw [HNUM.out, hnil] at h1
              exact h1.symm
            obtain ⟨S, hS⟩ : ∃ S, nameN 1 = S := ⟨_, rfl⟩
            rw [hS] at HNM HP hRX
            obtain ⟨D2, hD2⟩ : ∃ D2, (d.create S).2 = D2 := ⟨_, rfl⟩
            obtain ⟨E2, hE2⟩ : ∃ E2, (d.create S).1 = E2 := ⟨_, rfl⟩
            rw [hD2, hE2] at HP hRX
            have HRX := Lib.hid hRX
            have f2 := HI.out.l.f 2
            have hAW := HI.out.ra
            rw [hac] at hAW
            obtain ⟨ga, haw, hga⟩ := AllW.of_own hAW
            have hgb : ga < wr.heap.size ∧ mb ≤ ga := by
              cases hv : va.ownBlock with
              | none => rw [hv] at hga; rw [hga]; exact ⟨hlr, Nat.le_refl _⟩
              | some x => rw [hv] at hga; have := hAW.lt x hv; rw [hga]; simp; omega
            have hz0' : (wr.setCell ⟨mb, 2, none⟩ (.slice (some ⟨wr.heap.size, 0, none⟩) 1 1)).heap.size = wr.heap.size := by simp
            have hL1 := (HI.out.l.set2 (.slice (some ⟨wr.heap.size, 0, none⟩) 1 1)).of_block (heap_alloc_old _ (.cells #[.int .i64 1] 3) (by rw [hz0']; exact hlr))
            have hz1' : ((wr.setCell ⟨mb, 2, none⟩ (.slice (some ⟨wr.heap.size, 0, none⟩) 1 1)).alloc (.cells #[.int .i64 1] 3)).heap.size = wr.heap.size + 1 := by simp
            have hblk : ∀ x, x < wr.heap.size → x ≠ mb → ((wr.setCell ⟨mb, 2, none⟩ (.slice (some ⟨wr.heap.size, 0, none⟩) 1 1)).alloc (.cells #[.int .i64 1] 3)).heap[x]? = wr.heap[x]? := fun x hx hne => (heap_alloc_old _ _ (by rw [hz0']; exact hx)).trans (Below.heap_setCell _ _ _ _ (by show x ≠ mb; exact hne))
            have hnew : ((wr.setCell ⟨mb, 2, none⟩ (.slice (some ⟨wr.heap.size, 0, none⟩) 1 1)).alloc (.cells #[.int .i64 1] 3)).heap[wr.heap.size]? = some (.cells #[.int .i64 1] 3 (0, 0)) := by have := heap_alloc_new (wr.setCell ⟨mb, 2, none⟩ (.slice (some ⟨wr.heap.size, 0, none⟩) 1 1)) (.cells #[.int .i64 1] 3); rwa [hz0'] at this
            have HRS : Hid (RgS ((wr.setCell ⟨mb, 2, none⟩ (.slice (some ⟨wr.heap.size, 0, none⟩) 1 1)).alloc (.cells #[.int .i64 1] 3)) B mb rb rg wr.heap.size ga ⟨seg, [1], [], 0⟩ d) := by
              refine ⟨hL1.rg ⟨⟨_, hnew⟩, fun i n hi => ?_, fun i hi => ?_, Nat.le_refl 1, by unfold maxLen; decide⟩ (haw.of_block fun q => hblk ga hgb.1 q) (by omega) (by omega), HDR.out.of (hblk rb (by omega) (fun q => hbl.1 q.symm)) (hblk rg (by omega) (fun q => hbl.2.1 q.symm)), (by omega), b1⟩
              · match i, hi with
                | 0, hi => cases hi; unfold World.cell?; rw [hnew]; rfl
              · obtain rfl : i = 0 := by omega
                exact ⟨by unfold World.cell?; rw [hnew]; rfl, by unfold World.frozen?; rw [hnew]; simp⟩
            have HK2 : Hid (Kp rb rg w ((wr.setCell ⟨mb, 2, none⟩ (.slice (some ⟨wr.heap.size, 0, none⟩) 1 1)).alloc (.cells #[.int .i64 1] 3))) := ((Kp.of_below HALL.out).setNew hbl.2.2 _ _).alloc _
            clear hAW haw hL1 hblk hnew hRX hS hD2 hE2 hnm hga hac hnil
            by_cases hE : E2 = 0
            · subst hE
              go_wp2_with (first
                | (go_at_call 55; refine (HNM.out _).mono ?_; rintro e w2 ⟨rfl, hb2⟩; have HS2 := Lib.hid (HRS.out.below hb2); have HK3 := Lib.hid (HK2.out.step hb2); clear hb2)
                | (go_at_call 29; (with_reducible refine (HP.out _ HS2.out.D).mono ?_); rintro e w3 ⟨rfl, ho3⟩; have HO3 := Lib.hid (And.intro (HS2.out.rout ho3) ho3.2); clear ho3)
                | fail)
              go_ret2
              rw [HRX.out]
              obtain ⟨⟨rg3, h3, h4, _⟩, h5⟩ := HO3.out
              exact ⟨rg3, h4.imp id (fun h => h.imp id (fun h => Nat.le_trans HK3.out.size h)), HK3.out.trans h5, .inl ⟨rfl, mb, _, ga, rfl, h3, hbl.2.2, hzw, by omega⟩⟩
            · have hEb : (E2 != 0) = true := by simpa using hE
              go_wp2_with (first
                | (go_at_call 55; refine (HNM.out _).mono ?_; rintro e w2 ⟨rfl, hb2⟩; have HS2 := Lib.hid (HRS.out.below hb2); have HK3 := Lib.hid (HK2.out.step hb2); clear hb2)
                | (go_at_call 29; (with_reducible refine (HP.out _ HS2.out.D).mono ?_); rintro e w3 ⟨rfl, ho3⟩; have HO3 := Lib.hid (And.intro (HS2.out.rout ho3) ho3.2); clear ho3)
                | fail)
              go_ret2
              rw [HRX.out]
              obtain ⟨⟨rg3, h3, h4, _⟩, h5⟩ := HO3.out
              exact ⟨rg3, h4.imp id (fun h => h.imp id (fun h => Nat.le_trans HK3.out.size h)), HK3.out.trans h5, .inr ⟨hE, rfl, h3.D⟩⟩
          · have hnz : nums ≠ [] := fun e => hk0 (by rw [← HK.out, e]; rfl)
            have hrn := HI.out.rn
            obtain ⟨g, cap, hv, hnm, hg⟩ := owns_num hrn hnz
            obtain ⟨ga, haw, hga⟩ := AllW.of_own HI.out.ra
            have hgl := hnm.lt
            have hgb : ga < wr.heap.size ∧ mb ≤ ga ∧ g ≠ ga := by
              cases hvo : va.ownBlock with
              | none => rw [hvo] at hga; rw [hga]; exact ⟨hlr, Nat.le_refl _, by simp; omega⟩
              | some x =>
                rw [hvo] at hga
                have h3 := HI.out.ra.lt x hvo
                have h4 := HI.out.ne g (by rw [hv]; rfl)
                rw [hga]
                refine ⟨h3.2, by simp; omega, fun e => h4 ?_⟩
                rw [hvo, e]; rfl
            have hLr := HI.out.l
            rw [hv] at hLr
            have HRS : Hid (RgS wr B mb rb rg g ga ⟨seg, nums, acc, 0⟩ d) := ⟨hLr.rg hnm haw (by omega) (by omega), HDR.out, by omega, b1⟩
            have hmend : RR = rmendW d ⟨seg, nums, acc, 0⟩ wh ∧ (⟨seg, nums, acc, 0⟩ : Rg).next ≤ 1000000000000 := by
              have h1 := HRR.out
              rw [HNUM.out] at h1
              have h5 := HNUM.out
              have h6 := HRC.out
              rw [HRCE.out] at h6
              cases hq : nums with
              | nil => exact absurd hq hnz
              | cons a t =>
                rw [hq] at h1 h5 h6
                simp only at h1
                rw [h6, if_pos rfl] at h1
                exact ⟨h1.symm, rec_next HOK.out HO.out h5 h6⟩
            have HRO : Hid ((⟨seg, nums, acc, 0⟩ : Rg).Ok) := ⟨hnz, HNBD.out nums HNUM.out, hmend.2, Nat.zero_le _, ⟨h1, h2⟩, by show acc.length ≤ _; rw [HAA.out]; omega⟩
            have hmd := hmend.1
            unfold rmendW at hmd
            have HLA := Lib.hid (fun wx (h : RgW wx B mb rb g ga (⟨seg, nums, acc, 0⟩ : Rg)) => rlast_any h HRO.out)
            have HNX := Lib.hid (fun wx (h : RgW wx B mb rb g ga (⟨seg, nums, acc, 0⟩ : Rg)) => rnext_any h HRO.out)
            have HRD := Lib.hid (show ∀ wx, RAt wx rb rg d → Calls Tryz.prog 54 #[.pointer (some ⟨rb, 0, none⟩), .string (nameN (⟨seg, nums, acc, 0⟩ : Rg).lastN)] wx fun e w' => e = .returned (.tuple #[.string (d.read (nameN (⟨seg, nums, acc, 0⟩ : Rg).lastN)).1, .int .i64 (d.read (nameN (⟨seg, nums, acc, 0⟩ : Rg).lastN)).2]) ∧ Below wx.heap.size wx w' from fun wx h => ref_read h HOK.out _)
            have HCU := Lib.hid (show ∀ wx, RAt wx rb rg d → Calls Tryz.prog 58 #[.pointer (some ⟨rb, 0, none⟩), .string (nameN (⟨seg, nums, acc, 0⟩ : Rg).lastN), .int .i64 (wh : Int)] wx fun e w' => e = .returned (.int .i64 (d.cut (nameN (⟨seg, nums, acc, 0⟩ : Rg).lastN) (wh : Int)).1) ∧ ROut wx w' rb rg (d.cut (nameN (⟨seg, nums, acc, 0⟩ : Rg).lastN) (wh : Int)).2 from fun wx h => ref_cut h HOK.out (by have := HST.out; omega) _ _ (by omega))
            have hok1 := HOK.out.cut (nameN (⟨seg, nums, acc, 0⟩ : Rg).lastN) (wh : Int)
            have hst1 := cut_steps d (nameN (⟨seg, nums, acc, 0⟩ : Rg).lastN) (wh : Int)
            have hrs : ∀ d3, rsyncW d3 ⟨seg, nums, acc, 0⟩ = if (d3.sync (nameN (⟨seg, nums, acc, 0⟩ : Rg).lastN)).1 = 0 then (0, (d3.sync (nameN (⟨seg, nums, acc, 0⟩ : Rg).lastN)).2, { (⟨seg, nums, acc, 0⟩ : Rg) with last := (⟨seg, nums, acc, 0⟩ : Rg).next - 1 }) else ((d3.sync (nameN (⟨seg, nums, acc, 0⟩ : Rg).lastN)).1, (d3.sync (nameN (⟨seg, nums, acc, 0⟩ : Rg).lastN)).2, ⟨seg, nums, acc, 0⟩) := fun d3 => rfl
            obtain ⟨LN, hLN⟩ : ∃ LN, nameN (⟨seg, nums, acc, 0⟩ : Rg).lastN = LN := ⟨_, rfl⟩
            rw [hLN] at HLA HRD HCU hmd hok1 hst1
            simp only [hLN] at hrs
            obtain ⟨r0, hr0⟩ : ∃ r0 : Rg, (⟨seg, nums, acc, 0⟩ : Rg) = r0 := ⟨_, rfl⟩
            have HR0E := Lib.hid hr0
            rw [hr0] at HRS HRO HLA HNX hmd hrs
            obtain ⟨S, hS⟩ : ∃ S, (d.read LN).1 = S := ⟨_, rfl⟩
            obtain ⟨E0, hE0⟩ : ∃ E0, (d.read LN).2 = E0 := ⟨_, rfl⟩
            rw [hS, hE0] at HRD
            rw [hS] at hmd
            obtain ⟨D1, hD1⟩ : ∃ D1, (d.cut LN (wh : Int)).2 = D1 := ⟨_, rfl⟩
            obtain ⟨E1, hE1⟩ : ∃ E1, (d.cut LN (wh : Int)).1 = E1 := ⟨_, rfl⟩
            rw [hD1, hE1] at HCU hmd
            rw [hD1] at hok1 hst1
            have HMD := Lib.hid hmd
            have HOK1 := Lib.hid hok1
            have HST1 := Lib.hid (show D1.steps < 4611686018427387904 by have := HST.out; omega)
            have HRSY := Lib.hid hrs
            have hn1 : 1 ≤ r0.next := by have := HRO.out.head; unfold Rg.next; omega
            have hn2 := HRO.out.next
            have hww : IntKind.i64.wrap ((r0.next : Int) - 1) = ((r0.next - 1 : Nat) : Int) := by rw [IntKind.wrap_i64]; omega
            obtain ⟨N1', hN1'⟩ : ∃ q, r0.next - 1 = q := ⟨_, rfl⟩
            rw [hN1'] at hww
            have HN1' := Lib.hid hN1'
            have hkb : ((k : Int) == 0) = false := by simp; omega
            have hgw : w.heap.size ≤ g ∧ w.heap.size ≤ ga := by omega
            clear hrn hv hnm hg haw hga hgl hgb hLr hmend hmd hok1 hst1 hrs hLN hr0 hS hE0 hD1 hE1 hn1 hn2 hN1' hnz hA64
            go_upto_region 36 with (first
              | (go_at_call 57; (with_reducible refine (HLA.out _ HRS.out.L).mono ?_); rintro e w2 ⟨rfl, hb2⟩; have HS2 := Lib.hid (HRS.out.below hb2); have HB2 := Lib.hid (HALL.out.trans (hb2.mono hzw)); clear hb2)
              | (go_at_call 54; (with_reducible refine (HRD.out _ HS2.out.D).mono ?_); rintro e w3 ⟨rfl, hb3⟩; have HS3 := Lib.hid (HS2.out.below hb3); have HB3 := Lib.hid (HB2.out.trans (hb3.mono HB2.out.size)); clear hb3)
              | fail)
            go_upto_if 174 with fail
            go_cut [24] from 26 (fun _ wc => ∃ d3 rg3, RR = rsyncW d3 r0 ∧ RgS wc B mb rb rg3 g ga r0 d3 ∧ Kp rb rg w wc ∧ (rg3 = rg ∨ rg3 = rb ∨ w.heap.size ≤ rg3) ∧ d3.Ok ∧ d3.steps < 4611686018427387904)
            case first =>
              by_cases hcut : wh < S.size
              · have hci : (wh : Int) < (S.size : Int) := by omega
                have hR2 := HMD.out
                rw [if_pos hcut] at hR2
                by_cases hE1 : E1 = 0
                · subst hE1
                  rw [if_pos rfl] at hR2
                  have HR2 := Lib.hid hR2
                  clear hR2
                  go_wp2_with (first
                    | (go_at_call 58; (with_reducible refine (HCU.out _ HS3.out.D).mono ?_); rintro e w4 ⟨rfl, ho4⟩; have HO4 := Lib.hid (And.intro (HS3.out.rout ho4) ho4.2); clear ho4)
                    | fail)
                  go_meet
                  case rel =>
                    obtain ⟨⟨rg3, h3, h4, _⟩, h5⟩ := HO4.out
                    exact ⟨D1, rg3, HR2.out, h3, (Kp.of_below HB3.out).trans h5, h4.imp id (fun h => h.imp id (fun h => Nat.le_trans HB3.out.size h)), HOK1.out, HST1.out⟩
                · have hEb : (E1 != 0) = true := by simpa using hE1
                  rw [if_neg hE1] at hR2
                  have HR2 := Lib.hid hR2
                  clear hR2
                  go_wp2_with (first
                    | (go_at_call 58; (with_reducible refine (HCU.out _ HS3.out.D).mono ?_); rintro e w4 ⟨rfl, ho4⟩; have HO4 := Lib.hid (And.intro (HS3.out.rout ho4) ho4.2); clear ho4)
                    | fail)
                  go_ret2
                  rw [HR2.out]
                  obtain ⟨⟨rg3, h3, h4, _⟩, h5⟩ := HO4.out
                  exact ⟨rg3, h4.imp id (fun h => h.imp id (fun h => Nat.le_trans HB3.out.size h)), (Kp.of_below HB3.out).trans h5, .inr ⟨hE1, rfl, h3.D⟩⟩
              · have hci : ¬ (wh : Int) < (S.size : Int) := by omega
                have hR2 := HMD.out
                rw [if_neg hcut] at hR2
                have HR2 := Lib.hid hR2
                clear hR2
                go_wp2_with fail
                go_meet
                case rel => exact ⟨d, rg, HR2.out, HS3.out, Kp.of_below HB3.out, .inl rfl, HOK.out, by have := HST.out; omega⟩
            case rest =>
              obtain ⟨d3, rg3, hR3, hS3, hK3, hq3, hok3, hst3⟩ := hcut
              have HS5 := Lib.hid hS3
              have HK5 := Lib.hid hK3
              have HQ5 := Lib.hid hq3
              have HP := Lib.hid (show ∀ wx, RAt wx rb rg3 d3 → Calls Tryz.prog 59 #[.pointer (some ⟨rb, 0, none⟩), .string LN] wx fun e w' => e = .returned (.int .i64 (d3.sync LN).1) ∧ ROut wx w' rb rg3 (d3.sync LN).2 from fun wx h => ref_sync h hok3 hst3 _)
              rw [HRSY.out d3] at hR3
              obtain ⟨D4, hD4⟩ : ∃ D4, (d3.sync LN).2 = D4 := ⟨_, rfl⟩
              obtain ⟨E4, hE4⟩ : ∃ E4, (d3.sync LN).1 = E4 := ⟨_, rfl⟩
              rw [hD4, hE4] at HP hR3
              rw [HN1'.out] at hR3
              clear hS3 hK3 hq3 hok3 hst3 hD4 hE4
              by_cases hE4 : E4 = 0
              · subst hE4
                rw [if_pos rfl] at hR3
                subst hR3
                go_wp2_with (first
                  | (go_at_call 59; (with_reducible refine (HP.out _ HS5.out.D).mono ?_); rintro e w6 ⟨rfl, ho6⟩; obtain ⟨rg6, hs6, hq6, _⟩ := HS5.out.rout ho6; have HS6 := Lib.hid hs6; have HX6 := Lib.hid (And.intro hq6 ho6.2); clear ho6 hs6 hq6)
                  | (go_at_call 40; (with_reducible refine (HNX.out _ HS6.out.L).mono ?_); rintro e w7 ⟨rfl, hb7⟩; have HS7 := Lib.hid (HS6.out.below hb7); have HB7 := Lib.hid hb7; have c74 := HS7.out.L.c4; have f74 := HS7.out.L.f4; clear hb7)
                  | fail)
                go_ret2
                refine ⟨rg6, ?_, ((HK5.out.mono2 HX6.out.2 HQ5.out).step HB7.out).setNew hbl.2.2 _ _, .inl ⟨rfl, mb, g, ga, rfl, by have h9 := HS7.out.setlast N1'; rw [← HR0E.out] at h9; exact h9, hbl.2.2, hgw.1, hgw.2⟩⟩
                have hz := HK5.out.size
                rcases HX6.out.1 with rfl | rfl | q
                · exact HQ5.out
                · exact .inr (.inl rfl)
                · exact .inr (.inr (by omega))
              · have hEb : (E4 != 0) = true := by simpa using hE4
                rw [if_neg hE4] at hR3
                subst hR3
                go_wp2_with (first
                  | (go_at_call 59; (with_reducible refine (HP.out _ HS5.out.D).mono ?_); rintro e w6 ⟨rfl, ho6⟩; obtain ⟨rg6, hs6, hq6, _⟩ := HS5.out.rout ho6; have HS6 := Lib.hid hs6; have HX6 := Lib.hid (And.intro hq6 ho6.2); clear ho6 hs6 hq6)
                  | fail)
                go_ret2
                refine ⟨rg6, ?_, HK5.out.mono2 HX6.out.2 HQ5.out, .inr ⟨hE4, rfl, HS6.out.D⟩⟩
                have hz := HK5.out.size
                rcases HX6.out.1 with rfl | rfl | q
                · exact HQ5.out
                · exact .inr (.inl rfl)
                · exact .inr (.inr (by omega))
theorem ropen_any {w : World} {B rb rg : Nat} {d : Dk} (h : RAt w rb rg d) (hok : d.Ok) (hs : d.steps + 3 < 4611686018427387904) (seg : Nat) (h1 : 1 ≤ seg) (h2 : seg ≤ 65536) (hb : B ≤ rb ∧ B ≤ w.heap.size) :
    Calls Tryz.prog 23 #[.pointer (some ⟨rb, 0, none⟩), .int .i64 (seg : Int)] w (ROpenPost w B rb rg (ropenW d seg)) := by
  cases ho : d.off with
  | true => exact ropen_off h ho seg h1 h2
  | false => exact ropen_on h hok hs ho seg h1 h2 hb
end Go.Proofs.YtnpgjlhnlakgpaaGreatDoor

/- To copy the first bytes of a text into a slice of the call's own. The contracts of at and stays: what a crash leaves of a file's bytes. The contract of stays where a byte is turned. -/
import Derived.Test.YtnpgjlhnlakgpaaGreatDoorG04
import Derived.Laws.CopyOwn
import Derived.Laws.IdiomStrings
import Derived.Lib.LazyBuf
namespace Go.Proofs.YtnpgjlhnlakgpaaGreatDoor
open Go.RowKit Go.Maps

/-- Bytes as cells. -/
def u8sV (l : List UInt8) : List Value := l.map fun x => Value.int .u8 (x.toNat : Int)
section
variable {P : Program}
theorem run_copy_str (w : World) (dT sT ty elem : TypeId) (g n cap : Nat) (t : ByteArray) (cur : Array Value) (T : TypeId)
    (hu : P.underlying dT = some (.slice elem)) (hs : (P.info? elem).map (·.size) = some 1)
    (hg : w.heap[g]? = some (.cells cur T (0, 0))) (hn : cur.size = n) (hle : n ≤ t.size) :
    (Builtin.copy_ #[dT, sT] ty #[.slice (some ⟨g, 0, none⟩) n cap, .string t]).run P w = .ok (goInt n) (w.setRow g (u8sV (t.data.toList.take n)).toArray) := by
  have hlen : (u8sV (t.data.toList.take n)).length = n := by simp [u8sV]; exact Nat.min_eq_left hle
  have hst := run_storeCells_at P g 0 T (u8sV (t.data.toList.take n)) 0 cur w hg (by rw [hlen]; omega) (fun v hv => by
    obtain ⟨x, _, rfl⟩ := List.mem_map.1 hv
    rfl)
  have hmin : Nat.min t.size n = n := Nat.min_eq_right hle
  have htk : (t.data.toList.map fun x => Value.int .u8 (x.toNat : Int)).take n = u8sV (t.data.toList.take n) := by simp [u8sV, List.map_take]
  have hrow : (cur.toList.take (0 + 0) ++ u8sV (t.data.toList.take n) ++ cur.toList.drop (0 + 0 + (u8sV (t.data.toList.take n)).length)).toArray = (u8sV (t.data.toList.take n)).toArray := by
    rw [hlen]
    have : cur.toList.drop (0 + 0 + n) = [] := by rw [List.drop_eq_nil_iff]; simp; omega
    rw [this]; simp
  rw [hrow] at hst
  cases hq : P.info? elem with
  | none => simp [hq] at hs
  | some i =>
    simp [Builtin.copy_, run_underlying hu, Builtin.lenOf, Builtin.firstCells, sizeOf, typeInfo, hq, hmin, htk, hst]
theorem wpList_copy_str {w : World} {ops : Array Oper} {rest : List Oper} {o : Oper} {a : Act} {Q : Exit → Act → World → Prop} (hgd : o.guard = none) (d s : Operand) (dT sT : TypeId)
    (ho : o.op = .call { callee := .builtin .copy, args := #[d, s], argTypes := #[dT, sT] }) (elem : TypeId) (hu : P.underlying dT = some (.slice elem)) (hsz : (P.info? elem).map (·.size) = some 1)
    (g n cap : Nat) (hd : a.eval d = .slice (some ⟨g, 0, none⟩) n cap) (t : ByteArray) (hs : a.eval s = .string t)
    (cur : Array Value) (T : TypeId) (hg : w.heap[g]? = some (.cells cur T (0, 0))) (hn : cur.size = n) (hle : n ≤ t.size)
    (h : ∀ w', Hid (w'.heap[g]? = some (.cells (u8sV (t.data.toList.take n)).toArray T (0, 0))) → Below g w w' → Hid (w'.heap.size = w.heap.size) → Hid (∀ k, k ≠ g → w'.heap[k]? = w.heap[k]?) → wpList P ops Q rest (a.put o.dst (.int .i64 (n : Int))) w') :
    wpList P ops Q (o :: rest) a w := by
  refine wpList_plain hgd fun K' hK' => ?_
  have hrun := run_copy_str (P := P) w dT sT o.type elem g n cap t cur T hu hsz hg hn hle
  unfold Oper.wp
  simp [execOp, ho, resolve, invoke, builtin, hd, hs, hrun, Result.andThen]
  exact hK' _ _ (h _ (show _ = _ from setRow_heap w g _ _ T _ hg) (below_setRow (Below.refl _ _) (Nat.le_refl _) _) (show _ = _ by simp [World.setRow]) (show ∀ k, k ≠ g → _ from fun k hk => setRow_other w g k _ (fun e => hk (by first | exact e | exact e.symm))))
end
end Go.Proofs.YtnpgjlhnlakgpaaGreatDoor
namespace Go.Proofs.YtnpgjlhnlakgpaaGreatDoor
open Go.RowKit Go.Maps

/-- A slice of numbers, none of whose blocks is b or m. -/
def IntsAt (b m : Nat) (w : World) (v : Value) (xs : List Int) : Prop :=
  ∃ p c, v = .slice p xs.length c ∧ xs.length ≤ 9223372036854775807 ∧ (xs = [] ∨ ∃ g o, p = some ⟨g, o, none⟩ ∧ g ≠ b ∧ g ≠ m ∧ ∀ j, j < xs.length → w.cell? ⟨g, o + j, none⟩ = some (.int .i64 (xs.getD j 0)))
theorem IntsAt.kept {b m : Nat} {w w' : World} {v : Value} {xs : List Int} (h : IntsAt b m w v xs) (hk : Kp b m w w') : IntsAt b m w' v xs := by
  obtain ⟨p, c, rfl, hl, h⟩ := h
  refine ⟨p, c, rfl, hl, ?_⟩
  rcases h with h | ⟨g, o, rfl, h1, h2, hc⟩
  · exact .inl h
  · exact .inr ⟨g, o, rfl, h1, h2, fun j hj => by rw [hk.cell (j := g) (World.block_lt_of_cell? _ _ (hc j hj)) h1 h2]; exact hc j hj⟩
theorem IntsAt.slice {b m : Nat} {w : World} {v : Value} {xs : List Int} (h : IntsAt b m w v xs) : ∃ p n c, v = .slice p n c := by
  obtain ⟨p, c, rfl, _⟩ := h; exact ⟨_, _, _, rfl⟩

set_option maxHeartbeats 1000000 in
theorem at_any {b m : Nat} {w : World} {v : Value} {xs : List Int} (h : IntsAt b m w v xs) (k : Nat) :
    Calls Tryz.prog 61 #[v, .int .i64 (k : Int)] w fun e w' => e = .returned (.int .i64 (atL xs k)) ∧ w = w' := by
  obtain ⟨p, c, rfl, hl, h⟩ := h
  by_cases hlt : k < xs.length
  · have hne : xs ≠ [] := fun e => by rw [e] at hlt; simp at hlt
    obtain ⟨g, o, rfl, -, -, hc⟩ := h.resolve_left hne
    have hcell := hc k hlt
    have E := Lib.hid (show atL xs k = xs.getD k 0 from rfl)
    generalize xs.getD k 0 = x at *
    generalize xs.length = n at *
    clear hc hne
    rw [E.out]
    go_enter Tryz.func61, Tryz.ntmps61
    go_wp2_with fail
    go_ret
    exact ⟨rfl, rfl⟩
  · have E := Lib.hid (show atL xs k = 0 by unfold atL; rw [List.getD_eq_getElem?_getD, List.getElem?_eq_none (by omega)]; rfl)
    generalize xs.length = n at *
    clear h
    rw [E.out]
    go_enter Tryz.func61, Tryz.ntmps61
    go_wp2_with fail
    go_ret
    exact ⟨rfl, rfl⟩

theorem u8infoV : (Tryz.prog.info? 5).map (fun i => (i.zero, i.size, i.bytes)) = some (some (.int .u8 0), 1, 1) := by kernel_rfl
theorem u8size : (Tryz.prog.info? 5).map (·.size) = some 1 := by kernel_rfl
/-- How many of a file's other bytes stay. -/
def keptN (sz sf : Nat) (keep : Int) : Nat := if 0 < keep then (keep % ((sz - sf + 1 : Nat) : Int)).toNat else 0
theorem keptN_le (sz sf : Nat) (keep : Int) : keptN sz sf keep ≤ sz - sf := by
  unfold keptN
  split
  · have h1 := Int.emod_lt_of_pos keep (b := ((sz - sf + 1 : Nat) : Int)) (by omega)
    omega
  · omega
theorem keptN_pos {sz sf : Nat} {keep : Int} (h : 0 < keep) (hs : sf ≤ sz) : keep % ((sz : Int) - (sf : Int) + 1) = (keptN sz sf keep : Int) := by
  unfold keptN
  rw [if_pos h]
  have e : ((sz - sf + 1 : Nat) : Int) = (sz : Int) - (sf : Int) + 1 := by omega
  rw [e, Int.toNat_of_nonneg (Int.emod_nonneg _ (by omega))]

set_option maxRecDepth 100000 in
set_option maxHeartbeats 2000000 in
theorem stays_cut (nm fb : ByteArray) (fs : Nat) (keep turn : Int) (w : World) (hs : fs ≤ fb.size) (hb : fb.size ≤ 4194304) (hk : keep ≤ 9223372036854775807) (ht : turn ≤ 0 ∨ keptN fb.size fs keep = 0) :
    Calls Tryz.prog 60 #[.agg #[.string nm, .string fb, .int .i64 (fs : Int)], .int .i64 keep, .int .i64 turn] w fun e w' => e = .returned (.string (fb.extract 0 (fs + keptN fb.size fs keep))) ∧ Below w.heap.size w w' := by
  have hle := keptN_le fb.size fs keep
  by_cases h0 : 0 < keep
  · have hm := keptN_pos h0 hs
    have hn0 : ¬ keep ≤ 0 := by omega
    generalize keptN fb.size fs keep = M at *
    by_cases ht1 : turn ≤ 0
    · clear ht
      go_enter Tryz.func60, Tryz.ntmps60
      go_wp2_with fail
      go_ret
      exact ⟨rfl, (Below.refl _ _).alloc (Nat.le_refl _) _⟩
    · obtain rfl : M = 0 := ht.resolve_left ht1
      have ht2 : 0 < turn := by omega
      clear ht ht1
      go_enter Tryz.func60, Tryz.ntmps60
      go_wp2_with fail
      go_ret
      exact ⟨rfl, (Below.refl _ _).alloc (Nat.le_refl _) _⟩
  · have hz : keptN fb.size fs keep = 0 := by unfold keptN; rw [if_neg h0]
    have h1 : keep ≤ 0 := by omega
    rw [hz]
    clear ht hz hle h0
    by_cases ht1 : turn ≤ 0
    · go_enter Tryz.func60, Tryz.ntmps60
      go_wp2_with fail
      go_ret
      exact ⟨rfl, (Below.refl _ _).alloc (Nat.le_refl _) _⟩
    · have ht2 : 0 < turn := by omega
      clear ht1
      go_enter Tryz.func60, Tryz.ntmps60
      go_wp2_with fail
      go_ret
      exact ⟨rfl, (Below.refl _ _).alloc (Nat.le_refl _) _⟩
end Go.Proofs.YtnpgjlhnlakgpaaGreatDoor
namespace Go.Proofs.YtnpgjlhnlakgpaaGreatDoor
open Go.RowKit Go.Maps

theorem row_block {w : World} {B n g : Nat} {e : TypeId} {xs : List Value} (h : w.ownsRow B e 1 (.slice (some ⟨g, 0, none⟩) n n) n xs) : ∃ cur : Array Value, w.heap[g]? = some (.cells cur e (0, 0)) ∧ cur.size = n := by
  rcases h.2 with ⟨h, _⟩ | ⟨g', cap, cur, hv, _, hcb, _, _, h3, _⟩
  · cases h
  · cases hv
    exact ⟨cur, hcb, by simpa using h3⟩
theorem u8_cell {w : World} {g : Nat} {T : TypeId} {l : List UInt8} (hh : w.heap[g]? = some (.cells (u8sV l).toArray T (0, 0))) {j : Nat} (hj : j < l.length) : w.cell? ⟨g, j, none⟩ = some (.int .u8 ((l.getD j 0).toNat : Int)) ∧ w.frozen? ⟨g, j, none⟩ = false := by
  refine ⟨?_, by simp [World.frozen?, hh]⟩
  simp [World.cell?, hh, u8sV, List.getD_eq_getElem?_getD, hj]

theorem xor_u8 (c : UInt8) (y : Int) (h0 : 0 ≤ y) (h1 : y < 256) : bits BinOp.xor IntKind.u8 (c.toNat : Int) y = ((c ^^^ UInt8.ofNat y.toNat).toNat : Int) := by
  obtain ⟨n, rfl⟩ : ∃ n : Nat, y = n := ⟨y.toNat, by omega⟩
  have hn : n < 256 := by omega
  have hc : c.toNat < 256 := c.toNat_lt
  have e1 : (BitVec.ofInt 8 (c.toNat : Int)).toNat = c.toNat := by rw [BitVec.toNat_ofInt]; omega
  have e2 : (BitVec.ofInt 8 (n : Int)).toNat = n := by rw [BitVec.toNat_ofInt]; omega
  have e3 : (UInt8.ofNat n).toNat = n := by rw [UInt8.toNat_ofNat']; omega
  have e4 : (c ^^^ UInt8.ofNat n).toNat = c.toNat ^^^ n := by rw [UInt8.toNat_xor, e3]
  have e5 : c.toNat ^^^ n < 256 := Nat.xor_lt_two_pow (n := 8) hc hn
  show IntKind.u8.wrap (((BitVec.ofInt 8 (c.toNat : Int)) ^^^ (BitVec.ofInt 8 (n : Int))).toNat : Int) = _
  rw [BitVec.toNat_xor, e1, e2, Int.toNat_natCast, e4]
  simp [IntKind.wrap, IntKind.bits, IntKind.signed]
  omega
set_option maxRecDepth 100000 in
set_option maxHeartbeats 4000000 in
theorem stays_turn (nm fb : ByteArray) (fs : Nat) (keep turn : Int) (w : World) (hs : fs ≤ fb.size) (hb : fb.size ≤ 4194304) (hk : keep ≤ 9223372036854775807) (ht : 0 < turn) (ht2 : turn ≤ 9223372036854775807) (hM : 0 < keptN fb.size fs keep) :
    Calls Tryz.prog 60 #[.agg #[.string nm, .string fb, .int .i64 (fs : Int)], .int .i64 keep, .int .i64 turn] w fun e w' =>
      e = .returned (.string ⟨((fb.data.toList.take (fs + keptN fb.size fs keep)).modify (fs + ((turn / 256) % (keptN fb.size fs keep : Int)).toNat) fun c => c ^^^ UInt8.ofNat (turn % 256).toNat).toArray⟩) ∧ Below w.heap.size w w' := by
  obtain ⟨i0, hi, hz0, hz1, hz2⟩ := info_parts u8infoV
  have hle := keptN_le fb.size fs keep
  have h0 : 0 < keep := by
    by_cases h : 0 < keep
    · exact h
    · unfold keptN at hM; rw [if_neg h] at hM; omega
  have hm := keptN_pos h0 hs
  generalize keptN fb.size fs keep = M at *
  have hd0 : 0 ≤ turn / 256 := by omega
  have hX0 : 0 ≤ turn / 256 % (M : Int) := Int.emod_nonneg _ (by omega)
  have hX1 : turn / 256 % (M : Int) < M := Int.emod_lt_of_pos _ (by omega)
  obtain ⟨X, hX⟩ : ∃ X : Nat, turn / 256 % (M : Int) = (X : Int) := ⟨_, (Int.toNat_of_nonneg hX0).symm⟩
  rw [hX] at hX1
  rw [hX]
  have hXt : (turn.tdiv 256).tmod (M : Int) = (X : Int) := by
    rw [Int.tdiv_eq_ediv_of_nonneg (by omega), Int.tmod_eq_emod_of_nonneg (by omega)]; exact hX
  clear hX0 hd0
  have HX := Lib.hid hX
  have HXT := Lib.hid hXt
  have hMi : (0 : Int) < (M : Int) := by omega
  have hMb : ((M : Int) == 0) = false := by simp; omega
  clear hX hXt
  have hzs : (w.alloc (.cells #[.string nm, .string fb, .int .i64 (fs : Int)] 75)).heap.size = w.heap.size + 1 := by simp
  have HZS := Lib.hid hzs
  clear hzs
  go_enter Tryz.func60, Tryz.ntmps60
  go_wp2_with (first
    | (at_make; refine wpList_make_full _ rfl _ _ 98 rfl (w.heap.size + 1) 5 i0 (.int .u8 0) 1 Tryz.underlying98 hi hz0 hz1 _ _ _ _ (fs + M) rfl rfl (Int.natCast_add fs M).symm (Int.natCast_add fs M).symm (by rw [hz2]; omega) (by unfold maxLen; omega) (by simp) ?_; intro w1 hrow1 hg1; rw [HZS.out] at hrow1 ⊢; obtain ⟨cur, hcb, hcs⟩ := row_block hrow1; have HCB := Lib.hid (And.intro hcb hcs); have HX1 := Lib.hid ((Fx.new w (.string nm) (.string fb) (.int .i64 (fs : Int)) 75).of_block (hg1.block w.heap.size (by simp) (by simp))); have HG1 := Lib.hid hg1; have x1 := HX1.out.c1; clear hrow1 hg1 hcb hcs)
    | ((with_reducible refine wpList_copy_str rfl _ _ 98 9 rfl 5 Tryz.underlying98 u8size (w.heap.size + 1) (fs + M) (fs + M) rfl fb rfl cur 5 HCB.out.1 HCB.out.2 (by omega) ?_); intro w2 hh2 hb2 hs2 ho2; have HX2 := Lib.hid (HX1.out.of_block (ho2.out w.heap.size (by omega))); have HB2 := Lib.hid hb2; clear hb2; go_frame)
    | fail)
  have x2 := HX2.out.c2
  have hlen : (fb.data.toList.take (fs + M)).length = fs + M := by
    have h3 : fb.data.toList.length = fb.size := by simp
    rw [List.length_take]
    omega
  obtain ⟨hc, hf⟩ := u8_cell hh2.out (j := fs + X) (by omega)
  have HLEN := Lib.hid hlen
  clear hlen
  generalize hl : fb.data.toList.take (fs + M) = l at *
  generalize hcv : l.getD (fs + X) 0 = c at *
  have hM0 : ¬ M = 0 := by omega
  have hw1 := IntWalk.i64_in (turn.tdiv 256) (by rw [Int.tdiv_eq_ediv_of_nonneg (by omega)]; omega)
  have r1 : (IntKind.i64.wrap (turn.tdiv 256)).tmod (M : Int) = (X : Int) := by rw [hw1]; exact HXT.out
  have r2 := IntWalk.i64_in ((fs : Int) + (X : Int)) (by omega)
  have r3 : ((fs : Int) + (X : Int)).toNat = fs + X := by omega
  have r4 : (0 : Int) ≤ (fs : Int) + (X : Int) := by omega
  have r5 : (fs : Int) + (X : Int) < ((fs + M : Nat) : Int) := by omega
  clear hw1
  go_still_tail 14, (by kernel_rfl)
  change wpList _ _ _ _ _ w2.drew
  have hc2 : w2.drew.cell? ⟨w.heap.size + 1, fs + X, none⟩ = some (.int .u8 (c.toNat : Int)) := hc
  have hf2 : w2.drew.frozen? ⟨w.heap.size + 1, fs + X, none⟩ = false := hf
  have hh3 : Hid (w2.drew.heap[w.heap.size + 1]? = some (.cells (u8sV l).toArray 5 (0, 0))) := hh2
  have HB3 := Lib.hid (((((Below.refl w.heap.size w).alloc (Nat.le_refl _) (.cells #[.string nm, .string fb, .int .i64 (fs : Int)] 75)).grown HG1.out (by simp) (fun j hj => by cases hj)).trans (HB2.out.mono (Nat.le_succ _))).drew)
  have hconv : (convert 98 9 (.slice (some ⟨w.heap.size + 1, 0, none⟩) (fs + M) (fs + M))).run Tryz.prog (w2.drew.setCell ⟨w.heap.size + 1, fs + X, none⟩ (.int .u8 (bits BinOp.xor IntKind.u8 (c.toNat : Int) (turn % 256)))) =
      .ok (.string ⟨(l.modify (fs + X) fun c => c ^^^ UInt8.ofNat (turn % 256).toNat).toArray⟩) (w2.drew.setCell ⟨w.heap.size + 1, fs + X, none⟩ (.int .u8 (bits BinOp.xor IntKind.u8 (c.toNat : Int) (turn % 256)))) := by
    have hl2 : (l.modify (fs + X) fun c => c ^^^ UInt8.ofNat (turn % 256).toNat).length = fs + M := by rw [List.length_modify]; exact HLEN.out
    have := run_convert_bytes_back (P := Tryz.prog) (w2.drew.setCell ⟨w.heap.size + 1, fs + X, none⟩ (.int .u8 (bits BinOp.xor IntKind.u8 (c.toNat : Int) (turn % 256)))) 98 9 5 ⟨w.heap.size + 1, 0, none⟩ (fs + M) (l.modify (fs + X) fun c => c ^^^ UInt8.ofNat (turn % 256).toNat) Tryz.underlying98 Tryz.underlying5 Tryz.underlying9 (fun j hj => ?_)
    · rw [hl2] at this; exact this
    · rw [hl2] at hj
      have hj2 : j < l.length := by rw [HLEN.out]; exact hj
      have hadd : (⟨w.heap.size + 1, 0, none⟩ : Addr).add j = ⟨w.heap.size + 1, j, none⟩ := by unfold Addr.add; split <;> simp_all
      rw [hadd]
      by_cases hjx : j = fs + X
      · subst hjx
        rw [World.cell?_setCell_same _ _ _ hc2, xor_u8 c (turn % 256) (by omega) (by omega)]
        rw [List.getElem_modify, if_pos rfl]
        have : l[fs + X] = c := by rw [← hcv]; simp [List.getD_eq_getElem?_getD, hj2]
        rw [this]
      · have hne : (⟨w.heap.size + 1, fs + X, none⟩ : Addr) ≠ ⟨w.heap.size + 1, j, none⟩ := fun e => hjx (Addr.mk.inj e).2.1.symm
        rw [World.cell?_setCell_other (h := hne), (u8_cell hh3.out hj2).1, List.getElem_modify, if_neg (fun e => hjx e.symm)]
        simp [List.getD_eq_getElem?_getD, hj2]
  generalize w2.drew = w3 at *
  clear hc hf x2 r1 r2 r3 r4 r5
  have HCV := Lib.hid hcv
  clear hcv
  go_wp2_with fail
  go_ret
  refine ⟨?_, HB3.out.setCell (p := ⟨w.heap.size + 1, fs + X, none⟩) (Nat.le_succ _) _⟩
  simp
  rw [hl]
end Go.Proofs.YtnpgjlhnlakgpaaGreatDoor

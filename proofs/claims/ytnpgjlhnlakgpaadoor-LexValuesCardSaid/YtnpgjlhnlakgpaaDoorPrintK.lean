/- Rows of bytes of a literal. -/
import Derived.Test.YtnpgjlhnlakgpaaDoorPrintF
import Derived.Test.YtnpgjlhnlakgpaaDoorRefRight
import Derived.Test.YtnpgjlhnlakgpaaDoorBig0
import Derived.Test.YtnpgjlhnlakgpaaDoorU8
import Derived.StillTailTactics
import Derived.Lib.SlBytesConst
import Derived.ArgAppend
import Derived.Laws.BitsAllLaws
import Derived.Deep.RegionLawGrows
import Derived.Deep.RegionHeld3
namespace Go.Proofs.YtnpgjlhnlakgpaaDoor
open Go.RowKit


/-- A row of bytes that can be appended to: the call's own, or a literal that is full. -/
def BRow (w : World) (base : Nat) (v : Value) (l : List UInt8) : Prop :=
  w.ownsRow base 5 1 v l.length (u8s l) ∨ ∃ g, v = .slice (some ⟨g, 0, none⟩) l.length l.length ∧ base ≤ g ∧ ∀ j u, (u8s l)[j]? = some u → w.cell? ⟨g, j, none⟩ = some u
theorem BRow.slice {w : World} {base : Nat} {v : Value} {l : List UInt8} (h : BRow w base v l) : ∃ p n c, v = .slice p n c := by
  rcases h with h | ⟨g, rfl, _⟩
  · exact owns_slice h
  · exact ⟨_, _, _, rfl⟩
theorem BRow.alloc {w : World} {base : Nat} {v : Value} {l : List UInt8} (h : BRow w base v l) (x : Obj) : BRow (w.alloc x) base v l := by
  rcases h with h | ⟨g, rfl, hg, hc⟩
  · exact .inl (h.alloc _)
  · exact .inr ⟨g, rfl, hg, fun j u hu => Lib.cell?_alloc_marked _ (hc j u hu)⟩
theorem BRow.drew {w : World} {base : Nat} {v : Value} {l : List UInt8} (h : BRow w base v l) : BRow w.drew base v l := h
theorem append_brow {ops : Array Oper} {rest : List Oper} {o : Oper} {a : Act} {Q : Exit → Act → World → Prop} {w : World} (hgd : o.guard = none) (s x : Operand)
    (ho : o.op = .call { callee := .builtin .append, args := #[s, x], argTypes := #[49, 49] }) (base : Nat) (v : Value) (l : List UInt8) (hs : a.eval s = v) (hb : BRow w base v l)
    (ad : Addr) (m c : Nat) (new : List UInt8) (hm : new.length = m) (hmp : 0 < m) (hx : a.eval x = .slice (some ad) m c) (hnews : ∀ j u, (u8s new)[j]? = some u → w.cell? (ad.add j) = some u)
    (h63 : l.length + m ≤ 100000) (hbase : base ≤ w.heap.size)
    (h : ∀ v' w', w'.ownsRow base 5 1 v' (l.length + m) (u8s (l ++ new)) → (∀ w0 B, Below B w0 w → B ≤ base → Below B w0 w') → wpList Tryd.prog ops Q rest (a.put o.dst v') w') : wpList Tryd.prog ops Q (o :: rest) a w := by
  obtain ⟨i0, hi, hz0, hz1, hz2⟩ := info_parts u8info
  have one : ∀ u ∈ u8s new, u.oneCell' = true := by
    intro u hu
    obtain ⟨b, -, rfl⟩ := List.mem_map.1 hu
    rfl
  rcases hb with hb | ⟨g, rfl, hg, hcells⟩
  · refine wpList_append_own w hgd s x 49 ho base 5 i0 (.int .u8 0) 1 1 Tryd.underlying49 hi hz0 hz1 hz2 rfl (by decide) v l.length (u8s l) hs hb ad m c (u8s new) hx (by simp [u8s, hm]) hnews one (by unfold maxLen; omega) (by omega) hbase fun v' w' h1 h2 _ => ?_
    rw [← u8s_append] at h1
    exact h v' w' h1 fun w0 B hB hBb => hB.grown h2 (by omega) (fun k hk => by have := (hb.lt k hk).1; omega)
  · refine wpList_append_grows w hgd s x 49 ho 5 i0 (.int .u8 0) 1 1 Tryd.underlying49 hi hz0 hz1 hz2 rfl (by decide) (some ⟨g, 0, none⟩) l.length l.length (u8s l) hs (fun h => by cases h) (by simp [u8s]) (fun b hb j u hu => by
        cases hb
        have := hcells j u hu
        rw [Lib.add_plain, Nat.zero_add]
        exact this) ad m c (u8s new) hx (by simp [u8s, hm]) hnews one (by omega) (by unfold maxLen; omega) (by omega) fun v' w' h1 h2 => ?_
    rw [← u8s_append] at h1
    exact h v' w' (owns_down h1 hbase) fun w0 B hB hBb => hB.grown h2 (by omega) (fun k hk => by cases hk)
theorem step_append_brow {ops : Array Oper} {o : Oper} {a : Act} {K : Act → World → Prop} {Q : Exit → Act → World → Prop} {E : Prop} {w : World} (hgd : o.guard = none) (s x : Operand)
    (ho : o.op = .call { callee := .builtin .append, args := #[s, x], argTypes := #[49, 49] }) (base : Nat) (v : Value) (l : List UInt8) (hs : a.eval s = v) (hb : BRow w base v l)
    (ad : Addr) (m c : Nat) (new : List UInt8) (hm : new.length = m) (hmp : 0 < m) (hx : a.eval x = .slice (some ad) m c) (hnews : ∀ j u, (u8s new)[j]? = some u → w.cell? (ad.add j) = some u)
    (h63 : l.length + m ≤ 100000) (hbase : base ≤ w.heap.size)
    (h : ∀ v' w', w'.ownsRow base 5 1 v' (l.length + m) (u8s (l ++ new)) → (∀ w0 B, Below B w0 w → B ≤ base → Below B w0 w') → K (a.put o.dst v') w') :
    if Region.wanted o (yielded ops a.tmps) = true then Oper.wp Tryd.prog o a w K Q else E := by
  obtain ⟨i0, hi, hz0, hz1, hz2⟩ := info_parts u8info
  have hw : Region.wanted o (yielded ops a.tmps) = true := by simp [Region.wanted, hgd]
  have one : ∀ u ∈ u8s new, u.oneCell' = true := by
    intro u hu
    obtain ⟨b, -, rfl⟩ := List.mem_map.1 hu
    rfl
  rcases hb with hb | ⟨g, rfl, hg, hcells⟩
  · rw [if_pos hw]
    refine wp_append_own w s x 49 ho base 5 i0 (.int .u8 0) 1 1 Tryd.underlying49 hi hz0 hz1 hz2 rfl (by decide) v l.length (u8s l) hs hb ad m c (u8s new) hx (by simp [u8s, hm]) hnews one (by unfold maxLen; omega) (by omega) hbase fun v' w' h1 h2 _ => ?_
    rw [← u8s_append] at h1
    exact h v' w' h1 fun w0 B hB hBb => hB.grown h2 (by omega) (fun k hk => by have := (hb.lt k hk).1; omega)
  · refine step_append_grows hgd s x 49 ho 5 i0 (.int .u8 0) 1 1 Tryd.underlying49 hi hz0 hz1 hz2 rfl (by decide) (some ⟨g, 0, none⟩) l.length l.length (u8s l) hs (fun h => by cases h) (by simp [u8s]) (fun b hb j u hu => by
        cases hb
        have := hcells j u hu
        rw [Lib.add_plain, Nat.zero_add]
        exact this) ad m c (u8s new) hx (by simp [u8s, hm]) hnews one (by omega) (by unfold maxLen; omega) (by omega) fun v' w' h1 h2 => ?_
    rw [← u8s_append] at h1
    exact h v' w' (owns_down h1 hbase) fun w0 B hB hBb => hB.grown h2 (by omega) (fun k hk => by cases hk)
theorem news2 (w : World) (y1 y2 : UInt8) (t : TypeId) (mk : Nat × Nat) : ∀ j u, (u8s [y1, y2])[j]? = some u → (w.alloc (.cells #[.int .u8 (y1.toNat : Int), .int .u8 (y2.toNat : Int)] t mk)).cell? ((⟨w.heap.size, 0, none⟩ : Addr).add j) = some u := by
  intro j u hu
  rw [Lib.add_plain, Nat.zero_add]
  have hh : (w.alloc (.cells #[.int .u8 (y1.toNat : Int), .int .u8 (y2.toNat : Int)] t mk)).heap[w.heap.size]? = some (.cells #[.int .u8 (y1.toNat : Int), .int .u8 (y2.toNat : Int)] t mk) := by
    show (w.heap.push _)[w.heap.size]? = _
    simp
  unfold World.cell?
  rw [hh]
  match j, hu with
  | 0, hu => simpa [u8s] using hu
  | 1, hu => simpa [u8s] using hu
abbrev hexS : ByteArray := ⟨#[48, 49, 50, 51, 52, 53, 54, 55, 56, 57, 97, 98, 99, 100, 101, 102]⟩
theorem hexS_at : ∀ n : Fin 16, hexS[n.val]'(n.isLt) = hexd n.val := by decide
theorem and15 (x : Nat) (h : x < 256) : bits BinOp.and IntKind.u8 (x : Int) 15 = ((x % 16 : Nat) : Int) := by
  have h1 := u8_and_nat x 15 h (by decide)
  rw [show ((15 : Nat) : Int) = 15 from rfl] at h1
  rw [h1, show (15 : Nat) = 2 ^ 4 - 1 from rfl, Nat.and_two_pow_sub_one_eq_mod]
theorem lit_row (w : World) : BRow (w.alloc (.cells #[.int .u8 120, .int .u8 39] 5 (2, 3))) w.heap.size (.slice (some ⟨w.heap.size, 0, none⟩) 2 2) [120, 39] := by
  refine .inr ⟨w.heap.size, rfl, Nat.le_refl _, fun j u hu => ?_⟩
  have hc : (w.alloc (.cells #[.int .u8 120, .int .u8 39] 5 (2, 3))).cell? ⟨w.heap.size, j, none⟩ = (#[Value.int .u8 120, .int .u8 39])[j]? := by
    have hh : (w.alloc (.cells #[.int .u8 120, .int .u8 39] 5 (2, 3))).heap[w.heap.size]? = some (.cells #[.int .u8 120, .int .u8 39] 5 (2, 3)) := by
      show (w.heap.push _)[w.heap.size]? = _
      simp
    unfold World.cell?
    rw [hh]
    rfl
  rw [hc]
  match j, hu with
  | 0, hu => simpa [u8s] using hu
  | 1, hu => simpa [u8s] using hu
theorem hexed_take (s : ByteArray) (k : Nat) (h : k < s.size) : hexed (s.data.toList.take (k + 1)) = hexed (s.data.toList.take k) ++ [hexd (s[k].toNat / 16), hexd (s[k].toNat % 16)] := by
  rw [List.take_succ_eq_append_getElem (by simpa using h), hexed_snoc]
  rfl
theorem hexed_len_take (s : ByteArray) (k : Nat) (h : k ≤ s.size) : ([120, 39] ++ hexed (s.data.toList.take k) : List UInt8).length = 2 + 2 * k := by
  have e : s.data.toList.length = s.size := rfl
  rw [List.length_append, hexed_len, List.length_take]
  simp
  omega


end Go.Proofs.YtnpgjlhnlakgpaaDoor

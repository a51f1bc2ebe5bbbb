/- What datum.Print writes of bytes. -/
import Derived.Test.YtidejjjedpdbeaaDoorPrintD
import Derived.Test.YtidejjjedpdbeaaDoorBig0
import Derived.StillTailTactics
import Derived.Lib.SlBytesConst
import Derived.ArgAppend
import Derived.Laws.BitsAllLaws
import Derived.Deep.RegionLawGrows
import Derived.Deep.RegionHeld3
namespace Go.Proofs.YtidejjjedpdbeaaDoor
open Go.RowKit

/-- Bytes as the cells of a row. -/
def u8s (l : List UInt8) : List Value := l.map fun b : UInt8 => Value.int .u8 (b.toNat : Int)
theorem u8info : (Tryd.prog.info? 5).map (fun i => (i.zero, i.size, i.bytes)) = some (some (.int .u8 0), 1, 1) := by kernel_rfl

/-- A row of bytes that can be appended to: the call's own, or a literal that is full. -/
def BRow (w : World) (base : Nat) (v : Value) (l : List UInt8) : Prop :=
  w.ownsRow base 5 1 v l.length (u8s l) ∨ ∃ g, v = .slice (some ⟨g, 0, none⟩) l.length l.length ∧ base ≤ g ∧ ∀ j u, (u8s l)[j]? = some u → w.cell? ⟨g, j, none⟩ = some u
theorem BRow.slice {w : World} {base : Nat} {v : Value} {l : List UInt8} (h : BRow w base v l) : ∃ p n c, v = .slice p n c := by
  rcases h with h | ⟨g, rfl, _⟩
  · exact owns_slice h
  · exact ⟨_, _, _, rfl⟩
theorem BRow.alloc {w : World} {base : Nat} {v : Value} {l : List UInt8} (h : BRow w base v l) (x : Obj) : BRow (w.alloc x) base v l := by
  rcases h with h | ⟨g, rfl, hg, hc⟩
  · exact .inl (h.alloc _)
  · exact .inr ⟨g, rfl, hg, fun j u hu => Lib.cell?_alloc_marked _ (hc j u hu)⟩
theorem BRow.drew {w : World} {base : Nat} {v : Value} {l : List UInt8} (h : BRow w base v l) : BRow w.drew base v l := h
theorem u8s_append (a b : List UInt8) : u8s (a ++ b) = u8s a ++ u8s b := by simp [u8s]
theorem append_brow {ops : Array Oper} {rest : List Oper} {o : Oper} {a : Act} {Q : Exit → Act → World → Prop} {w : World} (hgd : o.guard = none) (s x : Operand)
    (ho : o.op = .call { callee := .builtin .append, args := #[s, x], argTypes := #[61, 61] }) (base : Nat) (v : Value) (l : List UInt8) (hs : a.eval s = v) (hb : BRow w base v l)
    (ad : Addr) (m c : Nat) (new : List UInt8) (hm : new.length = m) (hmp : 0 < m) (hx : a.eval x = .slice (some ad) m c) (hnews : ∀ j u, (u8s new)[j]? = some u → w.cell? (ad.add j) = some u)
    (h63 : l.length + m ≤ 100000) (hbase : base ≤ w.heap.size)
    (h : ∀ v' w', w'.ownsRow base 5 1 v' (l.length + m) (u8s (l ++ new)) → (∀ w0 B, Below B w0 w → B ≤ base → Below B w0 w') → wpList Tryd.prog ops Q rest (a.put o.dst v') w') : wpList Tryd.prog ops Q (o :: rest) a w := by
  obtain ⟨i0, hi, hz0, hz1, hz2⟩ := info_parts u8info
  have one : ∀ u ∈ u8s new, u.oneCell' = true := by
    intro u hu
    obtain ⟨b, -, rfl⟩ := List.mem_map.1 hu
    rfl
  rcases hb with hb | ⟨g, rfl, hg, hcells⟩
  · refine wpList_append_own w hgd s x 61 ho base 5 i0 (.int .u8 0) 1 1 Tryd.underlying61 hi hz0 hz1 hz2 rfl (by decide) v l.length (u8s l) hs hb ad m c (u8s new) hx (by simp [u8s, hm]) hnews one (by unfold maxLen; omega) (by omega) hbase fun v' w' h1 h2 _ => ?_
    rw [← u8s_append] at h1
    exact h v' w' h1 fun w0 B hB hBb => hB.grown h2 (by omega) (fun k hk => by have := (hb.lt k hk).1; omega)
  · refine wpList_append_grows w hgd s x 61 ho 5 i0 (.int .u8 0) 1 1 Tryd.underlying61 hi hz0 hz1 hz2 rfl (by decide) (some ⟨g, 0, none⟩) l.length l.length (u8s l) hs (fun h => by cases h) (by simp [u8s]) (fun b hb j u hu => by
        cases hb
        have := hcells j u hu
        rw [Lib.add_plain, Nat.zero_add]
        exact this) ad m c (u8s new) hx (by simp [u8s, hm]) hnews one (by omega) (by unfold maxLen; omega) (by omega) fun v' w' h1 h2 => ?_
    rw [← u8s_append] at h1
    exact h v' w' (owns_down h1 hbase) fun w0 B hB hBb => hB.grown h2 (by omega) (fun k hk => by cases hk)
theorem step_append_brow {ops : Array Oper} {o : Oper} {a : Act} {K : Act → World → Prop} {Q : Exit → Act → World → Prop} {E : Prop} {w : World} (hgd : o.guard = none) (s x : Operand)
    (ho : o.op = .call { callee := .builtin .append, args := #[s, x], argTypes := #[61, 61] }) (base : Nat) (v : Value) (l : List UInt8) (hs : a.eval s = v) (hb : BRow w base v l)
    (ad : Addr) (m c : Nat) (new : List UInt8) (hm : new.length = m) (hmp : 0 < m) (hx : a.eval x = .slice (some ad) m c) (hnews : ∀ j u, (u8s new)[j]? = some u → w.cell? (ad.add j) = some u)
    (h63 : l.length + m ≤ 100000) (hbase : base ≤ w.heap.size)
    (h : ∀ v' w', w'.ownsRow base 5 1 v' (l.length + m) (u8s (l ++ new)) → (∀ w0 B, Below B w0 w → B ≤ base → Below B w0 w') → K (a.put o.dst v') w') :
    if Region.wanted o (yielded ops a.tmps) = true then Oper.wp Tryd.prog o a w K Q else E := by
  obtain ⟨i0, hi, hz0, hz1, hz2⟩ := info_parts u8info
  have hw : Region.wanted o (yielded ops a.tmps) = true := by simp [Region.wanted, hgd]
  have one : ∀ u ∈ u8s new, u.oneCell' = true := by
    intro u hu
    obtain ⟨b, -, rfl⟩ := List.mem_map.1 hu
    rfl
  rcases hb with hb | ⟨g, rfl, hg, hcells⟩
  · rw [if_pos hw]
    refine wp_append_own w s x 61 ho base 5 i0 (.int .u8 0) 1 1 Tryd.underlying61 hi hz0 hz1 hz2 rfl (by decide) v l.length (u8s l) hs hb ad m c (u8s new) hx (by simp [u8s, hm]) hnews one (by unfold maxLen; omega) (by omega) hbase fun v' w' h1 h2 _ => ?_
    rw [← u8s_append] at h1
    exact h v' w' h1 fun w0 B hB hBb => hB.grown h2 (by omega) (fun k hk => by have := (hb.lt k hk).1; omega)
  · refine step_append_grows hgd s x 61 ho 5 i0 (.int .u8 0) 1 1 Tryd.underlying61 hi hz0 hz1 hz2 rfl (by decide) (some ⟨g, 0, none⟩) l.length l.length (u8s l) hs (fun h => by cases h) (by simp [u8s]) (fun b hb j u hu => by
        cases hb
        have := hcells j u hu
        rw [Lib.add_plain, Nat.zero_add]
        exact this) ad m c (u8s new) hx (by simp [u8s, hm]) hnews one (by omega) (by unfold maxLen; omega) (by omega) fun v' w' h1 h2 => ?_
    rw [← u8s_append] at h1
    exact h v' w' (owns_down h1 hbase) fun w0 B hB hBb => hB.grown h2 (by omega) (fun k hk => by cases hk)
theorem news2 (w : World) (y1 y2 : UInt8) (t : TypeId) (mk : Nat × Nat) : ∀ j u, (u8s [y1, y2])[j]? = some u → (w.alloc (.cells #[.int .u8 (y1.toNat : Int), .int .u8 (y2.toNat : Int)] t mk)).cell? ((⟨w.heap.size, 0, none⟩ : Addr).add j) = some u := by
  intro j u hu
  rw [Lib.add_plain, Nat.zero_add]
  have hh : (w.alloc (.cells #[.int .u8 (y1.toNat : Int), .int .u8 (y2.toNat : Int)] t mk)).heap[w.heap.size]? = some (.cells #[.int .u8 (y1.toNat : Int), .int .u8 (y2.toNat : Int)] t mk) := by
    show (w.heap.push _)[w.heap.size]? = _
    simp
  unfold World.cell?
  rw [hh]
  match j, hu with
  | 0, hu => simpa [u8s] using hu
  | 1, hu => simpa [u8s] using hu
abbrev hexS : ByteArray := ⟨#[48, 49, 50, 51, 52, 53, 54, 55, 56, 57, 97, 98, 99, 100, 101, 102]⟩
theorem hexS_at : ∀ n : Fin 16, hexS[n.val]'(n.isLt) = hexd n.val := by decide
theorem and15 (x : Nat) (h : x < 256) : bits BinOp.and IntKind.u8 (x : Int) 15 = ((x % 16 : Nat) : Int) := by
  have h1 := u8_and_nat x 15 h (by decide)
  rw [show ((15 : Nat) : Int) = 15 from rfl] at h1
  rw [h1, show (15 : Nat) = 2 ^ 4 - 1 from rfl, Nat.and_two_pow_sub_one_eq_mod]
theorem lit_row (w : World) : BRow (w.alloc (.cells #[.int .u8 120, .int .u8 39] 5 (2, 3))) w.heap.size (.slice (some ⟨w.heap.size, 0, none⟩) 2 2) [120, 39] := by
  refine .inr ⟨w.heap.size, rfl, Nat.le_refl _, fun j u hu => ?_⟩
  have hc : (w.alloc (.cells #[.int .u8 120, .int .u8 39] 5 (2, 3))).cell? ⟨w.heap.size, j, none⟩ = (#[Value.int .u8 120, .int .u8 39])[j]? := by
    have hh : (w.alloc (.cells #[.int .u8 120, .int .u8 39] 5 (2, 3))).heap[w.heap.size]? = some (.cells #[.int .u8 120, .int .u8 39] 5 (2, 3)) := by
      show (w.heap.push _)[w.heap.size]? = _
      simp
    unfold World.cell?
    rw [hh]
    rfl
  rw [hc]
  match j, hu with
  | 0, hu => simpa [u8s] using hu
  | 1, hu => simpa [u8s] using hu
theorem hexed_take (s : ByteArray) (k : Nat) (h : k < s.size) : hexed (s.data.toList.take (k + 1)) = hexed (s.data.toList.take k) ++ [hexd (s[k].toNat / 16), hexd (s[k].toNat % 16)] := by
  rw [List.take_succ_eq_append_getElem (by simpa using h), hexed_snoc]
  rfl
theorem hexed_len_take (s : ByteArray) (k : Nat) (h : k ≤ s.size) : ([120, 39] ++ hexed (s.data.toList.take k) : List UInt8).length = 2 + 2 * k := by
  have e : s.data.toList.length = s.size := rfl
  rw [List.length_append, hexed_len, List.length_take]
  simp
  omega

theorem news1 (w : World) (y1 : UInt8) (t : TypeId) (mk : Nat × Nat) : ∀ j u, (u8s [y1])[j]? = some u → (w.alloc (.cells #[.int .u8 (y1.toNat : Int)] t mk)).cell? ((⟨w.heap.size, 0, none⟩ : Addr).add j) = some u := by
  intro j u hu
  rw [Lib.add_plain, Nat.zero_add]
  have hh : (w.alloc (.cells #[.int .u8 (y1.toNat : Int)] t mk)).heap[w.heap.size]? = some (.cells #[.int .u8 (y1.toNat : Int)] t mk) := by
    show (w.heap.push _)[w.heap.size]? = _
    simp
  unfold World.cell?
  rw [hh]
  match j, hu with
  | 0, hu => simpa [u8s] using hu
theorem conv_own {w : World} {base n : Nat} {v : Value} {L : List UInt8} (h : w.ownsRow base 5 1 v n (u8s L)) (hn : n = L.length) (hL : 0 < L.length) :
    ∃ g c, v = .slice (some ⟨g, 0, none⟩) L.length c ∧ (convert 61 9 (.slice (some ⟨g, 0, none⟩) L.length c)).run Tryd.prog w = .ok (.string (bs L)) w := by
  subst hn
  rcases id h.2 with ⟨rfl, h0⟩ | ⟨g, cap, cur, rfl, hg, hh, hnc, hm, hs, ht⟩
  · omega
  · refine ⟨g, cap, rfl, ?_⟩
    refine run_convert_bytes_back w 61 9 5 ⟨g, 0, none⟩ cap L Tryd.underlying61 Tryd.underlying5 Tryd.underlying9 fun j hj => ?_
    rw [Lib.add_plain, Nat.zero_add]
    unfold World.cell?
    rw [hh]
    show cur[j]? = _
    have h1 : cur.toList[j]? = (u8s L)[j]? := by
      rw [← ht, List.getElem?_take_of_lt (by omega)]
    rw [← Array.getElem?_toList, h1]
    simp [u8s, hj]

set_option maxRecDepth 100000 in
set_option maxHeartbeats 2000000 in
theorem print_bytes (d : Dt) (w : World) (hT : Tabs w) (hr : rightD d = true) (hk : d.k = 5) :
    Calls Tryd.prog 20 #[d.v] w fun e w' => e = .returned (.string (bs (printF d))) ∧ Below w.heap.size w w' := by
  have HR := Lib.hid hr
  have HE := Lib.hid (show printF d = _ from if_neg (by rw [hr]; decide))
  obtain ⟨k, i, s⟩ := d
  dsimp only at hk
  subst hk
  obtain ⟨hb, hz, X⟩ := boxes1 w #[.int .i64 5, .int .i64 i, .string s] 24
  have HB := Lib.hid hb
  have HT2 := Lib.hid (hT.below hb)
  have HX := Lib.hid X
  have hsz : s.size ≤ 1000 := by
    unfold rightD at hr
    rw [if_neg (show ¬ (5 : Int) = 4 by decide)] at hr
    simp [rightN] at hr
    exact hr.2
  clear hb hr hT X hz
  have HE2 : Hid (printF ⟨5, i, s⟩ = 120 :: 39 :: (hexed s.data.toList ++ [39])) := HE.out
  rw [HE2.out]
  clear HE HE2
  go_enter Tryd.func20, Tryd.ntmps20
  go_wp2_with fail
  refine (right_any _ _ _ _ HT2.out).mono ?_
  rintro e w2 ⟨rfl, hb2⟩
  have c0 : w2.cell? ⟨w.heap.size, 0, none⟩ = some (.int .i64 5) := by rw [hb2.cell (p := ⟨w.heap.size, 0, none⟩) (by simp), HX.out]; rfl
  have c2 : w2.cell? ⟨w.heap.size, 2, none⟩ = some (.string s) := by rw [hb2.cell (p := ⟨w.heap.size, 2, none⟩) (by simp), HX.out]; rfl
  have HB2 := Lib.hid (HB.out.trans (hb2.mono (by simp)))
  have hw2 : w.heap.size < w2.heap.size := World.block_lt_of_cell? _ _ c0
  have hcv := Lib.run_convert_bytes_const (P := Tryd.prog) w2 61 5 #[.int .u8 120, .int .u8 39] 2 2 Tryd.underlying61 Tryd.underlying5
  have hmk : (#[Value.int .u8 120, Value.int .u8 39].size, #[Value.int .u8 120, Value.int .u8 39].size + 1) = (2, 3) := rfl
  rw [hmk] at hcv
  clear hb2 hmk
  rw [HR.out]
  have HL := Lib.hid (lit_row w2)
  have HW := Lib.hid (HB2.out.alloc HB2.out.size (.cells #[.int .u8 120, .int .u8 39] 5 (2, 3)))
  have HC := Lib.hid (show (w2.alloc (.cells #[.int .u8 120, .int .u8 39] 5 (2, 3))).cell? ⟨w.heap.size, 2, none⟩ = some (.string s) from Lib.cell?_alloc_marked _ c2)
  have hz3 : w2.heap.size < (w2.alloc (.cells #[.int .u8 120, .int .u8 39] 5 (2, 3))).heap.size := by simp
  go_wp2_with fail
  generalize w2.alloc (.cells #[.int .u8 120, .int .u8 39] 5 (2, 3)) = W3 at *
  clear hcv
  go_loopw [5, 6, 57] (fun v _ i wr => ∃ k : Nat, k ≤ s.size ∧ i = .int .i64 (k : Int) ∧ BRow wr w2.heap.size v ([120, 39] ++ hexed (s.data.toList.take k)) ∧ wr.cell? ⟨w.heap.size, 2, none⟩ = some (.string s) ∧ Below w.heap.size w wr ∧ w2.heap.size < wr.heap.size) (fun _ _ i _ => s.size - (intOf i).toNat)
  case atStart => exact ⟨0, Nat.zero_le _, rfl, by simpa [hexed] using HL.out, HC.out, HW.out, hz3⟩
  case round =>
    obtain ⟨k, hk, rfl, hown, hc, hbl, hsw⟩ := hrel
    have HO := Lib.hid hown
    have HBl := Lib.hid hbl
    obtain ⟨p, ln, cp, rfl⟩ := hown.slice
    have HLen := Lib.hid (hexed_len_take s k hk)
    clear hown hbl c0 c2 HL HW HC hz3
    by_cases hlt : k < s.size
    · have hlti : (k : Int) < (s.size : Int) := by omega
      have hx : (s[k]'hlt).toNat < 256 := UInt8.toNat_lt _
      have x0 : (0 : Int) ≤ ((s[k]'hlt).toNat : Int) / 16 := by omega
      have x1 : ((s[k]'hlt).toNat : Int) / 16 < 16 := by omega
      have hand := and15 _ hx
      obtain ⟨z, hz⟩ : ∃ z, z = (s[k]'hlt).toNat % 16 := ⟨_, rfl⟩
      have hz16 : z < 16 := by omega
      have hz0 : (0 : Int) ≤ (z : Int) := by omega
      have hz1 : (z : Int) < 16 := by omega
      rw [← hz] at hand
      obtain ⟨y1, hy1⟩ : ∃ y1 : UInt8, hexS[(((s[k]'hlt).toNat : Int) / 16).toNat]'(by show _ < 16; omega) = y1 := ⟨_, rfl⟩
      obtain ⟨y2, hy2⟩ : ∃ y2 : UInt8, hexS[z]'(by show _ < 16; omega) = y2 := ⟨_, rfl⟩
      have HH : Hid (hexed (s.data.toList.take (k + 1)) = hexed (s.data.toList.take k) ++ [y1, y2]) := by
        show _ = _
        rw [hexed_take s k hlt, ← hy1, ← hy2, ← hz]
        have h1 := hexS_at ⟨(s[k]'hlt).toNat / 16, by omega⟩
        have h2 := hexS_at ⟨z, hz16⟩
        have e1 : (((s[k]'hlt).toNat : Int) / 16).toNat = (s[k]'hlt).toNat / 16 := by omega
        simp only [e1]
        rw [← h1, ← h2]
      clear hz hx
      go_wp2_with fail
      go_region_held3 (fun w' => w'.cell? ⟨w.heap.size, 2, none⟩ = some (.string s)) ((first | assumption | exact Lib.cell?_alloc_marked _ ‹_› | go_keep))
        (first
          | (refine step_append_brow rfl _ _ rfl w2.heap.size _ _ rfl (HO.out.alloc _).drew ⟨wr.heap.size, 0, none⟩ 2 2 [y1, y2] rfl (by decide) rfl (news2 wr y1 y2 _ _) (by rw [HLen.out]; omega) (by simp; omega) ?_; intro v' w' hown' hbel; obtain ⟨p', n', c', rfl⟩ := owns_slice hown'; have HB' := Lib.hid (hbel _ _ ((HBl.out.alloc (by omega) _).drew) (by omega)); have hb2' := hbel _ _ (Below.refl w2.heap.size _) (Nat.le_refl _); have hc' : w'.cell? ⟨w.heap.size, 2, none⟩ = some (.string s) := (hb2'.cell (p := ⟨w.heap.size, 2, none⟩) hw2).trans (by assumption); have hsz' := hb2'.size))
      all_goals
        go_wp2_with fail
        go_roundw
        case rel =>
          refine ⟨k + 1, by omega, by go_num, .inl ?_, hc', HB'.out, by simp at hsz'; omega⟩
          have e : ([120, 39] ++ hexed (s.data.toList.take (k + 1)) : List UInt8) = [120, 39] ++ hexed (s.data.toList.take k) ++ [y1, y2] := by rw [HH.out, List.append_assoc]
          rw [e, List.length_append]
          exact hown'
        case measure => simp [intOf]; omega
    · obtain rfl : k = s.size := by omega
      have HF : Hid ([120, 39] ++ hexed (s.data.toList.take s.size) ++ [39] = 120 :: 39 :: (hexed s.data.toList ++ [39])) := by
        show _ = _
        rw [List.take_of_length_le (show s.data.toList.length ≤ s.size from Nat.le_refl _)]
        rfl
      obtain ⟨L, hL⟩ : ∃ L : List UInt8, L = [120, 39] ++ hexed (s.data.toList.take s.size) := ⟨_, rfl⟩
      rw [← hL] at HO HLen HF
      clear hL
      go_wp2_with (at_builtin; refine append_brow rfl _ _ rfl w2.heap.size _ _ rfl (HO.out.alloc _) ⟨wr.heap.size, 0, none⟩ 1 1 [39] rfl (by decide) rfl (news1 wr 39 _ _) ?c2 ?c3 ?_)
      case c2 => rw [HLen.out]; omega
      case c3 => simp; omega
      intro v' w' hown' hbel
      have HB' := Lib.hid (hbel _ _ (HBl.out.alloc (by omega) _) (by omega))
      obtain ⟨g, c', rfl, hcv⟩ := conv_own hown' (by simp) (by simp)
      generalize (L ++ [39]).length = ll at *
      clear hown' hbel
      go_wp2_with fail
      go_ret
      exact ⟨ret_str (by rw [HF.out]), HB'.out⟩
end Go.Proofs.YtidejjjedpdbeaaDoor

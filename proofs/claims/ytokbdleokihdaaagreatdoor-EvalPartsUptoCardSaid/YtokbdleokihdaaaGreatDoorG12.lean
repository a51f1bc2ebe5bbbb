/- The document's big numbers: their digits; the contract of big. The document's Amounts: two rows of digits held against each other. The document's trimmed: no zero at the top. The document's Of: the digits of an amount, and the sign. The document's Minus: the negative. The document's Order of two big numbers. -/
import Derived.Test.YtokbdleokihdaaaGreatDoorG02
import Derived.Test.YtokbdleokihdaaaGreatDoorProg
import Derived.Test.YtokbdleokihdaaaGreatDoorG01
import Derived.WalkKit
namespace Go.Proofs.YtokbdleokihdaaaGreatDoor
open Go.RowKit

/-- The digits of a number, the lowest first, at most so many. -/
def digsF : Nat → Nat → List Nat
  | 0, _ => []
  | f + 1, n => if n = 0 then [] else n % 1000000 :: digsF f (n / 1000000)
theorem digsF_zero (f : Nat) : digsF f 0 = [] := by cases f <;> rfl
theorem digsF_len : ∀ f n, (digsF f n).length ≤ f
  | 0, _ => Nat.le_refl _
  | f + 1, n => by
    unfold digsF
    split
    · simp
    · simp; exact digsF_len f _
/-- Digits as the cells of a row. -/
def u64s (ds : List Nat) : List Value := ds.map fun d : Nat => Value.int .u64 (d : Int)
theorem u64info : (Tryz.prog.info? 51).map (fun i => (i.zero, i.size, i.bytes)) = some (some (.int .u64 0), 1, 8) := by kernel_rfl

theorem owns_down {w : World} {B B' : Nat} {e : TypeId} {k : Nat} {v : Value} {n : Nat} {xs : List Value} (h : w.ownsRow B e k v n xs) (hb : B' ≤ B) : w.ownsRow B' e k v n xs := by
  refine ⟨h.1, ?_⟩
  rcases h.2 with h | ⟨g, cap, cur, h1, h2, h3⟩
  · exact .inl h
  · exact .inr ⟨g, cap, cur, h1, Nat.le_trans hb h2, h3⟩
theorem owns_slice {w : World} {B : Nat} {e : TypeId} {k : Nat} {v : Value} {n : Nat} {xs : List Value} (h : w.ownsRow B e k v n xs) : ∃ p ln cp, v = .slice p ln cp := by
  rcases h.2 with ⟨rfl, _⟩ | ⟨g, cap, cur, rfl, _⟩
  · exact ⟨_, _, _, rfl⟩
  · exact ⟨_, _, _, rfl⟩
end Go.Proofs.YtokbdleokihdaaaGreatDoor
namespace Go.Proofs.YtokbdleokihdaaaGreatDoor
open Go.RowKit

/-- A slice of digits, to be read. -/
def URow (W : World) (v : Value) (ds : List Nat) : Prop :=
  ∃ p cap, v = .slice p ds.length cap ∧ ds.length ≤ cap ∧ (ds = [] ∨ ∃ g, p = some ⟨g, 0, none⟩ ∧ g < W.heap.size ∧ ∀ j, j < ds.length → W.cell? ⟨g, j, none⟩ = some (.int .u64 ((ds.getD j 0 : Nat) : Int)))
theorem URow.below {W W' : World} {v : Value} {ds : List Nat} (h : URow W v ds) (hb : Below W.heap.size W W') : URow W' v ds := by
  obtain ⟨p, cap, rfl, hl, h⟩ := h
  refine ⟨p, cap, rfl, hl, ?_⟩
  rcases h with h | ⟨g, rfl, hg, hc⟩
  · exact .inl h
  · exact .inr ⟨g, rfl, by have := hb.size; omega, fun j hj => by rw [hb.cell (p := ⟨g, j, none⟩) hg]; exact hc j hj⟩
/-- A row that was made is a row that can be read. -/
theorem URow.of_owns {W : World} {B : Nat} {v : Value} {ds : List Nat} (h : W.ownsRow B 51 1 v ds.length (u64s ds)) : URow W v ds := by
  rcases h.2 with ⟨rfl, h0⟩ | ⟨g, cap, cur, rfl, -, hg, hn, -, hsz, htk⟩
  · exact ⟨none, 0, by rw [h0], by omega, .inl (List.eq_nil_of_length_eq_zero h0)⟩
  · refine ⟨_, cap, rfl, hn, .inr ⟨g, rfl, (Array.getElem?_eq_some_iff.1 hg).1, fun j hj => ?_⟩⟩
    have h1 : (u64s ds)[j]? = some (.int .u64 ((ds.getD j 0 : Nat) : Int)) := by
      unfold u64s
      rw [List.getElem?_map, List.getElem?_eq_getElem hj]
      simp [List.getD_eq_getElem?_getD, List.getElem?_eq_getElem hj]
    rw [← htk, List.getElem?_take_of_lt (by omega)] at h1
    simp [World.cell?, hg]
    simpa using h1
/-- Digits from the highest of so many down. -/
def down (xs ys : List Nat) : Nat → Int
  | 0 => 0
  | k + 1 => if xs.getD k 0 < ys.getD k 0 then -1 else if ys.getD k 0 < xs.getD k 0 then 1 else down xs ys k
def amt (xs ys : List Nat) : Int := if xs.length < ys.length then -1 else if ys.length < xs.length then 1 else down xs ys xs.length

set_option maxRecDepth 100000 in
set_option maxHeartbeats 2000000 in
theorem amounts_any (ma mb : Bool) (va vb : Value) (xs ys : List Nat) (w : World) (ha : URow w va xs) (hb : URow w vb ys) (hla : xs.length ≤ 3000) (hlb : ys.length ≤ 3000) :
    Calls Tryz.prog 49 #[.agg #[.bool ma, va], .agg #[.bool mb, vb]] w fun e w' => e = .returned (.int .i64 (amt xs ys)) ∧ Below w.heap.size w w' := by
  obtain ⟨pa, ca, rfl, -, ha⟩ := ha
  obtain ⟨pb, cb, rfl, -, hb⟩ := hb
  have HV := Lib.hid (show amt xs ys = if xs.length < ys.length then -1 else if ys.length < xs.length then 1 else down xs ys xs.length from rfl)
  have HA := Lib.hid ha
  have HB := Lib.hid hb
  clear ha hb
  obtain ⟨hB, hz, X1, X2⟩ := boxes2 w #[.bool ma, .slice pa xs.length ca] #[.bool mb, .slice pb ys.length cb] 65 65
  have HBB := Lib.hid hB
  generalize hna : xs.length = na at *
  generalize hnb : ys.length = nb at *
  have HNA := Lib.hid hna
  have HNB := Lib.hid hnb
  clear hna hnb hB
  rcases Nat.lt_trichotomy na nb with h | h | h
  · have HE : Hid (amt xs ys = -1) := by show _ = _; rw [HV.out, if_pos h]
    rw [HE.out]
    clear HE HV HA HB
    have hne : na ≠ nb := by omega
    go_enter Tryz.func49, Tryz.ntmps49
    go_wp2_with fail
    go_ret
    exact ⟨rfl, HBB.out⟩
  · subst h
    have HV2 : Hid (amt xs ys = down xs ys na) := by show _ = _; rw [HV.out, if_neg (by omega), if_neg (by omega)]
    clear HV
    go_enter Tryz.func49, Tryz.ntmps49
    go_wp2_with fail
    have x1 := X1 1
    have x2 := X2 1
    generalize ((w.alloc (.cells #[.bool ma, .slice pa na ca] 65)).alloc (.cells #[.bool mb, .slice pb na cb] 65)) = W0 at *
    have hx1 : W0.cell? ⟨w.heap.size, 1, none⟩ = some (.slice pa na ca) := by rw [x1]; rfl
    have hx2 : W0.cell? ⟨w.heap.size + 1, 1, none⟩ = some (.slice pb na cb) := by rw [x2]; rfl
    have hz2 : w.heap.size + 1 < W0.heap.size := by omega
    clear x1 x2 X1 X2 hz
    go_loopw [5] (fun i wr => ∃ k : Nat, k ≤ na ∧ i = .int .i64 ((k : Int) - 1) ∧ Below W0.heap.size W0 wr ∧ down xs ys na = down xs ys k) (fun i _ => (intOf i + 1).toNat)
    case atStart => exact ⟨na, Nat.le_refl _, by go_num, Below.refl _ _, rfl⟩
    case round =>
      obtain ⟨k, hk, rfl, hbl, hdn⟩ := hrel
      have HD := Lib.hid hdn
      have HL := Lib.hid hbl
      have y1 : wr.cell? ⟨w.heap.size, 1, none⟩ = some (.slice pa na ca) := by rw [hbl.cell (p := ⟨w.heap.size, 1, none⟩) (by show w.heap.size < _; omega)]; exact hx1
      have y2 : wr.cell? ⟨w.heap.size + 1, 1, none⟩ = some (.slice pb na cb) := by rw [hbl.cell (p := ⟨w.heap.size + 1, 1, none⟩) (by show w.heap.size + 1 < _; omega)]; exact hx2
      clear hbl hdn hx1 hx2
      cases k with
      | zero =>
        have HE : Hid (amt xs ys = 0) := by show _ = _; rw [HV2.out, HD.out]; rfl
        go_wp2_with fail
        go_ret
        exact ⟨ret_int HE.out.symm, HBB.out.trans (HL.out.mono (by omega))⟩
      | succ k =>
        rw [show (((k + 1 : Nat) : Int) - 1) = (k : Int) by omega]
        have hxs : xs ≠ [] := fun e => by have := HNA.out; rw [e] at this; simp at this; omega
        have hys : ys ≠ [] := fun e => by have := HNB.out; rw [e] at this; simp at this; omega
        obtain ⟨ga, rfl, hga, hca⟩ := HA.out.resolve_left hxs
        obtain ⟨gb, rfl, hgb, hcb⟩ := HB.out.resolve_left hys
        have hwW := HBB.out.size
        have z1 : wr.cell? ⟨ga, k, none⟩ = some (.int .u64 ((xs.getD k 0 : Nat) : Int)) := by rw [(HBB.out.trans (HL.out.mono (by omega))).cell (p := ⟨ga, k, none⟩) hga]; exact hca k (by omega)
        have z2 : wr.cell? ⟨gb, k, none⟩ = some (.int .u64 ((ys.getD k 0 : Nat) : Int)) := by rw [(HBB.out.trans (HL.out.mono (by omega))).cell (p := ⟨gb, k, none⟩) hgb]; exact hcb k (by omega)
        have HK := Lib.hid (show down xs ys (k + 1) = if xs.getD k 0 < ys.getD k 0 then -1 else if ys.getD k 0 < xs.getD k 0 then 1 else down xs ys k from rfl)
        have hkn : k < na := by omega
        clear hca hcb hxs hys
        generalize xs.getD k 0 = dx at *
        generalize ys.getD k 0 = dy at *
        rcases Nat.lt_trichotomy dx dy with h1 | h1 | h1
        · have HE : Hid (amt xs ys = -1) := by show _ = _; rw [HV2.out, HD.out, HK.out, if_pos h1]
          go_wp2_with fail
          go_quiet (fail)
          go_wp2_with fail
          go_ret
          exact ⟨ret_int HE.out.symm, (HBB.out.trans (HL.out.mono (by omega))).trans ((below_drewN _).mono (by have := HL.out.size; omega))⟩
        · subst h1
          have HE : Hid (down xs ys na = down xs ys k) := by show _ = _; rw [HD.out, HK.out, if_neg (by omega), if_neg (by omega)]
          go_wp2_with fail
          go_quiet (fail)
          go_wp2_with fail
          go_quiet (fail)
          go_wp2_with fail
          go_roundw
          case rel => exact ⟨k, by omega, by go_num, HL.out.trans ((below_drewN _).mono HL.out.size), HE.out⟩
          case measure => simp [intOf]
        · have HE : Hid (amt xs ys = 1) := by show _ = _; rw [HV2.out, HD.out, HK.out, if_neg (by omega), if_pos h1]
          go_wp2_with fail
          go_quiet (fail)
          go_wp2_with fail
          go_quiet (fail)
          go_wp2_with fail
          go_ret
          exact ⟨ret_int HE.out.symm, ((HBB.out.trans (HL.out.mono (by omega))).trans ((below_drewN _).mono (Nat.le_trans hwW HL.out.size))).trans ((below_drewN _).mono (Nat.le_trans hwW HL.out.size))⟩
  · have HE : Hid (amt xs ys = 1) := by show _ = _; rw [HV.out, if_neg (by omega), if_pos h]
    rw [HE.out]
    clear HE HV HA HB
    have hne : na ≠ nb := by omega
    go_enter Tryz.func49, Tryz.ntmps49
    go_wp2_with fail
    go_ret
    exact ⟨rfl, HBB.out⟩
end Go.Proofs.YtokbdleokihdaaaGreatDoor
namespace Go.Proofs.YtokbdleokihdaaaGreatDoor
open Go.RowKit

/-- How many digits stay, of the first so many. -/
def tlen (ds : List Nat) : Nat → Nat
  | 0 => 0
  | k + 1 => if ds.getD k 0 = 0 then tlen ds k else k + 1
theorem tlen_le (ds : List Nat) : ∀ k, tlen ds k ≤ k
  | 0 => Nat.le_refl _
  | k + 1 => by
    unfold tlen
    split
    · have := tlen_le ds k; omega
    · exact Nat.le_refl _

set_option maxRecDepth 100000 in
set_option maxHeartbeats 2000000 in
theorem trimmed_any (ma : Bool) (va : Value) (xs : List Nat) (w : World) (ha : URow w va xs) (hla : xs.length ≤ 3000) :
    Calls Tryz.prog 65 #[.agg #[.bool ma, va]] w fun e w' => ∃ v, e = .returned (.agg #[.bool (ma && decide (0 < tlen xs xs.length)), v]) ∧ URow w' v (xs.take (tlen xs xs.length)) ∧ Below w.heap.size w w' := by
  obtain ⟨pa, ca, rfl, hca, ha⟩ := ha
  have HA := Lib.hid ha
  clear ha
  obtain ⟨hB, hz, X1, X2⟩ := boxes2 w #[.bool ma, .slice pa xs.length ca] #[.bool false, .slice none 0 0] 65 65
  have HBB := Lib.hid hB
  generalize hna : xs.length = na at *
  have HNA := Lib.hid hna
  clear hna hB
  go_enter Tryz.func65, Tryz.ntmps65
  go_wp2_with fail
  have x0 := X1 0
  have x1 := X1 1
  have y0 := X2 0
  have y1 := X2 1
  have hf : ∀ i, ((w.alloc (.cells #[.bool ma, .slice pa na ca] 65)).alloc (.cells #[.bool false, .slice none 0 0] 65)).frozen? ⟨w.heap.size + 1, i, none⟩ = false := fun i => World.frozen?_alloc_at _ _ _ _ (by simp)
  have f0 := hf 0
  have f1 := hf 1
  clear hf X1 X2
  generalize ((w.alloc (.cells #[.bool ma, .slice pa na ca] 65)).alloc (.cells #[.bool false, .slice none 0 0] 65)) = W0 at *
  have hx0 : W0.cell? ⟨w.heap.size, 0, none⟩ = some (.bool ma) := by rw [x0]; rfl
  have hx1 : W0.cell? ⟨w.heap.size, 1, none⟩ = some (.slice pa na ca) := by rw [x1]; rfl
  have hy0 : W0.cell? ⟨w.heap.size + 1, 0, none⟩ = some (.bool false) := by rw [y0]; rfl
  have hy1 : W0.cell? ⟨w.heap.size + 1, 1, none⟩ = some (.slice none 0 0) := by rw [y1]; rfl
  clear x0 x1 y0 y1
  go_loopw [3] (fun i wr => ∃ k : Nat, k ≤ na ∧ i = .int .i64 (k : Int) ∧ wr = W0 ∧ tlen xs na = tlen xs k) (fun i _ => (intOf i).toNat)
  case atStart => exact ⟨na, Nat.le_refl _, rfl, rfl, rfl⟩
  case round =>
    obtain ⟨k, hk, rfl, rfl, hdn⟩ := hrel
    have HD := Lib.hid hdn
    clear hdn
    cases k with
    | zero =>
      have HE : Hid (tlen xs na = 0) := HD.out
      rcases pa with _ | pa
      · cases ma
        all_goals
          go_wp2_with fail
          first | (go_region_with fail) | fail
          go_wp2_with fail
        all_goals
          refine bodyPost_ret (v := .agg #[.bool false, .slice none 0 ca]) (by simp [results, Tryz.results65, go_sem, hy0, hy1]) rfl ⟨.slice none 0 ca, by rw [HE.out]; rfl, ?_, ?_⟩
          · rw [HE.out]; exact ⟨_, ca, rfl, Nat.zero_le _, .inl rfl⟩
          · exact ((HBB.out.setCell (p := ⟨w.heap.size + 1, 0, none⟩) (Nat.le_succ _) _).setCell (p := ⟨w.heap.size + 1, 1, none⟩) (Nat.le_succ _) _).drew
      · cases ma
        all_goals
          go_wp2_with fail
          first | (go_region_with fail) | fail
          go_wp2_with fail
        all_goals
          refine bodyPost_ret (v := .agg #[.bool false, .slice (some pa) 0 ca]) (by simp [results, Tryz.results65, go_sem, hy0, hy1]) rfl ⟨.slice (some pa) 0 ca, by rw [HE.out]; rfl, ?_, ?_⟩
          · rw [HE.out]; exact ⟨_, ca, rfl, Nat.zero_le _, .inl rfl⟩
          · exact ((HBB.out.setCell (p := ⟨w.heap.size + 1, 0, none⟩) (Nat.le_succ _) _).setCell (p := ⟨w.heap.size + 1, 1, none⟩) (Nat.le_succ _) _).drew
    | succ k =>
      have hxs : xs ≠ [] := fun e => by have := HNA.out; rw [e] at this; simp at this; omega
      obtain ⟨ga, rfl, hga, hca2⟩ := HA.out.resolve_left hxs
      have z1 : wr.cell? ⟨ga, k, none⟩ = some (.int .u64 ((xs.getD k 0 : Nat) : Int)) := by rw [HBB.out.cell (p := ⟨ga, k, none⟩) hga]; exact hca2 k (by omega)
      have HK := Lib.hid (show tlen xs (k + 1) = if xs.getD k 0 = 0 then tlen xs k else k + 1 from rfl)
      have hkn : k < na := by omega
      have HCA := Lib.hid hca2
      clear hca2 hxs
      generalize xs.getD k 0 = dx at *
      by_cases h1 : dx = 0
      · subst h1
        have HE : Hid (tlen xs na = tlen xs k) := by show _ = _; rw [HD.out, HK.out, if_pos rfl]
        go_wp2_with fail
        go_roundw
        case rel => exact ⟨k, by omega, rfl, trivial, HE.out⟩
        case measure => simp [intOf]
      · have HE : Hid (tlen xs na = k + 1) := by show _ = _; rw [HD.out, HK.out, if_neg h1]
        cases ma
        · go_wp2_with fail
          first | (go_region_with fail) | fail
          go_wp2_with fail
          all_goals
            refine bodyPost_ret (v := .agg #[.bool false, .slice (some ⟨ga, 0, none⟩) (k + 1) ca]) (by simp [results, Tryz.results65, go_sem, hy0, hy1]) rfl ⟨.slice (some ⟨ga, 0, none⟩) (k + 1) ca, by rw [HE.out]; simp, ?_, ?_⟩
            · rw [HE.out]
              have hl : (xs.take (k + 1)).length = k + 1 := by rw [List.length_take, HNA.out]; omega
              refine ⟨_, ca, by rw [hl], by rw [hl]; omega, .inr ⟨ga, rfl, ?_, fun j hj => ?_⟩⟩
              · exact Nat.lt_of_lt_of_le hga ((HBB.out.setCell (p := ⟨w.heap.size + 1, 0, none⟩) (Nat.le_succ _) _).setCell (p := ⟨w.heap.size + 1, 1, none⟩) (Nat.le_succ _) _).drew.size
              · rw [hl] at hj
                refine Eq.trans (Below.cell ((HBB.out.setCell (p := ⟨w.heap.size + 1, 0, none⟩) (Nat.le_succ _) _).setCell (p := ⟨w.heap.size + 1, 1, none⟩) (Nat.le_succ _) _).drew (p := ⟨ga, j, none⟩) hga) ?_
                rw [HCA.out j (by omega)]
                simp [List.getD_eq_getElem?_getD, List.getElem?_take_of_lt hj]
            · exact ((HBB.out.setCell (p := ⟨w.heap.size + 1, 0, none⟩) (Nat.le_succ _) _).setCell (p := ⟨w.heap.size + 1, 1, none⟩) (Nat.le_succ _) _).drew
        · go_wp2_with fail
          first | (go_region_with fail) | fail
          go_wp2_with fail
          all_goals
            refine bodyPost_ret (v := .agg #[.bool true, .slice (some ⟨ga, 0, none⟩) (k + 1) ca]) (by simp [results, Tryz.results65, go_sem, hy0, hy1]) rfl ⟨.slice (some ⟨ga, 0, none⟩) (k + 1) ca, by rw [HE.out]; simp, ?_, ?_⟩
            · rw [HE.out]
              have hl : (xs.take (k + 1)).length = k + 1 := by rw [List.length_take, HNA.out]; omega
              refine ⟨_, ca, by rw [hl], by rw [hl]; omega, .inr ⟨ga, rfl, ?_, fun j hj => ?_⟩⟩
              · exact Nat.lt_of_lt_of_le hga ((HBB.out.setCell (p := ⟨w.heap.size + 1, 0, none⟩) (Nat.le_succ _) _).setCell (p := ⟨w.heap.size + 1, 1, none⟩) (Nat.le_succ _) _).drew.size
              · rw [hl] at hj
                refine Eq.trans (Below.cell ((HBB.out.setCell (p := ⟨w.heap.size + 1, 0, none⟩) (Nat.le_succ _) _).setCell (p := ⟨w.heap.size + 1, 1, none⟩) (Nat.le_succ _) _).drew (p := ⟨ga, j, none⟩) hga) ?_
                rw [HCA.out j (by omega)]
                simp [List.getD_eq_getElem?_getD, List.getElem?_take_of_lt hj]
            · exact ((HBB.out.setCell (p := ⟨w.heap.size + 1, 0, none⟩) (Nat.le_succ _) _).setCell (p := ⟨w.heap.size + 1, 1, none⟩) (Nat.le_succ _) _).drew
end Go.Proofs.YtokbdleokihdaaaGreatDoor
namespace Go.Proofs.YtokbdleokihdaaaGreatDoor
open Go.RowKit

set_option maxRecDepth 100000 in
set_option maxHeartbeats 4000000 in
theorem bigof_any (i : Int) (h0 : -9223372036854775808 ≤ i) (h1 : i ≤ 9223372036854775807) (w : World) :
    Calls Tryz.prog 39 #[.int .i64 i] w fun e w' => ∃ v, e = .returned (.agg #[.bool (decide (i < 0)), v]) ∧ w'.ownsRow w.heap.size 51 1 v (digsF 4 i.natAbs).length (u64s (digsF 4 i.natAbs)) ∧ Below w.heap.size w w' := by
  obtain ⟨i0, hi, hz0, hz1, hz2⟩ := info_parts u64info
  obtain ⟨n, hnn⟩ : ∃ n, n = i.natAbs := ⟨_, rfl⟩
  have hn : n < 18446744073709551616 := by omega
  rw [← hnn]
  cases hs : decide (i < 0)
  · have hw1 : IntKind.u64.wrap i = (n : Int) := by rw [IntKind.wrap_u64]; simp at hs; omega
    go_enter Tryz.func39, Tryz.ntmps39
    go_wp2_with fail
    go_loopw [3] (fun nv wr => ∃ (m f : Nat) (ds : List Nat) (v : Value), nv = .int .u64 (m : Int) ∧ digsF 4 n = ds ++ digsF f m ∧ ds.length + f = 4 ∧ m < 18446744073709551616 ∧ m < 1000000 ^ f ∧
        wr.ownsRow (w.heap.size + 2) 51 1 v ds.length (u64s ds) ∧ wr.cell? ⟨w.heap.size + 1, 0, none⟩ = some (.bool false) ∧ wr.cell? ⟨w.heap.size + 1, 1, none⟩ = some v ∧ wr.frozen? ⟨w.heap.size + 1, 1, none⟩ = false ∧
        wr.cell? ⟨w.heap.size, 0, none⟩ = some (.bool false) ∧ wr.cell? ⟨w.heap.size, 1, none⟩ = some (.slice none 0 0) ∧ wr.frozen? ⟨w.heap.size, 0, none⟩ = false ∧ wr.frozen? ⟨w.heap.size, 1, none⟩ = false ∧ Below w.heap.size w wr)
      (fun nv _ => (intOf nv).toNat)
    case atStart =>
      obtain ⟨hB, -, X1, X2⟩ := boxes2 w #[.bool false, .slice none 0 0] #[.bool false, .slice none 0 0] 65 65
      exact ⟨n, 4, [], .slice none 0 0, by rw [hnn], by simp, rfl, hn, Nat.lt_of_lt_of_le hn (by decide), World.ownsRow_nil _ _ _ _, by rw [X2]; rfl, by rw [X2]; rfl, World.frozen?_alloc_at _ _ _ _ (by simp), by rw [X1]; rfl, by rw [X1]; rfl, by rw [World.frozen?_alloc_past _ _ _ (by simp)]; exact World.frozen?_alloc_new .., by rw [World.frozen?_alloc_past _ _ _ (by simp)]; exact World.frozen?_alloc_new .., hB⟩
    case round =>
      obtain ⟨m, f, ds, v, rfl, hdg, hlen, hm64, hmf, hown, c0, c1, f1, r0, r1, g0, g1, hB⟩ := hrel
      have HB := Lib.hid hB
      have HD := Lib.hid hdg
      have HO := Lib.hid hown
      have hzw : w.heap.size + 1 < wr.heap.size := World.block_lt_of_cell? wr _ c0
      obtain ⟨p, ln, cp, rfl⟩ := owns_slice hown
      clear hB hdg
      by_cases h0 : m = 0
      · subst h0
        have HE : Hid (digsF 4 n = ds) := by show _ = _; rw [HD.out, digsF_zero, List.append_nil]
        clear hown
        go_wp2_with fail
        refine bodyPost_ret (v := .agg #[.bool false, .slice p ln cp]) (by simp [results, Tryz.results39, go_sem, r0, r1]) rfl ⟨_, rfl, ?_, ?_⟩
        · rw [HE.out]
          exact owns_down (ownsRow_setCell_below (ownsRow_setCell_below HO.out (by show w.heap.size < w.heap.size + 2; omega) _) (by show w.heap.size < w.heap.size + 2; omega) _) (by omega)
        · exact (HB.out.setCell (p := ⟨w.heap.size, 0, none⟩) (Nat.le_refl _) _).setCell (p := ⟨w.heap.size, 1, none⟩) (Nat.le_refl _) _
      · have hpos : 0 < m := by omega
        have e1 : ((m : Int)).tmod 1000000 = ((m % 1000000 : Nat) : Int) := by rw [Int.tmod_eq_emod_of_nonneg (by omega)]; omega
        have e2 : ((m : Int)).tdiv 1000000 = ((m / 1000000 : Nat) : Int) := by rw [Int.tdiv_eq_ediv_of_nonneg (by omega)]; omega
        go_wp2_with (at_builtin; refine wpList_append_own _ rfl _ _ 63 rfl (w.heap.size + 2) 51 i0 (.int .u64 0) 1 8 Tryz.underlying63 hi hz0 hz1 hz2 rfl (by decide) _ _ _ rfl (HO.out.alloc _) ⟨wr.heap.size, 0, none⟩ 1 1 [.int .u64 ((m : Int) % 1000000)] rfl rfl ?c1 ?c2 ?c3 ?c4 ?c5 ?_)
        case c1 =>
          intro j u hj
          match j, hj with
          | 0, hj => simp at hj; subst hj; simp [Addr.add]
        case c2 => intro u hu; simp at hu; subst hu; rfl
        case c3 => unfold maxLen; omega
        case c4 => omega
        case c5 => simp; omega
        intro v' w1 hown' hgrow _
        obtain ⟨p', ln', cp', rfl⟩ := owns_slice hown'
        have hne : ∀ j, j < w.heap.size + 2 → some j ≠ (Value.slice p ln cp).ownBlock := fun j hj h => by have := HO.out.lt j h.symm; omega
        have C0 := Lib.hid (hgrow.cell ((World.cell?_alloc_past _ _ _ (by show w.heap.size + 1 < _; omega)).trans c0) (hne (w.heap.size + 1) (by omega)))
        have C1 := Lib.hid (hgrow.cell ((World.cell?_alloc_past _ _ _ (by show w.heap.size + 1 < _; omega)).trans c1) (hne (w.heap.size + 1) (by omega)))
        have R0 := Lib.hid (hgrow.cell ((World.cell?_alloc_past _ _ _ (by show w.heap.size < _; omega)).trans r0) (hne w.heap.size (by omega)))
        have R1 := Lib.hid (hgrow.cell ((World.cell?_alloc_past _ _ _ (by show w.heap.size < _; omega)).trans r1) (hne w.heap.size (by omega)))
        have F1 : Hid (w1.frozen? ⟨w.heap.size + 1, 1, none⟩ = false) := by
          show _ = _
          rw [World.frozen?_of_block (w := wr.alloc _) (hgrow.block (w.heap.size + 1) (by simp; omega) (hne (w.heap.size + 1) (by omega)))]
          exact (World.frozen?_alloc_past _ _ _ (by show w.heap.size + 1 < _; omega)).trans f1
        have G0 : Hid (w1.frozen? ⟨w.heap.size, 0, none⟩ = false) := by
          show _ = _
          rw [World.frozen?_of_block (w := wr.alloc _) (hgrow.block w.heap.size (by simp; omega) (hne w.heap.size (by omega)))]
          exact (World.frozen?_alloc_past _ _ _ (by show w.heap.size < _; omega)).trans g0
        have G1 : Hid (w1.frozen? ⟨w.heap.size, 1, none⟩ = false) := by
          show _ = _
          rw [World.frozen?_of_block (w := wr.alloc _) (hgrow.block w.heap.size (by simp; omega) (hne w.heap.size (by omega)))]
          exact (World.frozen?_alloc_past _ _ _ (by show w.heap.size < _; omega)).trans g1
        have HB1 := Lib.hid ((HB.out.alloc (by omega) _).grown hgrow (by simp; omega) (fun j hj => by have := (HO.out.lt j hj).1; omega))
        have HO1 := Lib.hid hown'
        obtain ⟨f, rfl⟩ : ∃ g, f = g + 1 := by
          cases f with
          | zero => simp at hmf; omega
          | succ g => exact ⟨g, rfl⟩
        have HD2 : Hid (digsF 4 n = (ds ++ [m % 1000000]) ++ digsF f (m / 1000000)) := by
          show _ = _
          rw [HD.out, List.append_assoc]
          have : digsF (f + 1) m = m % 1000000 :: digsF f (m / 1000000) := by rw [digsF, if_neg h0]
          rw [this]; rfl
        have HM2 : Hid (m / 1000000 < 1000000 ^ f) := by
          show _ < _
          rw [Nat.div_lt_iff_lt_mul (by omega)]
          rwa [Nat.pow_succ] at hmf
        clear hown' hgrow hne c0 c1 r0 r1 f1 g0 g1 hown HO HB HD hmf
        have k1 := C1.out
        have k2 := F1.out
        go_wp2_with fail
        go_roundw
        case rel =>
          refine ⟨m / 1000000, f, ds ++ [m % 1000000], .slice p' ln' cp', by go_num, HD2.out, by simp; omega, by omega, HM2.out, ?_, ?_, ?_, ?_, ?_, ?_, ?_, ?_, ?_⟩
          · have := ownsRow_setCell_below HO1.out (a := ⟨w.heap.size + 1, 1, none⟩) (by show w.heap.size + 1 < w.heap.size + 2; omega) (.slice p' ln' cp')
            simpa [u64s] using this
          · rw [World.cell?_setCell_other (h := by simp)]; exact C0.out
          · exact World.cell?_setCell_same _ _ _ C1.out
          · rw [World.frozen?_setCell]; exact F1.out
          · rw [World.cell?_setCell_other (h := by simp)]; exact R0.out
          · rw [World.cell?_setCell_other (h := by simp)]; exact R1.out
          · rw [World.frozen?_setCell]; exact G0.out
          · rw [World.frozen?_setCell]; exact G1.out
          · exact HB1.out.setCell (p := ⟨w.heap.size + 1, 1, none⟩) (Nat.le_succ _) _
        case measure => simp [intOf]; omega
  · have hw1 : IntKind.u64.wrap i = i + 18446744073709551616 := by rw [IntKind.wrap_u64]; simp at hs; omega
    have hw2 : IntKind.u64.wrap (-(i + 18446744073709551616)) = (n : Int) := by rw [IntKind.wrap_u64]; simp at hs; omega
    go_enter Tryz.func39, Tryz.ntmps39
    go_wp2_with fail
    go_loopw [3] (fun nv wr => ∃ (m f : Nat) (ds : List Nat) (v : Value), nv = .int .u64 (m : Int) ∧ digsF 4 n = ds ++ digsF f m ∧ ds.length + f = 4 ∧ m < 18446744073709551616 ∧ m < 1000000 ^ f ∧
        wr.ownsRow (w.heap.size + 2) 51 1 v ds.length (u64s ds) ∧ wr.cell? ⟨w.heap.size + 1, 0, none⟩ = some (.bool true) ∧ wr.cell? ⟨w.heap.size + 1, 1, none⟩ = some v ∧ wr.frozen? ⟨w.heap.size + 1, 1, none⟩ = false ∧
        wr.cell? ⟨w.heap.size, 0, none⟩ = some (.bool false) ∧ wr.cell? ⟨w.heap.size, 1, none⟩ = some (.slice none 0 0) ∧ wr.frozen? ⟨w.heap.size, 0, none⟩ = false ∧ wr.frozen? ⟨w.heap.size, 1, none⟩ = false ∧ Below w.heap.size w wr)
      (fun nv _ => (intOf nv).toNat)
    case atStart =>
      obtain ⟨hB, -, X1, X2⟩ := boxes2 w #[.bool false, .slice none 0 0] #[.bool true, .slice none 0 0] 65 65
      exact ⟨n, 4, [], .slice none 0 0, by rw [hnn], by simp, rfl, hn, Nat.lt_of_lt_of_le hn (by decide), World.ownsRow_nil _ _ _ _, by rw [X2]; rfl, by rw [X2]; rfl, World.frozen?_alloc_at _ _ _ _ (by simp), by rw [X1]; rfl, by rw [X1]; rfl, by rw [World.frozen?_alloc_past _ _ _ (by simp)]; exact World.frozen?_alloc_new .., by rw [World.frozen?_alloc_past _ _ _ (by simp)]; exact World.frozen?_alloc_new .., hB⟩
    case round =>
      obtain ⟨m, f, ds, v, rfl, hdg, hlen, hm64, hmf, hown, c0, c1, f1, r0, r1, g0, g1, hB⟩ := hrel
      have HB := Lib.hid hB
      have HD := Lib.hid hdg
      have HO := Lib.hid hown
      have hzw : w.heap.size + 1 < wr.heap.size := World.block_lt_of_cell? wr _ c0
      obtain ⟨p, ln, cp, rfl⟩ := owns_slice hown
      clear hB hdg
      by_cases h0 : m = 0
      · subst h0
        have HE : Hid (digsF 4 n = ds) := by show _ = _; rw [HD.out, digsF_zero, List.append_nil]
        clear hown
        go_wp2_with fail
        refine bodyPost_ret (v := .agg #[.bool true, .slice p ln cp]) (by simp [results, Tryz.results39, go_sem, r0, r1]) rfl ⟨_, rfl, ?_, ?_⟩
        · rw [HE.out]
          exact owns_down (ownsRow_setCell_below (ownsRow_setCell_below HO.out (by show w.heap.size < w.heap.size + 2; omega) _) (by show w.heap.size < w.heap.size + 2; omega) _) (by omega)
        · exact (HB.out.setCell (p := ⟨w.heap.size, 0, none⟩) (Nat.le_refl _) _).setCell (p := ⟨w.heap.size, 1, none⟩) (Nat.le_refl _) _
      · have hpos : 0 < m := by omega
        have e1 : ((m : Int)).tmod 1000000 = ((m % 1000000 : Nat) : Int) := by rw [Int.tmod_eq_emod_of_nonneg (by omega)]; omega
        have e2 : ((m : Int)).tdiv 1000000 = ((m / 1000000 : Nat) : Int) := by rw [Int.tdiv_eq_ediv_of_nonneg (by omega)]; omega
        go_wp2_with (at_builtin; refine wpList_append_own _ rfl _ _ 63 rfl (w.heap.size + 2) 51 i0 (.int .u64 0) 1 8 Tryz.underlying63 hi hz0 hz1 hz2 rfl (by decide) _ _ _ rfl (HO.out.alloc _) ⟨wr.heap.size, 0, none⟩ 1 1 [.int .u64 ((m : Int) % 1000000)] rfl rfl ?c1 ?c2 ?c3 ?c4 ?c5 ?_)
        case c1 =>
          intro j u hj
          match j, hj with
          | 0, hj => simp at hj; subst hj; simp [Addr.add]
        case c2 => intro u hu; simp at hu; subst hu; rfl
        case c3 => unfold maxLen; omega
        case c4 => omega
        case c5 => simp; omega
        intro v' w1 hown' hgrow _
        obtain ⟨p', ln', cp', rfl⟩ := owns_slice hown'
        have hne : ∀ j, j < w.heap.size + 2 → some j ≠ (Value.slice p ln cp).ownBlock := fun j hj h => by have := HO.out.lt j h.symm; omega
        have C0 := Lib.hid (hgrow.cell ((World.cell?_alloc_past _ _ _ (by show w.heap.size + 1 < _; omega)).trans c0) (hne (w.heap.size + 1) (by omega)))
        have C1 := Lib.hid (hgrow.cell ((World.cell?_alloc_past _ _ _ (by show w.heap.size + 1 < _; omega)).trans c1) (hne (w.heap.size + 1) (by omega)))
        have R0 := Lib.hid (hgrow.cell ((World.cell?_alloc_past _ _ _ (by show w.heap.size < _; omega)).trans r0) (hne w.heap.size (by omega)))
        have R1 := Lib.hid (hgrow.cell ((World.cell?_alloc_past _ _ _ (by show w.heap.size < _; omega)).trans r1) (hne w.heap.size (by omega)))
        have F1 : Hid (w1.frozen? ⟨w.heap.size + 1, 1, none⟩ = false) := by
          show _ = _
          rw [World.frozen?_of_block (w := wr.alloc _) (hgrow.block (w.heap.size + 1) (by simp; omega) (hne (w.heap.size + 1) (by omega)))]
          exact (World.frozen?_alloc_past _ _ _ (by show w.heap.size + 1 < _; omega)).trans f1
        have G0 : Hid (w1.frozen? ⟨w.heap.size, 0, none⟩ = false) := by
          show _ = _
          rw [World.frozen?_of_block (w := wr.alloc _) (hgrow.block w.heap.size (by simp; omega) (hne w.heap.size (by omega)))]
          exact (World.frozen?_alloc_past _ _ _ (by show w.heap.size < _; omega)).trans g0
        have G1 : Hid (w1.frozen? ⟨w.heap.size, 1, none⟩ = false) := by
          show _ = _
          rw [World.frozen?_of_block (w := wr.alloc _) (hgrow.block w.heap.size (by simp; omega) (hne w.heap.size (by omega)))]
          exact (World.frozen?_alloc_past _ _ _ (by show w.heap.size < _; omega)).trans g1
        have HB1 := Lib.hid ((HB.out.alloc (by omega) _).grown hgrow (by simp; omega) (fun j hj => by have := (HO.out.lt j hj).1; omega))
        have HO1 := Lib.hid hown'
        obtain ⟨f, rfl⟩ : ∃ g, f = g + 1 := by
          cases f with
          | zero => simp at hmf; omega
          | succ g => exact ⟨g, rfl⟩
        have HD2 : Hid (digsF 4 n = (ds ++ [m % 1000000]) ++ digsF f (m / 1000000)) := by
          show _ = _
          rw [HD.out, List.append_assoc]
          have : digsF (f + 1) m = m % 1000000 :: digsF f (m / 1000000) := by rw [digsF, if_neg h0]
          rw [this]; rfl
        have HM2 : Hid (m / 1000000 < 1000000 ^ f) := by
          show _ < _
          rw [Nat.div_lt_iff_lt_mul (by omega)]
          rwa [Nat.pow_succ] at hmf
        clear hown' hgrow hne c0 c1 r0 r1 f1 g0 g1 hown HO HB HD hmf
        have k1 := C1.out
        have k2 := F1.out
        go_wp2_with fail
        go_roundw
        case rel =>
          refine ⟨m / 1000000, f, ds ++ [m % 1000000], .slice p' ln' cp', by go_num, HD2.out, by simp; omega, by omega, HM2.out, ?_, ?_, ?_, ?_, ?_, ?_, ?_, ?_, ?_⟩
          · have := ownsRow_setCell_below HO1.out (a := ⟨w.heap.size + 1, 1, none⟩) (by show w.heap.size + 1 < w.heap.size + 2; omega) (.slice p' ln' cp')
            simpa [u64s] using this
          · rw [World.cell?_setCell_other (h := by simp)]; exact C0.out
          · exact World.cell?_setCell_same _ _ _ C1.out
          · rw [World.frozen?_setCell]; exact F1.out
          · rw [World.cell?_setCell_other (h := by simp)]; exact R0.out
          · rw [World.cell?_setCell_other (h := by simp)]; exact R1.out
          · rw [World.frozen?_setCell]; exact G0.out
          · rw [World.frozen?_setCell]; exact G1.out
          · exact HB1.out.setCell (p := ⟨w.heap.size + 1, 1, none⟩) (Nat.le_succ _) _
        case measure => simp [intOf]; omega
end Go.Proofs.YtokbdleokihdaaaGreatDoor
namespace Go.Proofs.YtokbdleokihdaaaGreatDoor
open Go.RowKit

set_option maxHeartbeats 1000000 in
theorem bigminus_any (ma : Bool) (va : Value) (xs : List Nat) (w : World) (ha : URow w va xs) :
    Calls Tryz.prog 38 #[.agg #[.bool ma, va]] w fun e w' => e = .returned (.agg #[.bool (!ma && decide (0 < xs.length)), va]) ∧ Below w.heap.size w w' := by
  obtain ⟨pa, ca, rfl, -⟩ := ha
  generalize xs.length = n at *
  by_cases h0 : 0 < n
  · cases ma
    · rw [show (!false && decide (0 < n)) = true by simp [h0]]
      go_enter Tryz.func38, Tryz.ntmps38
      go_wp2_with fail
      refine bodyPost_ret (v := .agg #[.bool true, .slice pa n ca]) (by simp [results, Tryz.results38, go_sem]) rfl ⟨rfl, ?_⟩
      exact (boxes2 w _ _ _ _).1
    · rw [show (!true && decide (0 < n)) = false by simp [h0]]
      go_enter Tryz.func38, Tryz.ntmps38
      go_wp2_with fail
      refine bodyPost_ret (v := .agg #[.bool false, .slice pa n ca]) (by simp [results, Tryz.results38, go_sem]) rfl ⟨rfl, ?_⟩
      exact (boxes2 w _ _ _ _).1
  · cases ma
    · rw [show (!false && decide (0 < n)) = false by simp [h0]]
      go_enter Tryz.func38, Tryz.ntmps38
      go_wp2_with fail
      refine bodyPost_ret (v := .agg #[.bool false, .slice pa n ca]) (by simp [results, Tryz.results38, go_sem]) rfl ⟨rfl, ?_⟩
      exact (boxes2 w _ _ _ _).1
    · rw [show (!true && decide (0 < n)) = false by simp [h0]]
      go_enter Tryz.func38, Tryz.ntmps38
      go_wp2_with fail
      refine bodyPost_ret (v := .agg #[.bool false, .slice pa n ca]) (by simp [results, Tryz.results38, go_sem]) rfl ⟨rfl, ?_⟩
      exact (boxes2 w _ _ _ _).1
end Go.Proofs.YtokbdleokihdaaaGreatDoor
namespace Go.Proofs.YtokbdleokihdaaaGreatDoor
open Go.RowKit

/-- The order of two signed rows of digits. -/
def ordB (ma mb : Bool) (n : Int) : Int := if ma = mb then (if ma = true then -n else n) else if ma = true then -1 else 1
theorem down_bd (xs ys : List Nat) : ∀ k, -1 ≤ down xs ys k ∧ down xs ys k ≤ 1
  | 0 => by simp [down]
  | k + 1 => by
    unfold down
    split
    · omega
    · split
      · omega
      · exact down_bd xs ys k
theorem amt_bd (xs ys : List Nat) : -1 ≤ amt xs ys ∧ amt xs ys ≤ 1 := by
  unfold amt
  split
  · omega
  · split
    · omega
    · exact down_bd xs ys _

set_option maxHeartbeats 1000000 in
theorem bigorder_any (ma mb : Bool) (va vb : Value) (xs ys : List Nat) (w : World) (ha : URow w va xs) (hb : URow w vb ys) (hla : xs.length ≤ 3000) (hlb : ys.length ≤ 3000) :
    Calls Tryz.prog 34 #[.agg #[.bool ma, va], .agg #[.bool mb, vb]] w fun e w' => e = .returned (.int .i64 (ordB ma mb (amt xs ys))) ∧ Below w.heap.size w w' := by
  obtain ⟨hB, hz, X1, X2⟩ := boxes2 w #[.bool ma, va] #[.bool mb, vb] 65 65
  have HBB := Lib.hid hB
  obtain ⟨pa, ca, rfl, -, ha'⟩ := id ha
  obtain ⟨pb, cb, rfl, -, hb'⟩ := id hb
  have HA := Lib.hid (fun W (hW : Below w.heap.size w W) => amounts_any ma mb _ _ xs ys W ((show URow w _ xs from ha).below hW) ((show URow w _ ys from hb).below hW) hla hlb)
  have hbd := amt_bd xs ys
  generalize amt xs ys = n at *
  have HBD := Lib.hid hbd
  clear ha hb ha' hb' hbd hB
  rcases ma with _ | _ <;> rcases mb with _ | _
  · go_enter Tryz.func34, Tryz.ntmps34
    go_wp2_with fail
    refine (HA.out _ HBB.out).mono ?_
    rintro e w1 ⟨rfl, hb1⟩
    have c0 : w1.cell? ⟨w.heap.size, 0, none⟩ = some (.bool false) := by rw [hb1.cell (p := ⟨w.heap.size, 0, none⟩) (by rw [hz]; show w.heap.size < _; omega), X1]; rfl
    have HB1 := Lib.hid (HBB.out.trans (hb1.mono (by rw [hz]; omega)))
    have hneg : wrap64 (0 - n) = -n := by have := HBD.out; unfold wrap64; omega
    have hneg2 : wrap64 (-n) = -n := by have := HBD.out; unfold wrap64; omega
    clear hb1 X1 X2
    go_wp2_with fail
    go_ret
    exact ⟨ret_int (by first | rfl | (rw [hneg]; rfl) | (rw [hneg2]; rfl) | (simp [ordB, hneg, hneg2])), HB1.out⟩
  · clear HA
    go_enter Tryz.func34, Tryz.ntmps34
    go_wp2_with fail
    go_ret
    exact ⟨rfl, HBB.out⟩
  · clear HA
    go_enter Tryz.func34, Tryz.ntmps34
    go_wp2_with fail
    go_ret
    exact ⟨rfl, HBB.out⟩
  · go_enter Tryz.func34, Tryz.ntmps34
    go_wp2_with fail
    refine (HA.out _ HBB.out).mono ?_
    rintro e w1 ⟨rfl, hb1⟩
    have c0 : w1.cell? ⟨w.heap.size, 0, none⟩ = some (.bool true) := by rw [hb1.cell (p := ⟨w.heap.size, 0, none⟩) (by rw [hz]; show w.heap.size < _; omega), X1]; rfl
    have HB1 := Lib.hid (HBB.out.trans (hb1.mono (by rw [hz]; omega)))
    have hneg : wrap64 (0 - n) = -n := by have := HBD.out; unfold wrap64; omega
    have hneg2 : wrap64 (-n) = -n := by have := HBD.out; unfold wrap64; omega
    clear hb1 X1 X2
    go_wp2_with fail
    go_ret
    exact ⟨ret_int (by first | rfl | (rw [hneg]; rfl) | (rw [hneg2]; rfl) | (simp [ordB, hneg, hneg2])), HB1.out⟩
end Go.Proofs.YtokbdleokihdaaaGreatDoor

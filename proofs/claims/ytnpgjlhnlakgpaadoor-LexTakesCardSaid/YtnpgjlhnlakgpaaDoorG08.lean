/- The document's big numbers: their digits; the contract of big. The document's Amounts: two rows of digits held against each other. The document's trimmed: no zero at the top. The document's Minus: the negative. -/
import Derived.Test.YtnpgjlhnlakgpaaDoorKeep
import Derived.Test.YtnpgjlhnlakgpaaDoorProg
import Derived.Test.YtnpgjlhnlakgpaaDoorG01
import Derived.WalkKit
namespace Go.Proofs.YtnpgjlhnlakgpaaDoor
open Go.RowKit

/-- The digits of a number, the lowest first, at most so many. -/
def digsF : Nat → Nat → List Nat
  | 0, _ => []
  | f + 1, n => if n = 0 then [] else n % 1000000 :: digsF f (n / 1000000)
theorem digsF_zero (f : Nat) : digsF f 0 = [] := by cases f <;> rfl
theorem digsF_len : ∀ f n, (digsF f n).length ≤ f
  | 0, _ => Nat.le_refl _
  | f + 1, n => by
    unfold digsF
    split
    · simp
    · simp; exact digsF_len f _
/-- Digits as the cells of a row. -/
def u64s (ds : List Nat) : List Value := ds.map fun d : Nat => Value.int .u64 (d : Int)
theorem u64info : (Tryd.prog.info? 98).map (fun i => (i.zero, i.size, i.bytes)) = some (some (.int .u64 0), 1, 8) := by kernel_rfl

theorem owns_down {w : World} {B B' : Nat} {e : TypeId} {k : Nat} {v : Value} {n : Nat} {xs : List Value} (h : w.ownsRow B e k v n xs) (hb : B' ≤ B) : w.ownsRow B' e k v n xs := by
  refine ⟨h.1, ?_⟩
  rcases h.2 with h | ⟨g, cap, cur, h1, h2, h3⟩
  · exact .inl h
  · exact .inr ⟨g, cap, cur, h1, Nat.le_trans hb h2, h3⟩
theorem owns_slice {w : World} {B : Nat} {e : TypeId} {k : Nat} {v : Value} {n : Nat} {xs : List Value} (h : w.ownsRow B e k v n xs) : ∃ p ln cp, v = .slice p ln cp := by
  rcases h.2 with ⟨rfl, _⟩ | ⟨g, cap, cur, rfl, _⟩
  · exact ⟨_, _, _, rfl⟩
  · exact ⟨_, _, _, rfl⟩
end Go.Proofs.YtnpgjlhnlakgpaaDoor
namespace Go.Proofs.YtnpgjlhnlakgpaaDoor
open Go.RowKit

/-- A slice of digits, to be read. -/
def URow (W : World) (v : Value) (ds : List Nat) : Prop :=
  ∃ p cap, v = .slice p ds.length cap ∧ ds.length ≤ cap ∧ (ds = [] ∨ ∃ g, p = some ⟨g, 0, none⟩ ∧ g < W.heap.size ∧ ∀ j, j < ds.length → W.cell? ⟨g, j, none⟩ = some (.int .u64 ((ds.getD j 0 : Nat) : Int)))
theorem URow.below {W W' : World} {v : Value} {ds : List Nat} (h : URow W v ds) (hb : Below W.heap.size W W') : URow W' v ds := by
  obtain ⟨p, cap, rfl, hl, h⟩ := h
  refine ⟨p, cap, rfl, hl, ?_⟩
  rcases h with h | ⟨g, rfl, hg, hc⟩
  · exact .inl h
  · exact .inr ⟨g, rfl, by have := hb.size; omega, fun j hj => by rw [hb.cell (p := ⟨g, j, none⟩) hg]; exact hc j hj⟩
/-- A row that was made is a row that can be read. -/
theorem URow.of_owns {W : World} {B : Nat} {v : Value} {ds : List Nat} (h : W.ownsRow B 98 1 v ds.length (u64s ds)) : URow W v ds := by
  rcases h.2 with ⟨rfl, h0⟩ | ⟨g, cap, cur, rfl, -, hg, hn, -, hsz, htk⟩
  · exact ⟨none, 0, by rw [h0], by omega, .inl (List.eq_nil_of_length_eq_zero h0)⟩
  · refine ⟨_, cap, rfl, hn, .inr ⟨g, rfl, (Array.getElem?_eq_some_iff.1 hg).1, fun j hj => ?_⟩⟩
    have h1 : (u64s ds)[j]? = some (.int .u64 ((ds.getD j 0 : Nat) : Int)) := by
      unfold u64s
      rw [List.getElem?_map, List.getElem?_eq_getElem hj]
      simp [List.getD_eq_getElem?_getD, List.getElem?_eq_getElem hj]
    rw [← htk, List.getElem?_take_of_lt (by omega)] at h1
    simp [World.cell?, hg]
    simpa using h1
/-- Digits from the highest of so many down. -/
def down (xs ys : List Nat) : Nat → Int
  | 0 => 0
  | k + 1 => if xs.getD k 0 < ys.getD k 0 then -1 else if ys.getD k 0 < xs.getD k 0 then 1 else down xs ys k
def amt (xs ys : List Nat) : Int := if xs.length < ys.length then -1 else if ys.length < xs.length then 1 else down xs ys xs.length

set_option maxRecDepth 100000 in
set_option maxHeartbeats 2000000 in
theorem amounts_any (ma mb : Bool) (va vb : Value) (xs ys : List Nat) (w : World) (ha : URow w va xs) (hb : URow w vb ys) (hla : xs.length ≤ 3000) (hlb : ys.length ≤ 3000) :
    Calls Tryd.prog 141 #[.agg #[.bool ma, va], .agg #[.bool mb, vb]] w fun e w' => e = .returned (.int .i64 (amt xs ys)) ∧ Below w.heap.size w w' := by
  obtain ⟨pa, ca, rfl, -, ha⟩ := ha
  obtain ⟨pb, cb, rfl, -, hb⟩ := hb
  have HV := Lib.hid (show amt xs ys = if xs.length < ys.length then -1 else if ys.length < xs.length then 1 else down xs ys xs.length from rfl)
  have HA := Lib.hid ha
  have HB := Lib.hid hb
  clear ha hb
  obtain ⟨hB, hz, X1, X2⟩ := boxes2 w #[.bool ma, .slice pa xs.length ca] #[.bool mb, .slice pb ys.length cb] 149 149
  have HBB := Lib.hid hB
  generalize hna : xs.length = na at *
  generalize hnb : ys.length = nb at *
  have HNA := Lib.hid hna
  have HNB := Lib.hid hnb
  clear hna hnb hB
  rcases Nat.lt_trichotomy na nb with h | h | h
  · have HE : Hid (amt xs ys = -1) := by show _ = _; rw [HV.out, if_pos h]
    rw [HE.out]
    clear HE HV HA HB
    have hne : na ≠ nb := by omega
    go_enter Tryd.func141, Tryd.ntmps141
    go_wp2_with fail
    go_ret
    exact ⟨rfl, HBB.out⟩
  · subst h
    have HV2 : Hid (amt xs ys = down xs ys na) := by show _ = _; rw [HV.out, if_neg (by omega), if_neg (by omega)]
    clear HV
    go_enter Tryd.func141, Tryd.ntmps141
    go_wp2_with fail
    have x1 := X1 1
    have x2 := X2 1
    generalize ((w.alloc (.cells #[.bool ma, .slice pa na ca] 149)).alloc (.cells #[.bool mb, .slice pb na cb] 149)) = W0 at *
    have hx1 : W0.cell? ⟨w.heap.size, 1, none⟩ = some (.slice pa na ca) := by rw [x1]; rfl
    have hx2 : W0.cell? ⟨w.heap.size + 1, 1, none⟩ = some (.slice pb na cb) := by rw [x2]; rfl
    have hz2 : w.heap.size + 1 < W0.heap.size := by omega
    clear x1 x2 X1 X2 hz
    go_loopw [5] (fun i wr => ∃ k : Nat, k ≤ na ∧ i = .int .i64 ((k : Int) - 1) ∧ Below W0.heap.size W0 wr ∧ down xs ys na = down xs ys k) (fun i _ => (intOf i + 1).toNat)
    case atStart => exact ⟨na, Nat.le_refl _, by go_num, Below.refl _ _, rfl⟩
    case round =>
      obtain ⟨k, hk, rfl, hbl, hdn⟩ := hrel
      have HD := Lib.hid hdn
      have HL := Lib.hid hbl
      have y1 : wr.cell? ⟨w.heap.size, 1, none⟩ = some (.slice pa na ca) := by rw [hbl.cell (p := ⟨w.heap.size, 1, none⟩) (by show w.heap.size < _; omega)]; exact hx1
      have y2 : wr.cell? ⟨w.heap.size + 1, 1, none⟩ = some (.slice pb na cb) := by rw [hbl.cell (p := ⟨w.heap.size + 1, 1, none⟩) (by show w.heap.size + 1 < _; omega)]; exact hx2
      clear hbl hdn hx1 hx2
      cases k with
      | zero =>
        have HE : Hid (amt xs ys = 0) := by show _ = _; rw [HV2.out, HD.out]; rfl
        go_wp2_with fail
        go_ret
        exact ⟨ret_int HE.out.symm, HBB.out.trans (HL.out.mono (by omega))⟩
      | succ k =>
        rw [show (((k + 1 : Nat) : Int) - 1) = (k : Int) by omega]
        have hxs : xs ≠ [] := fun e => by have := HNA.out; rw [e] at this; simp at this; omega
        have hys : ys ≠ [] := fun e => by have := HNB.out; rw [e] at this; simp at this; omega
        obtain ⟨ga, rfl, hga, hca⟩ := HA.out.resolve_left hxs
        obtain ⟨gb, rfl, hgb, hcb⟩ := HB.out.resolve_left hys
        have hwW := HBB.out.size
        have z1 : wr.cell? ⟨ga, k, none⟩ = some (.int .u64 ((xs.getD k 0 : Nat) : Int)) := by rw [(HBB.out.trans (HL.out.mono (by omega))).cell (p := ⟨ga, k, none⟩) hga]; exact hca k (by omega)
        have z2 : wr.cell? ⟨gb, k, none⟩ = some (.int .u64 ((ys.getD k 0 : Nat) : Int)) := by rw [(HBB.out.trans (HL.out.mono (by omega))).cell (p := ⟨gb, k, none⟩) hgb]; exact hcb k (by omega)
        have HK := Lib.hid (show down xs ys (k + 1) = if xs.getD k 0 < ys.getD k 0 then -1 else if ys.getD k 0 < xs.getD k 0 then 1 else down xs ys k from rfl)
        have hkn : k < na := by omega
        clear hca hcb hxs hys
        generalize xs.getD k 0 = dx at *
        generalize ys.getD k 0 = dy at *
        rcases Nat.lt_trichotomy dx dy with h1 | h1 | h1
        · have HE : Hid (amt xs ys = -1) := by show _ = _; rw [HV2.out, HD.out, HK.out, if_pos h1]
          go_wp2_with fail
          go_quiet (fail)
          go_wp2_with fail
          go_ret
          exact ⟨ret_int HE.out.symm, (HBB.out.trans (HL.out.mono (by omega))).trans ((below_drewN _).mono (by have := HL.out.size; omega))⟩
        · subst h1
          have HE : Hid (down xs ys na = down xs ys k) := by show _ = _; rw [HD.out, HK.out, if_neg (by omega), if_neg (by omega)]
          go_wp2_with fail
          go_quiet (fail)
          go_wp2_with fail
          go_quiet (fail)
          go_wp2_with fail
          go_roundw
          case rel => exact ⟨k, by omega, by go_num, HL.out.trans ((below_drewN _).mono HL.out.size), HE.out⟩
          case measure => simp [intOf]
        · have HE : Hid (amt xs ys = 1) := by show _ = _; rw [HV2.out, HD.out, HK.out, if_neg (by omega), if_pos h1]
          go_wp2_with fail
          go_quiet (fail)
          go_wp2_with fail
          go_quiet (fail)
          go_wp2_with fail
          go_ret
          exact ⟨ret_int HE.out.symm, ((HBB.out.trans (HL.out.mono (by omega))).trans ((below_drewN _).mono (Nat.le_trans hwW HL.out.size))).trans ((below_drewN _).mono (Nat.le_trans hwW HL.out.size))⟩
  · have HE : Hid (amt xs ys = 1) := by show _ = _; rw [HV.out, if_neg (by omega), if_pos h]
    rw [HE.out]
    clear HE HV HA HB
    have hne : na ≠ nb := by omega
    go_enter Tryd.func141, Tryd.ntmps141
    go_wp2_with fail
    go_ret
    exact ⟨rfl, HBB.out⟩
end Go.Proofs.YtnpgjlhnlakgpaaDoor
namespace Go.Proofs.YtnpgjlhnlakgpaaDoor
open Go.RowKit

/-- How many digits stay, of the first so many. -/
def tlen (ds : List Nat) : Nat → Nat
  | 0 => 0
  | k + 1 => if ds.getD k 0 = 0 then tlen ds k else k + 1
theorem tlen_le (ds : List Nat) : ∀ k, tlen ds k ≤ k
  | 0 => Nat.le_refl _
  | k + 1 => by
    unfold tlen
    split
    · have := tlen_le ds k; omega
    · exact Nat.le_refl _

set_option maxRecDepth 100000 in
set_option maxHeartbeats 2000000 in
theorem trimmed_any (ma : Bool) (va : Value) (xs : List Nat) (w : World) (ha : URow w va xs) (hla : xs.length ≤ 3000) :
    Calls Tryd.prog 143 #[.agg #[.bool ma, va]] w fun e w' => ∃ v, e = .returned (.agg #[.bool (ma && decide (0 < tlen xs xs.length)), v]) ∧ URow w' v (xs.take (tlen xs xs.length)) ∧ Below w.heap.size w w' := by
  obtain ⟨pa, ca, rfl, hca, ha⟩ := ha
  have HA := Lib.hid ha
  clear ha
  obtain ⟨hB, hz, X1, X2⟩ := boxes2 w #[.bool ma, .slice pa xs.length ca] #[.bool false, .slice none 0 0] 149 149
  have HBB := Lib.hid hB
  generalize hna : xs.length = na at *
  have HNA := Lib.hid hna
  clear hna hB
  go_enter Tryd.func143, Tryd.ntmps143
  go_wp2_with fail
  have x0 := X1 0
  have x1 := X1 1
  have y0 := X2 0
  have y1 := X2 1
  have hf : ∀ i, ((w.alloc (.cells #[.bool ma, .slice pa na ca] 149)).alloc (.cells #[.bool false, .slice none 0 0] 149)).frozen? ⟨w.heap.size + 1, i, none⟩ = false := fun i => World.frozen?_alloc_at _ _ _ _ (by simp)
  have f0 := hf 0
  have f1 := hf 1
  clear hf X1 X2
  generalize ((w.alloc (.cells #[.bool ma, .slice pa na ca] 149)).alloc (.cells #[.bool false, .slice none 0 0] 149)) = W0 at *
  have hx0 : W0.cell? ⟨w.heap.size, 0, none⟩ = some (.bool ma) := by rw [x0]; rfl
  have hx1 : W0.cell? ⟨w.heap.size, 1, none⟩ = some (.slice pa na ca) := by rw [x1]; rfl
  have hy0 : W0.cell? ⟨w.heap.size + 1, 0, none⟩ = some (.bool false) := by rw [y0]; rfl
  have hy1 : W0.cell? ⟨w.heap.size + 1, 1, none⟩ = some (.slice none 0 0) := by rw [y1]; rfl
  clear x0 x1 y0 y1
  go_loopw [3] (fun i wr => ∃ k : Nat, k ≤ na ∧ i = .int .i64 (k : Int) ∧ wr = W0 ∧ tlen xs na = tlen xs k) (fun i _ => (intOf i).toNat)
  case atStart => exact ⟨na, Nat.le_refl _, rfl, rfl, rfl⟩
  case round =>
    obtain ⟨k, hk, rfl, rfl, hdn⟩ := hrel
    have HD := Lib.hid hdn
    clear hdn
    cases k with
    | zero =>
      have HE : Hid (tlen xs na = 0) := HD.out
      rcases pa with _ | pa
      · cases ma
        all_goals
          go_wp2_with fail
          first | (go_region_with fail) | fail
          go_wp2_with fail
        all_goals
          refine bodyPost_ret (v := .agg #[.bool false, .slice none 0 ca]) (by simp [results, Tryd.results143, go_sem, hy0, hy1]) rfl ⟨.slice none 0 ca, by rw [HE.out]; rfl, ?_, ?_⟩
          · rw [HE.out]; exact ⟨_, ca, rfl, Nat.zero_le _, .inl rfl⟩
          · exact ((HBB.out.setCell (p := ⟨w.heap.size + 1, 0, none⟩) (Nat.le_succ _) _).setCell (p := ⟨w.heap.size + 1, 1, none⟩) (Nat.le_succ _) _).drew
      · cases ma
        all_goals
          go_wp2_with fail
          first | (go_region_with fail) | fail
          go_wp2_with fail
        all_goals
          refine bodyPost_ret (v := .agg #[.bool false, .slice (some pa) 0 ca]) (by simp [results, Tryd.results143, go_sem, hy0, hy1]) rfl ⟨.slice (some pa) 0 ca, by rw [HE.out]; rfl, ?_, ?_⟩
          · rw [HE.out]; exact ⟨_, ca, rfl, Nat.zero_le _, .inl rfl⟩
          · exact ((HBB.out.setCell (p := ⟨w.heap.size + 1, 0, none⟩) (Nat.le_succ _) _).setCell (p := ⟨w.heap.size + 1, 1, none⟩) (Nat.le_succ _) _).drew
    | succ k =>
      have hxs : xs ≠ [] := fun e => by have := HNA.out; rw [e] at this; simp at this; omega
      obtain ⟨ga, rfl, hga, hca2⟩ := HA.out.resolve_left hxs
      have z1 : wr.cell? ⟨ga, k, none⟩ = some (.int .u64 ((xs.getD k 0 : Nat) : Int)) := by rw [HBB.out.cell (p := ⟨ga, k, none⟩) hga]; exact hca2 k (by omega)
      have HK := Lib.hid (show tlen xs (k + 1) = if xs.getD k 0 = 0 then tlen xs k else k + 1 from rfl)
      have hkn : k < na := by omega
      have HCA := Lib.hid hca2
      clear hca2 hxs
      generalize xs.getD k 0 = dx at *
      by_cases h1 : dx = 0
      · subst h1
        have HE : Hid (tlen xs na = tlen xs k) := by show _ = _; rw [HD.out, HK.out, if_pos rfl]
        go_wp2_with fail
        go_roundw
        case rel => exact ⟨k, by omega, rfl, trivial, HE.out⟩
        case measure => simp [intOf]
      · have HE : Hid (tlen xs na = k + 1) := by show _ = _; rw [HD.out, HK.out, if_neg h1]
        cases ma
        · go_wp2_with fail
          first | (go_region_with fail) | fail
          go_wp2_with fail
          all_goals
            refine bodyPost_ret (v := .agg #[.bool false, .slice (some ⟨ga, 0, none⟩) (k + 1) ca]) (by simp [results, Tryd.results143, go_sem, hy0, hy1]) rfl ⟨.slice (some ⟨ga, 0, none⟩) (k + 1) ca, by rw [HE.out]; simp, ?_, ?_⟩
            · rw [HE.out]
              have hl : (xs.take (k + 1)).length = k + 1 := by rw [List.length_take, HNA.out]; omega
              refine ⟨_, ca, by rw [hl], by rw [hl]; omega, .inr ⟨ga, rfl, ?_, fun j hj => ?_⟩⟩
              · exact Nat.lt_of_lt_of_le hga ((HBB.out.setCell (p := ⟨w.heap.size + 1, 0, none⟩) (Nat.le_succ _) _).setCell (p := ⟨w.heap.size + 1, 1, none⟩) (Nat.le_succ _) _).drew.size
              · rw [hl] at hj
                refine Eq.trans (Below.cell ((HBB.out.setCell (p := ⟨w.heap.size + 1, 0, none⟩) (Nat.le_succ _) _).setCell (p := ⟨w.heap.size + 1, 1, none⟩) (Nat.le_succ _) _).drew (p := ⟨ga, j, none⟩) hga) ?_
                rw [HCA.out j (by omega)]
                simp [List.getD_eq_getElem?_getD, List.getElem?_take_of_lt hj]
            · exact ((HBB.out.setCell (p := ⟨w.heap.size + 1, 0, none⟩) (Nat.le_succ _) _).setCell (p := ⟨w.heap.size + 1, 1, none⟩) (Nat.le_succ _) _).drew
        · go_wp2_with fail
          first | (go_region_with fail) | fail
          go_wp2_with fail
          all_goals
            refine bodyPost_ret (v := .agg #[.bool true, .slice (some ⟨ga, 0, none⟩) (k + 1) ca]) (by simp [results, Tryd.results143, go_sem, hy0, hy1]) rfl ⟨.slice (some ⟨ga, 0, none⟩) (k + 1) ca, by rw [HE.out]; simp, ?_, ?_⟩
            · rw [HE.out]
              have hl : (xs.take (k + 1)).length = k + 1 := by rw [List.length_take, HNA.out]; omega
              refine ⟨_, ca, by rw [hl], by rw [hl]; omega, .inr ⟨ga, rfl, ?_, fun j hj => ?_⟩⟩
              · exact Nat.lt_of_lt_of_le hga ((HBB.out.setCell (p := ⟨w.heap.size + 1, 0, none⟩) (Nat.le_succ _) _).setCell (p := ⟨w.heap.size + 1, 1, none⟩) (Nat.le_succ _) _).drew.size
              · rw [hl] at hj
                refine Eq.trans (Below.cell ((HBB.out.setCell (p := ⟨w.heap.size + 1, 0, none⟩) (Nat.le_succ _) _).setCell (p := ⟨w.heap.size + 1, 1, none⟩) (Nat.le_succ _) _).drew (p := ⟨ga, j, none⟩) hga) ?_
                rw [HCA.out j (by omega)]
                simp [List.getD_eq_getElem?_getD, List.getElem?_take_of_lt hj]
            · exact ((HBB.out.setCell (p := ⟨w.heap.size + 1, 0, none⟩) (Nat.le_succ _) _).setCell (p := ⟨w.heap.size + 1, 1, none⟩) (Nat.le_succ _) _).drew
end Go.Proofs.YtnpgjlhnlakgpaaDoor
namespace Go.Proofs.YtnpgjlhnlakgpaaDoor
open Go.RowKit

set_option maxHeartbeats 1000000 in
theorem bigminus_any (ma : Bool) (va : Value) (xs : List Nat) (w : World) (ha : URow w va xs) :
    Calls Tryd.prog 123 #[.agg #[.bool ma, va]] w fun e w' => e = .returned (.agg #[.bool (!ma && decide (0 < xs.length)), va]) ∧ Below w.heap.size w w' := by
  obtain ⟨pa, ca, rfl, -⟩ := ha
  generalize xs.length = n at *
  by_cases h0 : 0 < n
  · cases ma
    · rw [show (!false && decide (0 < n)) = true by simp [h0]]
      go_enter Tryd.func123, Tryd.ntmps123
      go_wp2_with fail
      refine bodyPost_ret (v := .agg #[.bool true, .slice pa n ca]) (by simp [results, Tryd.results123, go_sem]) rfl ⟨rfl, ?_⟩
      exact (boxes2 w _ _ _ _).1
    · rw [show (!true && decide (0 < n)) = false by simp [h0]]
      go_enter Tryd.func123, Tryd.ntmps123
      go_wp2_with fail
      refine bodyPost_ret (v := .agg #[.bool false, .slice pa n ca]) (by simp [results, Tryd.results123, go_sem]) rfl ⟨rfl, ?_⟩
      exact (boxes2 w _ _ _ _).1
  · cases ma
    · rw [show (!false && decide (0 < n)) = false by simp [h0]]
      go_enter Tryd.func123, Tryd.ntmps123
      go_wp2_with fail
      refine bodyPost_ret (v := .agg #[.bool false, .slice pa n ca]) (by simp [results, Tryd.results123, go_sem]) rfl ⟨rfl, ?_⟩
      exact (boxes2 w _ _ _ _).1
    · rw [show (!true && decide (0 < n)) = false by simp [h0]]
      go_enter Tryd.func123, Tryd.ntmps123
      go_wp2_with fail
      refine bodyPost_ret (v := .agg #[.bool false, .slice pa n ca]) (by simp [results, Tryd.results123, go_sem]) rfl ⟨rfl, ?_⟩
      exact (boxes2 w _ _ _ _).1
end Go.Proofs.YtnpgjlhnlakgpaaDoor

/- The document's Of: the digits of an amount, and the sign. -/
import Derived.Test.YtnpgjlhnlakgpaaDoorG08
namespace Go.Proofs.YtnpgjlhnlakgpaaDoor
open Go.RowKit

set_option maxRecDepth 100000 in
set_option maxHeartbeats 4000000 in
theorem bigof_any (i : Int) (h0 : -9223372036854775808 ≤ i) (h1 : i ≤ 9223372036854775807) (w : World) :
    Calls Tryd.prog 121 #[.int .i64 i] w fun e w' => ∃ v, e = .returned (.agg #[.bool (decide (i < 0)), v]) ∧ w'.ownsRow w.heap.size 98 1 v (digsF 4 i.natAbs).length (u64s (digsF 4 i.natAbs)) ∧ Below w.heap.size w w' := by
  obtain ⟨i0, hi, hz0, hz1, hz2⟩ := info_parts u64info
  obtain ⟨n, hnn⟩ : ∃ n, n = i.natAbs := ⟨_, rfl⟩
  have hn : n < 18446744073709551616 := by omega
  rw [← hnn]
  cases hs : decide (i < 0)
  · have hw1 : IntKind.u64.wrap i = (n : Int) := by rw [IntKind.wrap_u64]; simp at hs; omega
    go_enter Tryd.func121, Tryd.ntmps121
    go_wp2_with fail
    go_loopw [3] (fun nv wr => ∃ (m f : Nat) (ds : List Nat) (v : Value), nv = .int .u64 (m : Int) ∧ digsF 4 n = ds ++ digsF f m ∧ ds.length + f = 4 ∧ m < 18446744073709551616 ∧ m < 1000000 ^ f ∧
        wr.ownsRow (w.heap.size + 2) 98 1 v ds.length (u64s ds) ∧ wr.cell? ⟨w.heap.size + 1, 0, none⟩ = some (.bool false) ∧ wr.cell? ⟨w.heap.size + 1, 1, none⟩ = some v ∧ wr.frozen? ⟨w.heap.size + 1, 1, none⟩ = false ∧
        wr.cell? ⟨w.heap.size, 0, none⟩ = some (.bool false) ∧ wr.cell? ⟨w.heap.size, 1, none⟩ = some (.slice none 0 0) ∧ wr.frozen? ⟨w.heap.size, 0, none⟩ = false ∧ wr.frozen? ⟨w.heap.size, 1, none⟩ = false ∧ Below w.heap.size w wr)
      (fun nv _ => (intOf nv).toNat)
    case atStart =>
      obtain ⟨hB, -, X1, X2⟩ := boxes2 w #[.bool false, .slice none 0 0] #[.bool false, .slice none 0 0] 149 149
      exact ⟨n, 4, [], .slice none 0 0, by rw [hnn], by simp, rfl, hn, Nat.lt_of_lt_of_le hn (by decide), World.ownsRow_nil _ _ _ _, by rw [X2]; rfl, by rw [X2]; rfl, World.frozen?_alloc_at _ _ _ _ (by simp), by rw [X1]; rfl, by rw [X1]; rfl, by rw [World.frozen?_alloc_past _ _ _ (by simp)]; exact World.frozen?_alloc_new .., by rw [World.frozen?_alloc_past _ _ _ (by simp)]; exact World.frozen?_alloc_new .., hB⟩
    case round =>
      obtain ⟨m, f, ds, v, rfl, hdg, hlen, hm64, hmf, hown, c0, c1, f1, r0, r1, g0, g1, hB⟩ := hrel
      have HB := Lib.hid hB
      have HD := Lib.hid hdg
      have HO := Lib.hid hown
      have hzw : w.heap.size + 1 < wr.heap.size := World.block_lt_of_cell? wr _ c0
      obtain ⟨p, ln, cp, rfl⟩ := owns_slice hown
      clear hB hdg
      by_cases h0 : m = 0
      · subst h0
        have HE : Hid (digsF 4 n = ds) := by show _ = _; rw [HD.out, digsF_zero, List.append_nil]
        clear hown
        go_wp2_with fail
        refine bodyPost_ret (v := .agg #[.bool false, .slice p ln cp]) (by simp [results, Tryd.results121, go_sem, r0, r1]) rfl ⟨_, rfl, ?_, ?_⟩
        · rw [HE.out]
          exact owns_down (ownsRow_setCell_below (ownsRow_setCell_below HO.out (by show w.heap.size < w.heap.size + 2; omega) _) (by show w.heap.size < w.heap.size + 2; omega) _) (by omega)
        · exact (HB.out.setCell (p := ⟨w.heap.size, 0, none⟩) (Nat.le_refl _) _).setCell (p := ⟨w.heap.size, 1, none⟩) (Nat.le_refl _) _
      · have hpos : 0 < m := by omega
        have e1 : ((m : Int)).tmod 1000000 = ((m % 1000000 : Nat) : Int) := by rw [Int.tmod_eq_emod_of_nonneg (by omega)]; omega
        have e2 : ((m : Int)).tdiv 1000000 = ((m / 1000000 : Nat) : Int) := by rw [Int.tdiv_eq_ediv_of_nonneg (by omega)]; omega
        go_wp2_with (at_builtin; refine wpList_append_own _ rfl _ _ 147 rfl (w.heap.size + 2) 98 i0 (.int .u64 0) 1 8 Tryd.underlying147 hi hz0 hz1 hz2 rfl (by decide) _ _ _ rfl (HO.out.alloc _) ⟨wr.heap.size, 0, none⟩ 1 1 [.int .u64 ((m : Int) % 1000000)] rfl rfl ?c1 ?c2 ?c3 ?c4 ?c5 ?_)
        case c1 =>
          intro j u hj
          match j, hj with
          | 0, hj => simp at hj; subst hj; simp [Addr.add]
        case c2 => intro u hu; simp at hu; subst hu; rfl
        case c3 => unfold maxLen; omega
        case c4 => omega
        case c5 => simp; omega
        intro v' w1 hown' hgrow _
        obtain ⟨p', ln', cp', rfl⟩ := owns_slice hown'
        have hne : ∀ j, j < w.heap.size + 2 → some j ≠ (Value.slice p ln cp).ownBlock := fun j hj h => by have := HO.out.lt j h.symm; omega
        have C0 := Lib.hid (hgrow.cell ((World.cell?_alloc_past _ _ _ (by show w.heap.size + 1 < _; omega)).trans c0) (hne (w.heap.size + 1) (by omega)))
        have C1 := Lib.hid (hgrow.cell ((World.cell?_alloc_past _ _ _ (by show w.heap.size + 1 < _; omega)).trans c1) (hne (w.heap.size + 1) (by omega)))
        have R0 := Lib.hid (hgrow.cell ((World.cell?_alloc_past _ _ _ (by show w.heap.size < _; omega)).trans r0) (hne w.heap.size (by omega)))
        have R1 := Lib.hid (hgrow.cell ((World.cell?_alloc_past _ _ _ (by show w.heap.size < _; omega)).trans r1) (hne w.heap.size (by omega)))
        have F1 : Hid (w1.frozen? ⟨w.heap.size + 1, 1, none⟩ = false) := by
          show _ = _
          rw [World.frozen?_of_block (w := wr.alloc _) (hgrow.block (w.heap.size + 1) (by simp; omega) (hne (w.heap.size + 1) (by omega)))]
          exact (World.frozen?_alloc_past _ _ _ (by show w.heap.size + 1 < _; omega)).trans f1
        have G0 : Hid (w1.frozen? ⟨w.heap.size, 0, none⟩ = false) := by
          show _ = _
          rw [World.frozen?_of_block (w := wr.alloc _) (hgrow.block w.heap.size (by simp; omega) (hne w.heap.size (by omega)))]
          exact (World.frozen?_alloc_past _ _ _ (by show w.heap.size < _; omega)).trans g0
        have G1 : Hid (w1.frozen? ⟨w.heap.size, 1, none⟩ = false) := by
          show _ = _
          rw [World.frozen?_of_block (w := wr.alloc _) (hgrow.block w.heap.size (by simp; omega) (hne w.heap.size (by omega)))]
          exact (World.frozen?_alloc_past _ _ _ (by show w.heap.size < _; omega)).trans g1
        have HB1 := Lib.hid ((HB.out.alloc (by omega) _).grown hgrow (by simp; omega) (fun j hj => by have := (HO.out.lt j hj).1; omega))
        have HO1 := Lib.hid hown'
        obtain ⟨f, rfl⟩ : ∃ g, f = g + 1 := by
          cases f with
          | zero => simp at hmf; omega
          | succ g => exact ⟨g, rfl⟩
        have HD2 : Hid (digsF 4 n = (ds ++ [m % 1000000]) ++ digsF f (m / 1000000)) := by
          show _ = _
          rw [HD.out, List.append_assoc]
          have : digsF (f + 1) m = m % 1000000 :: digsF f (m / 1000000) := by rw [digsF, if_neg h0]
          rw [this]; rfl
        have HM2 : Hid (m / 1000000 < 1000000 ^ f) := by
          show _ < _
          rw [Nat.div_lt_iff_lt_mul (by omega)]
          rwa [Nat.pow_succ] at hmf
        clear hown' hgrow hne c0 c1 r0 r1 f1 g0 g1 hown HO HB HD hmf
        have k1 := C1.out
        have k2 := F1.out
        go_wp2_with fail
        go_roundw
        case rel =>
          refine ⟨m / 1000000, f, ds ++ [m % 1000000], .slice p' ln' cp', by go_num, HD2.out, by simp; omega, by omega, HM2.out, ?_, ?_, ?_, ?_, ?_, ?_, ?_, ?_, ?_⟩
          · have := ownsRow_setCell_below HO1.out (a := ⟨w.heap.size + 1, 1, none⟩) (by show w.heap.size + 1 < w.heap.size + 2; omega) (.slice p' ln' cp')
            simpa [u64s] using this
          · rw [World.cell?_setCell_other (h := by simp)]; exact C0.out
          · exact World.cell?_setCell_same _ _ _ C1.out
          · rw [World.frozen?_setCell]; exact F1.out
          · rw [World.cell?_setCell_other (h := by simp)]; exact R0.out
          · rw [World.cell?_setCell_other (h := by simp)]; exact R1.out
          · rw [World.frozen?_setCell]; exact G0.out
          · rw [World.frozen?_setCell]; exact G1.out
          · exact HB1.out.setCell (p := ⟨w.heap.size + 1, 1, none⟩) (Nat.le_succ _) _
        case measure => simp [intOf]; omega
  · have hw1 : IntKind.u64.wrap i = i + 18446744073709551616 := by rw [IntKind.wrap_u64]; simp at hs; omega
    have hw2 : IntKind.u64.wrap (-(i + 18446744073709551616)) = (n : Int) := by rw [IntKind.wrap_u64]; simp at hs; omega
    go_enter Tryd.func121, Tryd.ntmps121
    go_wp2_with fail
    go_loopw [3] (fun nv wr => ∃ (m f : Nat) (ds : List Nat) (v : Value), nv = .int .u64 (m : Int) ∧ digsF 4 n = ds ++ digsF f m ∧ ds.length + f = 4 ∧ m < 18446744073709551616 ∧ m < 1000000 ^ f ∧
        wr.ownsRow (w.heap.size + 2) 98 1 v ds.length (u64s ds) ∧ wr.cell? ⟨w.heap.size + 1, 0, none⟩ = some (.bool true) ∧ wr.cell? ⟨w.heap.size + 1, 1, none⟩ = some v ∧ wr.frozen? ⟨w.heap.size + 1, 1, none⟩ = false ∧
        wr.cell? ⟨w.heap.size, 0, none⟩ = some (.bool false) ∧ wr.cell? ⟨w.heap.size, 1, none⟩ = some (.slice none 0 0) ∧ wr.frozen? ⟨w.heap.size, 0, none⟩ = false ∧ wr.frozen? ⟨w.heap.size, 1, none⟩ = false ∧ Below w.heap.size w wr)
      (fun nv _ => (intOf nv).toNat)
    case atStart =>
      obtain ⟨hB, -, X1, X2⟩ := boxes2 w #[.bool false, .slice none 0 0] #[.bool true, .slice none 0 0] 149 149
      exact ⟨n, 4, [], .slice none 0 0, by rw [hnn], by simp, rfl, hn, Nat.lt_of_lt_of_le hn (by decide), World.ownsRow_nil _ _ _ _, by rw [X2]; rfl, by rw [X2]; rfl, World.frozen?_alloc_at _ _ _ _ (by simp), by rw [X1]; rfl, by rw [X1]; rfl, by rw [World.frozen?_alloc_past _ _ _ (by simp)]; exact World.frozen?_alloc_new .., by rw [World.frozen?_alloc_past _ _ _ (by simp)]; exact World.frozen?_alloc_new .., hB⟩
    case round =>
      obtain ⟨m, f, ds, v, rfl, hdg, hlen, hm64, hmf, hown, c0, c1, f1, r0, r1, g0, g1, hB⟩ := hrel
      have HB := Lib.hid hB
      have HD := Lib.hid hdg
      have HO := Lib.hid hown
      have hzw : w.heap.size + 1 < wr.heap.size := World.block_lt_of_cell? wr _ c0
      obtain ⟨p, ln, cp, rfl⟩ := owns_slice hown
      clear hB hdg
      by_cases h0 : m = 0
      · subst h0
        have HE : Hid (digsF 4 n = ds) := by show _ = _; rw [HD.out, digsF_zero, List.append_nil]
        clear hown
        go_wp2_with fail
        refine bodyPost_ret (v := .agg #[.bool true, .slice p ln cp]) (by simp [results, Tryd.results121, go_sem, r0, r1]) rfl ⟨_, rfl, ?_, ?_⟩
        · rw [HE.out]
          exact owns_down (ownsRow_setCell_below (ownsRow_setCell_below HO.out (by show w.heap.size < w.heap.size + 2; omega) _) (by show w.heap.size < w.heap.size + 2; omega) _) (by omega)
        · exact (HB.out.setCell (p := ⟨w.heap.size, 0, none⟩) (Nat.le_refl _) _).setCell (p := ⟨w.heap.size, 1, none⟩) (Nat.le_refl _) _
      · have hpos : 0 < m := by omega
        have e1 : ((m : Int)).tmod 1000000 = ((m % 1000000 : Nat) : Int) := by rw [Int.tmod_eq_emod_of_nonneg (by omega)]; omega
        have e2 : ((m : Int)).tdiv 1000000 = ((m / 1000000 : Nat) : Int) := by rw [Int.tdiv_eq_ediv_of_nonneg (by omega)]; omega
        go_wp2_with (at_builtin; refine wpList_append_own _ rfl _ _ 147 rfl (w.heap.size + 2) 98 i0 (.int .u64 0) 1 8 Tryd.underlying147 hi hz0 hz1 hz2 rfl (by decide) _ _ _ rfl (HO.out.alloc _) ⟨wr.heap.size, 0, none⟩ 1 1 [.int .u64 ((m : Int) % 1000000)] rfl rfl ?c1 ?c2 ?c3 ?c4 ?c5 ?_)
        case c1 =>
          intro j u hj
          match j, hj with
          | 0, hj => simp at hj; subst hj; simp [Addr.add]
        case c2 => intro u hu; simp at hu; subst hu; rfl
        case c3 => unfold maxLen; omega
        case c4 => omega
        case c5 => simp; omega
        intro v' w1 hown' hgrow _
        obtain ⟨p', ln', cp', rfl⟩ := owns_slice hown'
        have hne : ∀ j, j < w.heap.size + 2 → some j ≠ (Value.slice p ln cp).ownBlock := fun j hj h => by have := HO.out.lt j h.symm; omega
        have C0 := Lib.hid (hgrow.cell ((World.cell?_alloc_past _ _ _ (by show w.heap.size + 1 < _; omega)).trans c0) (hne (w.heap.size + 1) (by omega)))
        have C1 := Lib.hid (hgrow.cell ((World.cell?_alloc_past _ _ _ (by show w.heap.size + 1 < _; omega)).trans c1) (hne (w.heap.size + 1) (by omega)))
        have R0 := Lib.hid (hgrow.cell ((World.cell?_alloc_past _ _ _ (by show w.heap.size < _; omega)).trans r0) (hne w.heap.size (by omega)))
        have R1 := Lib.hid (hgrow.cell ((World.cell?_alloc_past _ _ _ (by show w.heap.size < _; omega)).trans r1) (hne w.heap.size (by omega)))
        have F1 : Hid (w1.frozen? ⟨w.heap.size + 1, 1, none⟩ = false) := by
          show _ = _
          rw [World.frozen?_of_block (w := wr.alloc _) (hgrow.block (w.heap.size + 1) (by simp; omega) (hne (w.heap.size + 1) (by omega)))]
          exact (World.frozen?_alloc_past _ _ _ (by show w.heap.size + 1 < _; omega)).trans f1
        have G0 : Hid (w1.frozen? ⟨w.heap.size, 0, none⟩ = false) := by
          show _ = _
          rw [World.frozen?_of_block (w := wr.alloc _) (hgrow.block w.heap.size (by simp; omega) (hne w.heap.size (by omega)))]
          exact (World.frozen?_alloc_past _ _ _ (by show w.heap.size < _; omega)).trans g0
        have G1 : Hid (w1.frozen? ⟨w.heap.size, 1, none⟩ = false) := by
          show _ = _
          rw [World.frozen?_of_block (w := wr.alloc _) (hgrow.block w.heap.size (by simp; omega) (hne w.heap.size (by omega)))]
          exact (World.frozen?_alloc_past _ _ _ (by show w.heap.size < _; omega)).trans g1
        have HB1 := Lib.hid ((HB.out.alloc (by omega) _).grown hgrow (by simp; omega) (fun j hj => by have := (HO.out.lt j hj).1; omega))
        have HO1 := Lib.hid hown'
        obtain ⟨f, rfl⟩ : ∃ g, f = g + 1 := by
          cases f with
          | zero => simp at hmf; omega
          | succ g => exact ⟨g, rfl⟩
        have HD2 : Hid (digsF 4 n = (ds ++ [m % 1000000]) ++ digsF f (m / 1000000)) := by
          show _ = _
          rw [HD.out, List.append_assoc]
          have : digsF (f + 1) m = m % 1000000 :: digsF f (m / 1000000) := by rw [digsF, if_neg h0]
          rw [this]; rfl
        have HM2 : Hid (m / 1000000 < 1000000 ^ f) := by
          show _ < _
          rw [Nat.div_lt_iff_lt_mul (by omega)]
          rwa [Nat.pow_succ] at hmf
        clear hown' hgrow hne c0 c1 r0 r1 f1 g0 g1 hown HO HB HD hmf
        have k1 := C1.out
        have k2 := F1.out
        go_wp2_with fail
        go_roundw
        case rel =>
          refine ⟨m / 1000000, f, ds ++ [m % 1000000], .slice p' ln' cp', by go_num, HD2.out, by simp; omega, by omega, HM2.out, ?_, ?_, ?_, ?_, ?_, ?_, ?_, ?_, ?_⟩
          · have := ownsRow_setCell_below HO1.out (a := ⟨w.heap.size + 1, 1, none⟩) (by show w.heap.size + 1 < w.heap.size + 2; omega) (.slice p' ln' cp')
            simpa [u64s] using this
          · rw [World.cell?_setCell_other (h := by simp)]; exact C0.out
          · exact World.cell?_setCell_same _ _ _ C1.out
          · rw [World.frozen?_setCell]; exact F1.out
          · rw [World.cell?_setCell_other (h := by simp)]; exact R0.out
          · rw [World.cell?_setCell_other (h := by simp)]; exact R1.out
          · rw [World.frozen?_setCell]; exact G0.out
          · rw [World.frozen?_setCell]; exact G1.out
          · exact HB1.out.setCell (p := ⟨w.heap.size + 1, 1, none⟩) (Nat.le_succ _) _
        case measure => simp [intOf]; omega
end Go.Proofs.YtnpgjlhnlakgpaaDoor

/- Contract of datum.order: how two numbers stand, by what they are. -/
import Derived.Test.YtidejjjedpdbeaaDoorOrder
namespace Go.Proofs.YtidejjjedpdbeaaDoor
open Go.RowKit

theorem two {a b : Int} : [a, b].length ≤ 9223372036854775807 := by simp
theorem or2_bd (a b c d : Int) : -1 ≤ orL [cmpI a b, cmpI c d] ∧ orL [cmpI a b, cmpI c d] ≤ 1 := by
  rw [or2]; unfold cmpI; repeat' split
  all_goals omega
set_option maxHeartbeats 9000000 in
theorem order_any (ak ai bk bi : Int) (sa sb : ByteArray) (w : World) (a0 : -9223372036854775808 ≤ ai) (a1 : ai ≤ 9223372036854775807) (b0 : -9223372036854775808 ≤ bi) (b1 : bi ≤ 9223372036854775807) :
    Calls Tryd.prog 49 #[.agg #[.int .i64 ak, .int .i64 ai, .string sa], .agg #[.int .i64 bk, .int .i64 bi, .string sb]] w fun e w' => e = .returned (.int .i64 (ordN ak ai sa bk bi sb)) ∧ Below w.heap.size w w' := by
  have HO := Lib.hid (show ordN ak ai sa bk bi sb = if ak = bk then dco ak ai sa bk bi sb else cmpI (ai * unitOf ak) (bi * unitOf bk) from rfl)
  by_cases hk : ak = bk
  · subst hk
    have HE : Hid (ordN ak ai sa ak bi sb = dco ak ai sa ak bi sb) := by show _ = _; unfold ordN; rw [if_pos rfl]
    clear HO a0 a1 b0 b1
    rw [HE.out]
    clear HE
    go_enter Tryd.func49, Tryd.ntmps49
    go_wp2_with fail
    refine (dcmp _ _ _ _ _ _ _).mono ?_
    rintro e w1 ⟨rfl, hb⟩
    have HB := Lib.hid ((boxes2 w #[.int .i64 ak, .int .i64 ai, .string sa] #[.int .i64 ak, .int .i64 bi, .string sb] 24 24).1.trans (hb.mono (by simp; omega)))
    clear hb
    go_wp2_with fail
    go_ret
    exact ⟨rfl, HB.out⟩
  · have HX := Lib.hid (fun w => scaled_any ak ai sa w a0 a1)
    have HY := Lib.hid (fun w => scaled_any bk bi sb w b0 b1)
    have hk2 : (ak == bk) = false := by simpa using hk
    have M1 := mul_parts ai (unitOf ak)
    have M2 := mul_parts bi (unitOf bk)
    have HE := Lib.hid (show ordN ak ai sa bk bi sb = _ by rw [HO.out, if_neg hk, wide_cmp M1.1 M2.1 M1.2.1 M2.2.1 M1.2.2.1 M1.2.2.2.1 M1.2.2.2.2 M2.2.2.1 M2.2.2.2.1 M2.2.2.2.2])
    clear HO hk a0 a1 b0 b1 M1 M2
    generalize mulNeg ai (unitOf ak) = m1 at *
    generalize mulHi ai (unitOf ak) = h1 at *
    generalize mulLo ai (unitOf ak) = l1 at *
    generalize mulNeg bi (unitOf bk) = m2 at *
    generalize mulHi bi (unitOf bk) = h2 at *
    generalize mulLo bi (unitOf bk) = l2 at *
    rw [HE.out]
    clear HE
    go_enter Tryd.func49, Tryd.ntmps49
    go_wp2_with fail
    obtain ⟨hB, hz, c0, c1⟩ := boxes2 w #[.int .i64 ak, .int .i64 ai, .string sa] #[.int .i64 bk, .int .i64 bi, .string sb] 24 24
    generalize (w.alloc (.cells #[.int .i64 ak, .int .i64 ai, .string sa] 24)).alloc (.cells #[.int .i64 bk, .int .i64 bi, .string sb] 24) = W0 at *
    have hz1 : w.heap.size < W0.heap.size := by omega
    have hz2 : w.heap.size + 1 < W0.heap.size := by omega
    clear hz
    go_cut [5, 6] (fun p q wc => ∃ b5 b6 : Nat, p = .pointer (some ⟨b5, 0, none⟩) ∧ q = .pointer (some ⟨b6, 0, none⟩) ∧ Below w.heap.size w wc ∧ (wc.cell? ⟨b5, 0, none⟩ = some (.bool m1) ∧ wc.cell? ⟨b5, 1, none⟩ = some (.int .u64 h1) ∧ wc.cell? ⟨b5, 2, none⟩ = some (.int .u64 l1)) ∧ (wc.cell? ⟨b6, 0, none⟩ = some (.bool m2) ∧ wc.cell? ⟨b6, 1, none⟩ = some (.int .u64 h2) ∧ wc.cell? ⟨b6, 2, none⟩ = some (.int .u64 l2)))
    case first =>
      as_aux_lemma =>
      go_region_held3 (fun w' => Below W0.heap.size W0 w' ∧ ∀ b o, b < W0.heap.size → w'.cell? ⟨b, o, none⟩ = W0.cell? ⟨b, o, none⟩) ((clear HX HY; first | (with_reducible exact held_drew) | (with_reducible exact held_below ‹_› ‹_›) | (refine held_of ?_; repeat' (first | (with_reducible exact (‹KwB W0 _›).b) | (with_reducible refine Below.setCell ?_ ?_ _) | (with_reducible refine Below.alloc ?_ ?_ _) | (with_reducible refine Below.drew ?_) | (with_reducible exact Below.refl _ _) | omega | (simp; done) | (simp; omega)))))
        (first
          | (go_at_call_of 70 (Value.agg #[.int .i64 ak, .int .i64 ai, .string sa]); refine (HX.out _).mono ?_; rintro e w' ⟨rfl, hb'⟩; obtain ⟨hbc, hbf⟩ := bcell hb'; have hKw := KwB.mk (held_below ‹_› hb').1; have hbz := hb'.size; (try simp at hbz); (try (have hl1 := Nat.lt_of_succ_le hbz)); (try (have hl2 := Nat.lt_of_succ_lt (Nat.lt_of_succ_le hbz))); (try (have hl3 : W0.heap.size < w'.heap.size := by omega)); (try (have hl4 : W0.heap.size + 1 < w'.heap.size := by omega)))
          | (go_at_call_of 70 (Value.agg #[.int .i64 bk, .int .i64 bi, .string sb]); refine (HY.out _).mono ?_; rintro e w' ⟨rfl, hb'⟩; obtain ⟨hbc, hbf⟩ := bcell hb'; have hKw := KwB.mk (held_below ‹_› hb').1; have hbz := hb'.size; (try simp at hbz); (try (have hl1 := Nat.lt_of_succ_le hbz)); (try (have hl2 := Nat.lt_of_succ_lt (Nat.lt_of_succ_le hbz))); (try (have hl3 : W0.heap.size < w'.heap.size := by omega)); (try (have hl4 : W0.heap.size + 1 < w'.heap.size := by omega))))
      all_goals
        go_wp2_with fail
        go_meet
        case rel => exact ⟨_, _, rfl, rfl, held_fin hB hz1 (by assumption), ⟨by first | (go_simp; done) | (go_simp; exact World.cell?_setCell_same' _ _ _ (by go_simp)), by first | (go_simp; done) | (go_simp; exact World.cell?_setCell_same' _ _ _ (by go_simp)), by first | (go_simp; done) | (go_simp; exact World.cell?_setCell_same' _ _ _ (by go_simp))⟩, by first | (go_simp; done) | (go_simp; exact World.cell?_setCell_same' _ _ _ (by go_simp)), by first | (go_simp; done) | (go_simp; exact World.cell?_setCell_same' _ _ _ (by go_simp)), by first | (go_simp; done) | (go_simp; exact World.cell?_setCell_same' _ _ _ (by go_simp))⟩
    case rest =>
      obtain ⟨b5, b6, rfl, rfl, hBc, ⟨x0, x1, x2⟩, y0, y1, y2⟩ := hcut
      have HB := Lib.hid hBc
      have hnw := hBc.size
      clear hBc hB hz1 hz2 c0 c1 HX HY
      cases m1 <;> cases m2
      · go_wp2_with fail
        go_region_held3 (fun w' => w'.cell? ⟨b5, 1, none⟩ = some (.int .u64 h1) ∧ w'.cell? ⟨b5, 2, none⟩ = some (.int .u64 l1) ∧ w'.cell? ⟨b6, 1, none⟩ = some (.int .u64 h2) ∧ w'.cell? ⟨b6, 2, none⟩ = some (.int .u64 l2) ∧ w'.cell? ⟨b5, 0, none⟩ = some (.bool false)) (go_keep)
          (first
            | (go_at_call 71; refine (cmp_u64 _ _ _).mono ?_; rintro e w' ⟨rfl, rfl⟩)
            | (go_at_call 38; refine (or_ints [cmpI h1 h2, cmpI l1 l2] _ _ _ two ?_).mono ?_; (intro i hi; match i, hi with | 0, _ => simp [World.cell?_alloc_at, nth] | 1, _ => simp [World.cell?_alloc_at, nth]); rintro e w' ⟨rfl, rfl⟩))
        generalize hn : orL [cmpI h1 h2, cmpI l1 l2] = n at *
        have HN := Lib.hid hn
        clear hn
        go_wp2_with fail
        go_ret
        exact ⟨ret_int (by rw [HN.out]), (HB.out.alloc hnw _).drew⟩
      · go_wp2_with fail
        go_ret
        exact ⟨rfl, HB.out⟩
      · go_wp2_with fail
        go_ret
        exact ⟨rfl, HB.out⟩
      · go_wp2_with fail
        go_region_held3 (fun w' => w'.cell? ⟨b5, 1, none⟩ = some (.int .u64 h1) ∧ w'.cell? ⟨b5, 2, none⟩ = some (.int .u64 l1) ∧ w'.cell? ⟨b6, 1, none⟩ = some (.int .u64 h2) ∧ w'.cell? ⟨b6, 2, none⟩ = some (.int .u64 l2) ∧ w'.cell? ⟨b5, 0, none⟩ = some (.bool true)) (go_keep)
          (first
            | (go_at_call 71; refine (cmp_u64 _ _ _).mono ?_; rintro e w' ⟨rfl, rfl⟩)
            | (go_at_call 38; refine (or_ints [cmpI h1 h2, cmpI l1 l2] _ _ _ two ?_).mono ?_; (intro i hi; match i, hi with | 0, _ => simp [World.cell?_alloc_at, nth] | 1, _ => simp [World.cell?_alloc_at, nth]); rintro e w' ⟨rfl, rfl⟩))
        have hbd := or2_bd h1 h2 l1 l2
        generalize hn : orL [cmpI h1 h2, cmpI l1 l2] = n at *
        have HN := Lib.hid hn
        obtain ⟨hn1, hn2⟩ := hbd
        clear hn
        go_wp2_with fail
        go_ret
        exact ⟨ret_int (by rw [HN.out]), (HB.out.alloc hnw _).drew⟩
end Go.Proofs.YtidejjjedpdbeaaDoor

/- The walk of DatumCompares, a part of the inputs: it answers true. -/
import Derived.Test.YtidejjjedpdbeaaDoorCompT
namespace Go.Proofs.YtidejjjedpdbeaaDoor
open Go.RowKit

set_option maxRecDepth 100000 in
set_option maxHeartbeats 8000000 in
theorem compares_some (ak ai bk bi : Int) (sa sb : ByteArray) (w : World) (hT : Tabs w) (haz : ak ≠ 0) (hbz : bk ≠ 0) (hag : agree ak bk = true) (i0 : -9223372036854775808 ≤ ai) (i1 : ai ≤ 9223372036854775807) (j0 : -9223372036854775808 ≤ bi) (j1 : bi ≤ 9223372036854775807) :
    Calls Tryd.prog 4 #[.agg #[.int .i64 ak, .int .i64 ai, .string sa], .agg #[.int .i64 bk, .int .i64 bi, .string sb]] w fun e w' => e = .returned (.bool true) ∧ Below w.heap.size w w' := by
  have HG := Lib.hid (Gd.refl hT)
  have HTW := Lib.hid hT
  have HI := Lib.hid (show -9223372036854775808 ≤ ai ∧ ai ≤ 9223372036854775807 from ⟨i0, i1⟩)
  have HJ := Lib.hid (show -9223372036854775808 ≤ bi ∧ bi ≤ 9223372036854775807 from ⟨j0, j1⟩)
  clear hT i0 i1 j0 j1
  go_enter Tryd.func4, Tryd.ntmps4
  go_wp2_with fail
  have K1 := Lib.hid ((Bx.at w w.heap.size rfl (.int .i64 ak) (.int .i64 ai) (.string sa) 24).alloc (.cells #[.int .i64 bk, .int .i64 bi, .string sb] 24))
  have K2 := Lib.hid (Bx.at (w.alloc (.cells #[.int .i64 ak, .int .i64 ai, .string sa] 24)) (w.heap.size + 1) (by simp) (.int .i64 bk) (.int .i64 bi) (.string sb) 24)
  replace HG := Lib.hid ((HG.out.alloc (.cells #[.int .i64 ak, .int .i64 ai, .string sa] 24)).alloc (.cells #[.int .i64 bk, .int .i64 bi, .string sb] 24))
  refine (refright_any _ _ _ _).mono ?_
  rintro e w1 ⟨rfl, hb1⟩
  replace HG := Lib.hid (HG.out.step hb1)
  replace K1 := Lib.hid (K1.out.below hb1)
  replace K2 := Lib.hid (K2.out.below hb1)
  clear hb1
  obtain ⟨a1, a2, a3, -, -, -, lta⟩ := K1.out
  obtain ⟨b1, b2, b3, -, -, -, ltb⟩ := K2.out
  generalize hra : rightD ⟨ak, ai, sa⟩ = ra
  have RA := Lib.hid hra
  clear hra
  cases ra
  · go_wp2_with fail
    refine bodyPost_ret (v := .bool true) (by simp [results, Tryd.results4, go_sem]) rfl ⟨rfl, HG.out.b⟩
  · go_wp2_with fail
    refine (refright_any _ _ _ _).mono ?_
    rintro e w2 ⟨rfl, hb1⟩
    replace HG := Lib.hid (HG.out.step hb1)
    replace K1 := Lib.hid (K1.out.below hb1)
    replace K2 := Lib.hid (K2.out.below hb1)
    clear hb1 a1 a2 a3 b1 b2 b3 lta ltb
    obtain ⟨a1, a2, a3, -, -, -, lta⟩ := K1.out
    obtain ⟨b1, b2, b3, -, -, -, ltb⟩ := K2.out
    generalize hrb : rightD ⟨bk, bi, sb⟩ = rb
    have RB := Lib.hid hrb
    clear hrb
    cases rb
    · go_wp2_with fail
      refine bodyPost_ret (v := .bool true) (by simp [results, Tryd.results4, go_sem]) rfl ⟨rfl, HG.out.b⟩
    · have G0 := Lib.hid (Gt.new w2 31)
      have HG' := Lib.hid (HG.out.alloc (.cells #[.bool false, .bool false, .bool false, .bool false, .bool false, .bool false] 31))
      have K1' := Lib.hid (K1.out.alloc (.cells #[.bool false, .bool false, .bool false, .bool false, .bool false, .bool false] 31))
      have K2' := Lib.hid (K2.out.alloc (.cells #[.bool false, .bool false, .bool false, .bool false, .bool false, .bool false] 31))
      clear HG K1 K2 a1 a2 a3 b1 b2 b3
      have HAZ := Lib.hid haz
      have HBZ := Lib.hid hbz
      have z1 : (ak == 0) = false := by simpa using haz
      have z2 : (bk == 0) = false := by simpa using hbz
      clear haz hbz
      have HAG := Lib.hid hag
      clear hag
      generalize hnn : ordD ⟨ak, ai, sa⟩ ⟨bk, bi, sb⟩ = nn
      have HNN := Lib.hid hnn
      clear hnn
      generalize hnb : ((ak == 2 || ak == 3) && (bk == 2 || bk == 3)) = nb
      have HNB := Lib.hid hnb
      clear hnb
      have hnew : (w2.heap.size == w.heap.size) = false := by simp; omega
      go_wp2_with fail
      go_loopw [20] (fun i wr => ∃ k : Nat, k ≤ 6 ∧ i = .int .i64 k ∧ Gd w wr ∧ Bx wr w.heap.size (.int .i64 ak) (.int .i64 ai) (.string sa) ∧ Bx wr (w.heap.size + 1) (.int .i64 bk) (.int .i64 bi) (.string sb) ∧ ∃ g : Nat → Bool, Gt wr w2.heap.size g ∧ ∀ j : Nat, j < k → g j = cmpOp (7 + j) nn) (fun i _ => 6 - (intOf i).toNat)
      case atStart => exact ⟨0, by omega, rfl, HG'.out, K1'.out, K2'.out, fun _ => false, G0.out, fun j hj => by omega⟩
      case round =>
        clear HG' K1' K2' G0
        obtain ⟨k, hk6, rfl, hg0, hk10, hk20, g, hgt, hgv⟩ := hrel
        have HG := Lib.hid hg0
        have K1 := Lib.hid hk10
        have K2 := Lib.hid hk20
        have KG := Lib.hid hgt
        have HGV := Lib.hid hgv
        clear hgt hgv
        clear hg0 hk10 hk20
        obtain ⟨a1, a2, a3, -, -, -, lta⟩ := K1.out
        obtain ⟨b1, b2, b3, -, -, -, ltb⟩ := K2.out
        by_cases hlt : k < 6
        · have hzero : (0 : Int) ≤ k := by omega
          go_wp2_with fail
          replace HG := Lib.hid (HG.out.alloc (.cells #[.int .i64 ak, .int .i64 ai, .string sa, .int .i64 bk, .int .i64 bi, .string sb] 24))
          replace K1 := Lib.hid (K1.out.alloc (.cells #[.int .i64 ak, .int .i64 ai, .string sa, .int .i64 bk, .int .i64 bi, .string sb] 24))
          replace K2 := Lib.hid (K2.out.alloc (.cells #[.int .i64 ak, .int .i64 ai, .string sa, .int .i64 bk, .int .i64 bi, .string sb] 24))
          refine (apply_cmp (7 + k) ⟨ak, ai, sa⟩ ⟨bk, bi, sb⟩ wr.heap.size 0 _ _ (by simp) (args2 _ _ rfl _ _ _ _ _ _ _) HG.out.t RA.out RB.out (by omega) (by omega) HI.out.1 HI.out.2 HJ.out.1 HJ.out.2).mono ?_
          rintro e w3 ⟨rfl, hb⟩
          replace HG := Lib.hid (HG.out.step hb)
          replace K1 := Lib.hid (K1.out.below hb)
          replace K2 := Lib.hid (K2.out.below hb)
          replace KG := Lib.hid ((KG.out.alloc (.cells #[.int .i64 ak, .int .i64 ai, .string sa, .int .i64 bk, .int .i64 bi, .string sb] 24)).below hb)
          clear hb a1 a2 a3 b1 b2 b3 lta ltb
          obtain ⟨a1, a2, a3, -, -, -, lta⟩ := K1.out
          obtain ⟨b1, b2, b3, -, -, -, ltb⟩ := K2.out
          have HC : Hid (∃ c, cmpOp (7 + k) nn = c) := ⟨_, rfl⟩
          obtain ⟨c, hc0⟩ := HC.out
          have HC2 := Lib.hid hc0
          obtain ⟨ti, hti⟩ : ∃ ti : Int, ti = if c = true then 1 else 0 := ⟨_, rfl⟩
          have HTI : Hid (isD ⟨1, ti, ⟨#[]⟩⟩ 0 = c) := by show isD ⟨1, ti, ⟨#[]⟩⟩ 0 = c; rw [hti]; exact isD_truth c
          have HCM : Hid (cmpR (7 + k) ⟨ak, ai, sa⟩ ⟨bk, bi, sb⟩ = (⟨1, ti, ⟨#[]⟩⟩, 0)) := by show _ = _; rw [cmpR_some _ _ _ HAZ.out HBZ.out HAG.out, HNN.out, hc0, hti]; rfl
          clear hc0 hti HC
          rw [HCM.out]
          go_upto_region 11 with fail
          go_cut [9] (fun v wc => v = .bool nb ∧ wc = w3.alloc (.cells #[.int .i64 1, .int .i64 ti, .string ⟨#[]⟩] 24))
          case first =>
            cases c1 : (ak == 2)
            all_goals (try cases c2 : (ak == 3))
            all_goals cases c3 : (bk == 2)
            all_goals cases c4 : (bk == 3)
            all_goals
              go_wp2_with fail
              go_meet
              case rel => exact ⟨by rw [← HNB.out]; simp [*], rfl⟩
          case rest =>
            obtain ⟨rfl, rfl⟩ := hcut
            have HNB2 : Hid ((ak == bk) = true ∨ ((ak == bk) = false ∧ nb = true)) := by
              have h := HAG.out
              unfold agree at h
              rw [HNB.out] at h
              show _ ∨ _
              cases hx : (ak == bk)
              · rw [hx] at h; exact .inr ⟨rfl, by simpa using h⟩
              · exact .inl rfl
            go_upto_region 12 with fail
            go_cut [73] (fun v wc => v = .bool false ∧ wc = w3.alloc (.cells #[.int .i64 1, .int .i64 ti, .string ⟨#[]⟩] 24))
            case first =>
              rcases HNB2.out with h1 | ⟨h1, rfl⟩
              · have h2 : (ak != bk) = false := by simpa using h1
                go_wp2_with fail
                go_meet
                case rel => exact ⟨rfl, rfl⟩
              · have h2 : (ak != bk) = true := by simpa using h1
                go_wp2_with fail
                go_meet
                case rel => exact ⟨rfl, rfl⟩
            case rest =>
              obtain ⟨rfl, rfl⟩ := hcut
              go_wp2_with fail
              refine (is_any _ _ _ _ _).mono ?_
              rintro e w4 ⟨rfl, hb⟩
              rw [HTI.out]
              replace HG := Lib.hid ((HG.out.alloc (.cells #[.int .i64 1, .int .i64 ti, .string ⟨#[]⟩] 24)).step hb)
              replace K1 := Lib.hid ((K1.out.alloc (.cells #[.int .i64 1, .int .i64 ti, .string ⟨#[]⟩] 24)).below hb)
              replace K2 := Lib.hid ((K2.out.alloc (.cells #[.int .i64 1, .int .i64 ti, .string ⟨#[]⟩] 24)).below hb)
              replace KG := Lib.hid ((KG.out.alloc (.cells #[.int .i64 1, .int .i64 ti, .string ⟨#[]⟩] 24)).below hb)
              clear hb a1 a2 a3 b1 b2 b3 lta ltb HTI HCM
              have gk := KG.out.c k hlt
              have gf := KG.out.f k
              go_upto_region 18 with fail
              replace HG := Lib.hid (HG.out.set (k := k) (n := w2.heap.size) (by omega) (.bool c) HTW.out)
              replace K1 := Lib.hid (K1.out.one_far (m := w2.heap.size) (k := k) (by omega) (.bool c))
              replace K2 := Lib.hid (K2.out.one_far (m := w2.heap.size) (k := k) (by omega) (.bool c))
              replace KG := Lib.hid (KG.out.set k hlt c)
              clear gk gf
              generalize w4.setCell ⟨w2.heap.size, k, none⟩ (.bool c) = W5 at *
              obtain ⟨a1, a2, a3, -, -, -, lta⟩ := K1.out
              obtain ⟨b1, b2, b3, -, -, -, ltb⟩ := K2.out
              go_upto_if 92 with fail
              go_cut [] (fun wc => Gd w wc ∧ Bx wc w.heap.size (.int .i64 ak) (.int .i64 ai) (.string sa) ∧ Bx wc (w.heap.size + 1) (.int .i64 bk) (.int .i64 bi) (.string sb) ∧ Gt wc w2.heap.size (fun j => if j = k then c else g j))
              case first =>
                cases hkk : (ak == bk)
                · go_wp2_with fail
                  go_meet
                  case rel => exact ⟨HG.out, K1.out, K2.out, KG.out⟩
                · have HSAME : Hid (dco ak ai sa bk bi sb = nn) := (ord_same ⟨ak, ai, sa⟩ ⟨bk, bi, sb⟩ (by simpa using hkk)).symm.trans HNN.out
                  go_wp2_with fail
                  refine (dcmp _ _ _ _ _ _ _).mono ?_
                  rintro e w6 ⟨rfl, hb⟩
                  rw [HSAME.out]
                  replace HG := Lib.hid (HG.out.step hb)
                  replace K1 := Lib.hid (K1.out.below hb)
                  replace K2 := Lib.hid (K2.out.below hb)
                  replace KG := Lib.hid (KG.out.below hb)
                  clear hb a1 a2 a3 b1 b2 b3 lta ltb
                  have ltg := KG.out.lt
                  go_upto_region 21 with fail
                  go_cut [115] (fun v wc => v = .bool false ∧ Below (w6.alloc (.cells #[.bool (nn == 0), .bool (nn != 0), .bool (decide (nn < 0)), .bool (decide (nn ≤ 0)), .bool (decide (0 < nn)), .bool (decide (0 ≤ nn))] 31)).heap.size (w6.alloc (.cells #[.bool (nn == 0), .bool (nn != 0), .bool (decide (nn < 0)), .bool (decide (nn ≤ 0)), .bool (decide (0 < nn)), .bool (decide (0 ≤ nn))] 31)) wc)
                  case first =>
                    have gk : w6.cell? ⟨w2.heap.size, k, none⟩ = some (.bool c) := by rw [KG.out.c k hlt, if_pos rfl]
                    rcases (by omega : k = 0 ∨ k = 1 ∨ k = 2 ∨ k = 3 ∨ k = 4 ∨ k = 5) with rfl | rfl | rfl | rfl | rfl | rfl
                    all_goals
                      have hcv := HC2.out
                      simp [cmpOp] at hcv
                      subst hcv
                      simp only [Int.cast_ofNat_Int, Int.natCast_zero, Int.natCast_one]
                      go_quiet (fail)
                      go_wp2_with fail
                      go_meet
                      case rel => exact ⟨by simp, below_drewN _⟩
                  case rest =>
                    obtain ⟨rfl, hbw⟩ := hcut
                    go_wp2_with fail
                    go_meet
                    case rel => exact ⟨(HG.out.alloc _).step hbw, (K1.out.alloc _).below hbw, (K2.out.alloc _).below hbw, (KG.out.alloc _).below hbw⟩
              case rest =>
                obtain ⟨hg, hk1, hk2, hgt⟩ := hcut
                have HG := Lib.hid hg
                have K1 := Lib.hid hk1
                have K2 := Lib.hid hk2
                have KG := Lib.hid hgt
                clear hg hk1 hk2 hgt
                have ltg := KG.out.lt
                by_cases h5 : k = 5
                · subst h5
                  rcases (by omega : nn = 0 ∨ nn < 0 ∨ 0 < nn) with hn | hn | hn
                  · have hz := cmpOp_zero
                    rw [← hn] at hz
                    have q0 := KG.out.vals HGV.out HC2.out 0 (by omega) 7 rfl true hz.1
                    have q1 := KG.out.vals HGV.out HC2.out 1 (by omega) 8 rfl false hz.2.1
                    have q2 := KG.out.vals HGV.out HC2.out 2 (by omega) 9 rfl false hz.2.2.1
                    have q3 := KG.out.vals HGV.out HC2.out 3 (by omega) 10 rfl true hz.2.2.2.1
                    have q4 := KG.out.vals HGV.out HC2.out 4 (by omega) 11 rfl false hz.2.2.2.2.1
                    have q5 := KG.out.vals HGV.out HC2.out 5 (by omega) 12 rfl true hz.2.2.2.2.2
                    clear hz hn
                    simp only [Int.cast_ofNat_Int]
                    go_wp2_with fail
                    go_roundw
                    case rel => exact ⟨6, by omega, by first | rfl | go_num, HG.out, K1.out, K2.out, _, KG.out, fun j hj => by
                      by_cases hjk : j = 5
                      · subst hjk; show (if 5 = 5 then c else g 5) = _; rw [if_pos rfl]; exact HC2.out.symm
                      · show (if j = 5 then c else g j) = _; rw [if_neg hjk]; exact HGV.out j (by omega)⟩
                    case measure => simp [intOf]
                  · have hz := cmpOp_neg nn hn
                    have q0 := KG.out.vals HGV.out HC2.out 0 (by omega) 7 rfl false hz.1
                    have q1 := KG.out.vals HGV.out HC2.out 1 (by omega) 8 rfl true hz.2.1
                    have q2 := KG.out.vals HGV.out HC2.out 2 (by omega) 9 rfl true hz.2.2.1
                    have q3 := KG.out.vals HGV.out HC2.out 3 (by omega) 10 rfl true hz.2.2.2.1
                    have q4 := KG.out.vals HGV.out HC2.out 4 (by omega) 11 rfl false hz.2.2.2.2.1
                    have q5 := KG.out.vals HGV.out HC2.out 5 (by omega) 12 rfl false hz.2.2.2.2.2
                    clear hz hn
                    simp only [Int.cast_ofNat_Int]
                    go_wp2_with fail
                    go_roundw
                    case rel => exact ⟨6, by omega, by first | rfl | go_num, HG.out, K1.out, K2.out, _, KG.out, fun j hj => by
                      by_cases hjk : j = 5
                      · subst hjk; show (if 5 = 5 then c else g 5) = _; rw [if_pos rfl]; exact HC2.out.symm
                      · show (if j = 5 then c else g j) = _; rw [if_neg hjk]; exact HGV.out j (by omega)⟩
                    case measure => simp [intOf]
                  · have hz := cmpOp_pos nn hn
                    have q0 := KG.out.vals HGV.out HC2.out 0 (by omega) 7 rfl false hz.1
                    have q1 := KG.out.vals HGV.out HC2.out 1 (by omega) 8 rfl true hz.2.1
                    have q2 := KG.out.vals HGV.out HC2.out 2 (by omega) 9 rfl false hz.2.2.1
                    have q3 := KG.out.vals HGV.out HC2.out 3 (by omega) 10 rfl false hz.2.2.2.1
                    have q4 := KG.out.vals HGV.out HC2.out 4 (by omega) 11 rfl true hz.2.2.2.2.1
                    have q5 := KG.out.vals HGV.out HC2.out 5 (by omega) 12 rfl true hz.2.2.2.2.2
                    clear hz hn
                    simp only [Int.cast_ofNat_Int]
                    go_wp2_with fail
                    go_roundw
                    case rel => exact ⟨6, by omega, by first | rfl | go_num, HG.out, K1.out, K2.out, _, KG.out, fun j hj => by
                      by_cases hjk : j = 5
                      · subst hjk; show (if 5 = 5 then c else g 5) = _; rw [if_pos rfl]; exact HC2.out.symm
                      · show (if j = 5 then c else g j) = _; rw [if_neg hjk]; exact HGV.out j (by omega)⟩
                    case measure => simp [intOf]
                · have h6 : ((k : Int) == 5) = false := by simp; omega
                  go_wp2_with fail
                  go_roundw
                  case rel => exact ⟨k + 1, by omega, by go_num, HG.out, K1.out, K2.out, _, KG.out, fun j hj => by
                    by_cases hjk : j = k
                    · subst hjk; show (if j = j then c else g j) = _; rw [if_pos rfl]; exact HC2.out.symm
                    · show (if j = k then c else g j) = _; rw [if_neg hjk]; exact HGV.out j (by omega)⟩
                  case measure => simp [intOf]; omega
        · obtain rfl : k = 6 := by omega
          go_wp2_with fail
          refine bodyPost_ret (v := .bool true) (by simp [results, Tryd.results4, go_sem]) rfl ⟨rfl, HG.out.b⟩
end Go.Proofs.YtidejjjedpdbeaaDoor

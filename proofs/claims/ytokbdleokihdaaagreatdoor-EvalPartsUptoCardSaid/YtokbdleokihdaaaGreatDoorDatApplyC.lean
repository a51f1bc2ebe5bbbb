/- Contract of datum.Apply at a comparison: the test whether two values may be held against each other, as a region. -/
import Derived.Test.YtokbdleokihdaaaGreatDoorG03
import Derived.Test.YtokbdleokihdaaaGreatDoorG11
import Derived.Deep.CutRange
import Derived.Deep.DeepCutAuto
namespace Go.Proofs.YtokbdleokihdaaaGreatDoor
open Go.RowKit

/-- What a comparison answers. -/
def cmpR (op : Int) (d d' : Dt) : Dt × Int :=
  if [d, d'].all (isOf [2, 3]) = false ∧ [d, d'].any (fun d => d.k == 0) = false ∧ d.k ≠ d'.k then (Dt.zero, 5) else (comparedF op d d', 0)
theorem held_l {n : Nat} {w w' : World} {p : Prop} (h : Below n w w' ∧ p) : Below n w w' := h.1
theorem kinds_new_drew (w : World) (t : TypeId) (ks : List Int) {xs : Array Value} (h : xs = (ks.map fun k => Value.int .i64 k).toArray) : ICells (w.alloc (.cells xs t)).drew w.heap.size 0 ks := kinds_new w t ks h

/-- A region's walk behind its first two operations: in the order of the text, in every world that grows from here. -/
theorem wpAny_grow2 {P : Program} {Q : Exit → Act → World → Prop} {o0 o1 : Oper} {l : List Oper} {listed : Array Bool} {a : Act} {w : World} (hs : Region.noSelect (o0 :: o1 :: l).toArray = true) (hB : Region.lexFrom .any (o0 :: o1 :: l).toArray l.length 2 listed = true)
    (h : ∀ W0, W0 = w → wpQuiet P (o0 :: o1 :: l).toArray (fun w' => ∃ u : GW (fun w' => Below W0.heap.size W0 w'), w' = u.w) (fun a' => ∀ w', (∃ u : GW (fun w' => Below W0.heap.size W0 w'), w' = u.w) → Q .normal a' w') l a) :
    wpAny P .any (o0 :: o1 :: l).toArray Q l.length listed a w :=
  wpAny_of_quiet (C := fun w' => ∃ u : GW (fun w' => Below w.heap.size w w'), w' = u.w) (Q := fun a' => ∀ w', (∃ u : GW (fun w' => Below w.heap.size w w'), w' = u.w) → Q .normal a' w') (fun _ w' hw' h => h w' hw') _ _ _ _ ⟨⟨w, Below.refl _ _⟩, rfl⟩
    (wpAnyQ_lex hs l 2 listed a (fun j => by simp [Nat.add_comm 2 j]) hB (h w rfl))

set_option maxRecDepth 100000 in
set_option maxHeartbeats 4000000 in
theorem apply_cmp (op : Int) (d d' : Dt) (b o cap : Nat) (w : World) (hbk : b < w.heap.size) (hc : DCells w b o [d, d']) (hT : Tabs w) (hr : rightD d = true) (hr' : rightD d' = true) (h7 : 7 ≤ op) (h12 : op ≤ 12) (x0 : -9223372036854775808 ≤ d.i) (x1 : d.i ≤ 9223372036854775807) (y0 : -9223372036854775808 ≤ d'.i) (y1 : d'.i ≤ 9223372036854775807) :
    Calls Tryz.prog 64 #[.int .i64 op, .slice (some ⟨b, o, none⟩) 2 cap] w fun e w' => e = .returned (.tuple #[(cmpR op d d').1.v, .int .i64 (cmpR op d d').2]) ∧ Below w.heap.size w w' := by
  have hm : manyF op = 2 := by unfold manyF; rw [if_pos (by omega)]
  have t15 : (op == 15) = false := by simp; omega
  have t2 : (op == 2) = false := by simp; omega
  have t13 : (op == 13) = false := by simp; omega
  have t14 : (op == 14) = false := by simp; omega
  have t18 : (op == 18) = false := by simp; omega
  have t7 : decide (7 ≤ op) = true := by simp; omega
  have t12 : decide (op ≤ 12) = true := by simp; omega
  have Hc := Lib.hid hc
  have HT := Lib.hid hT
  have Hr := Lib.hid hr
  have Hr' := Lib.hid hr'
  clear hc hT hr hr'
  go_enter Tryz.func64, Tryz.ntmps64
  go_wp2_with (go_at_call 79; refine (many_any _ _).mono ?_; rintro e w' ⟨rfl, rfl⟩)
  go_loopw [7, 23] (fun _ i wr => ∃ k : Nat, k ≤ 2 ∧ i = .int .i64 k ∧ Below (w.heap.size + 1) (w.alloc (.cells #[.int .i64 0, .int .i64 0, .string ⟨#[]⟩] 27)) wr) (fun _ i _ => 2 - (intOf i).toNat)
  case atStart => exact ⟨0, Nat.zero_le _, rfl, Below.refl _ _⟩
  case round =>
    obtain ⟨k, hk, rfl, hbl⟩ := hrel
    have hzw : w.heap.size < wr.heap.size := (box_new hbl).2.2.2
    have HB := Lib.hid (box_new hbl).2.2.1
    have HTr := Lib.hid (round_hyp HT.out Hc.out hbk hbl).1
    have Hcr := Lib.hid (round_hyp HT.out Hc.out hbk hbl).2.1
    have Hb := Lib.hid hbl
    clear hbl
    by_cases hlt : k < 2
    · have hzero : (0 : Int) ≤ k := by omega
      obtain ⟨hc0, hc1, hc2⟩ := Hcr.out k hlt
      have Hrk : Hid (rightD (dnth [d, d'] k) = true) := by
        rcases (by omega : k = 0 ∨ k = 1) with rfl | rfl
        · exact Hr.out
        · exact Hr'.out
      generalize dnth [d, d'] k = dd at *
      obtain ⟨dk, di, dst⟩ := dd
      dsimp only at hc0 hc1 hc2
      go_wp2_with fail
      refine (right_any _ _ _ _ (HTr.out.below ((Below.refl _ _).alloc (Nat.le_refl _) _))).mono ?_
      rintro e w2 ⟨rfl, hb2⟩
      have HR := Lib.hid ((Hb.out.alloc (by omega) _).trans (hb2.mono (by simp; omega)))
      clear hb2
      rw [Hrk.out]
      go_wp2_with fail
      go_roundw
      case rel => exact ⟨k + 1, by omega, by go_num, HR.out⟩
      case measure => simp [intOf]; omega
    · clear Hc HT
      have HOF : Hid (∀ (W : World) (kb cap2 : Nat), Below wr.heap.size wr W → kb < W.heap.size → ICells W kb 0 [2, 3] → Calls Tryz.prog 81 #[.slice (some ⟨b, o, none⟩) 2 cap, .slice (some ⟨kb, 0, none⟩) 2 cap2] W fun e w' => e = .returned (.bool ([d, d'].all (isOf [2, 3]))) ∧ Below W.heap.size W w') :=
        fun W kb cap2 hW hkb hI => of_any [d, d'] b o cap [2, 3] kb cap2 W (by simp) (by have := hW.size; omega) (Hcr.out.below hW (by omega)) (by simp) hkb hI
      have HAN : Hid (∀ (W : World), Below wr.heap.size wr W → Calls Tryz.prog 84 #[.slice (some ⟨b, o, none⟩) 2 cap] W fun e w' => e = .returned (.bool ([d, d'].any fun d => d.k == 0)) ∧ Below W.heap.size W w') :=
        fun W hW => anyNull_any [d, d'] b o cap W (by simp) (by have := hW.size; omega) (Hcr.out.below hW (by omega))
      have e0 := Hcr.out 0 (by simp)
      have e1 := Hcr.out 1 (by simp)
      have d0 : dnth [d, d'] 0 = d := rfl
      have d1 : dnth [d, d'] 1 = d' := rfl
      rw [d0] at e0
      rw [d1] at e1
      clear d0 d1
      simp only [Nat.zero_mul, Nat.one_mul, Nat.add_zero] at e0 e1
      obtain ⟨e0, -, -⟩ := e0
      obtain ⟨e1, -, -⟩ := e1
      have hbw : b < wr.heap.size := by omega
      have HRR := Lib.hid (show cmpR op d d' = if [d, d'].all (isOf [2, 3]) = false ∧ [d, d'].any (fun d => d.k == 0) = false ∧ d.k ≠ d'.k then (Dt.zero, 5) else (comparedF op d d', 0) from rfl)
      have HCN := Lib.hid (fun (W : World) (hW : Below wr.heap.size wr W) hn => compared_null op d d' b o cap W (by have := hW.size; omega) (Hcr.out.below hW (by omega)) hn)
      have HCS := Lib.hid (fun (W : World) (hW : Below wr.heap.size wr W) hn => compared_some op h7 h12 d d' b o cap W (by have := hW.size; omega) (Hcr.out.below hW (by omega)) hn x0 x1 y0 y1)
      have HCF := Lib.hid (show comparedF op d d' = if [d, d'].any (fun d => d.k == 0) then Dt.zero else truthD (cmpOp op (ordD d d')) from rfl)
      clear x0 x1 y0 y1 Hr Hr' hm HTr HB
      go_upto_region 20 with fail
      go_cut [98] (fun v wc => v = .bool (!([d, d'].all (isOf [2, 3])) && (!([d, d'].any (fun d => d.k == 0)) && d.k != d'.k)) ∧ Below wr.heap.size wr wc)
      case first =>
        clear HRR HCN HCS HCF
        generalize hall : [d, d'].all (isOf [2, 3]) = al at *
        generalize hnul : [d, d'].any (fun d => d.k == 0) = nul at *
        clear hall hnul
        refine wp_region_any (by kernel_rfl) ?_
        refine wpAny_take (i := 0) (v := .slice (some ⟨b, o, none⟩) 2 cap) rfl (by kernel_rfl) (by kernel_rfl) (by kernel_rfl) (fun _ _ _ h => h) (Or.inl ⟨by rfl, by intro w; go_simp⟩) ?_
        refine wpAny_ready (rs := [1]) (by kernel_rfl) (by simp) ?_
        refine AllReady.cons rfl (fun K hK => ?_) (by intro j hj; cases hj)
        go_simp
        refine hK _ _ ?_
        clear hK
        refine wpAny_grow2 (by kernel_rfl) (by kernel_rfl) ?_
        intro W0 hW0
        have hW1 : Below wr.heap.size wr W0 := by rw [hW0]; exact ((Below.refl _ _).alloc (Nat.le_refl _) _).drew
        have hW2 : wr.heap.size < W0.heap.size := by rw [hW0]; simp
        have hW3 : ICells W0 wr.heap.size 0 [2, 3] := by rw [hW0]; exact kinds_new_drew _ _ _ rfl
        clear hW0
        have HO2 : Hid (∀ (u : GW (fun w' => Below W0.heap.size W0 w')) cap2, Calls Tryz.prog 81 #[.slice (some ⟨b, o, none⟩) 2 cap, .slice (some ⟨wr.heap.size, 0, none⟩) 2 cap2] u.w fun e w' => e = .returned (.bool al) ∧ Below u.w.heap.size u.w w') :=
          fun u cap2 => HOF.out u.w wr.heap.size cap2 (hW1.trans (u.h.mono (by omega))) (by have := u.h.size; omega) (fun j hj => by rw [u.h.cell (p := ⟨wr.heap.size, 0 + j, none⟩) hW2]; exact hW3 j hj)
        have HN2 : Hid (∀ (u : GW (fun w' => Below W0.heap.size W0 w')), Calls Tryz.prog 84 #[.slice (some ⟨b, o, none⟩) 2 cap] u.w fun e w' => e = .returned (.bool nul) ∧ Below u.w.heap.size u.w w') :=
          fun u => HAN.out u.w (hW1.trans (u.h.mono (by omega)))
        have p0 : ∀ (u : GW (fun w' => Below W0.heap.size W0 w')), u.w.cell? ⟨b, o, none⟩ = some (.int .i64 d.k) := fun u => by rw [(hW1.trans (u.h.mono (by omega))).cell (p := ⟨b, o, none⟩) hbw]; exact e0
        have p1 : ∀ (u : GW (fun w' => Below W0.heap.size W0 w')), u.w.cell? ⟨b, o + 3, none⟩ = some (.int .i64 d'.k) := fun u => by rw [(hW1.trans (u.h.mono (by omega))).cell (p := ⟨b, o + 3, none⟩) hbw]; exact e1
        have hgn := GW.ne (Inv := fun w' => Below W0.heap.size W0 w') (Below.refl _ _)
        have HW1 := Lib.hid hW1
        clear HOF HAN hW1 hW3 e0 e1
        cases al <;> cases nul
        all_goals
          repeat (go_big_quiet_step (first | (go_at_call 81; refine (HO2.out _ _).mono ?_; rintro e w1 ⟨rfl, hb⟩; exact ⟨rfl, below_next _ hb⟩) | (go_at_call 84; refine (HN2.out _).mono ?_; rintro e w1 ⟨rfl, hb⟩; exact ⟨rfl, below_next _ hb⟩)))
          refine wpQuiet_nil ?_
          intro _ hw'
          obtain ⟨⟨w4, h4⟩, hw''⟩ := hw'
          subst hw''
          have HB4 := Lib.hid (HW1.out.trans (h4.mono (by omega)))
          clear h4 HO2 HN2 p0 p1 hgn
          go_wp2_with fail
          go_meet
          case rel => exact ⟨rfl, HB4.out⟩
      case rest =>
        obtain ⟨rfl, hW⟩ := hcut
        have HW := Lib.hid hW
        have hwz := hW.size
        clear hW HOF HAN
        generalize hcond : (!([d, d'].all (isOf [2, 3])) && (!([d, d'].any (fun d => d.k == 0)) && d.k != d'.k)) = cond at *
        have HC := Lib.hid hcond
        clear hcond
        cases cond
        · have HE0 := Lib.hid (show cmpR op d d' = (comparedF op d d', 0) by rw [HRR.out, if_neg (fun hq => by have := HC.out; rw [hq.1, hq.2.1] at this; simp at this; exact hq.2.2 this)])
          cases hnul : [d, d'].any (fun d => d.k == 0)
          · have HNUL := Lib.hid hnul
            clear hnul
            have HE := Lib.hid (show cmpR op d d' = (truthD (cmpOp op (ordD d d')), 0) by rw [HE0.out, HCF.out, if_neg (by rw [HNUL.out]; simp)])
            go_wp2_with fail
            refine (HCS.out _ HW.out HNUL.out).mono ?_
            rintro e w3 ⟨rfl, hb3⟩
            have hBx := (Hb.out.trans (HW.out.mono (by omega))).trans (hb3.mono (by omega))
            obtain ⟨⟨b1, b2, b3⟩, ⟨f1, f2, f3⟩, hB2, hzw2⟩ := box_new hBx
            have HB2 := Lib.hid hB2
            clear hB2 hBx hb3
            generalize hfin : truthD (cmpOp op (ordD d d')) = tv
            have HF := Lib.hid hfin
            clear hfin
            obtain ⟨tk, ti, ts⟩ := tv
            go_wp2_with fail
            refine bodyPost_ret (v := .tuple #[.agg #[.int .i64 tk, .int .i64 ti, .string ts], .int .i64 0]) (by simp [results, Tryz.results64, go_sem, b1, b2, b3]) rfl ⟨by rw [HE.out, HF.out], ?_⟩
            exact ((HB2.out.setCell (Nat.le_refl _) _).setCell (Nat.le_refl _) _).setCell (Nat.le_refl _) _
          · have HNUL := Lib.hid hnul
            clear hnul
            have HE := Lib.hid (show cmpR op d d' = (Dt.zero, 0) by rw [HE0.out, HCF.out, if_pos HNUL.out])
            go_wp2_with fail
            refine (HCN.out _ HW.out HNUL.out).mono ?_
            rintro e w3 ⟨rfl, hb3⟩
            have hBx := (Hb.out.trans (HW.out.mono (by omega))).trans (hb3.mono (by omega))
            obtain ⟨⟨b1, b2, b3⟩, ⟨f1, f2, f3⟩, hB2, hzw2⟩ := box_new hBx
            have HB2 := Lib.hid hB2
            clear hB2 hBx hb3
            generalize hfin : Dt.zero = tv
            have HF := Lib.hid hfin
            clear hfin
            obtain ⟨tk, ti, ts⟩ := tv
            go_wp2_with fail
            refine bodyPost_ret (v := .tuple #[.agg #[.int .i64 tk, .int .i64 ti, .string ts], .int .i64 0]) (by simp [results, Tryz.results64, go_sem, b1, b2, b3]) rfl ⟨by rw [HE.out, HF.out], ?_⟩
            exact ((HB2.out.setCell (Nat.le_refl _) _).setCell (Nat.le_refl _) _).setCell (Nat.le_refl _) _
        · have HE := Lib.hid (show cmpR op d d' = (Dt.zero, 5) by
            have hq := HC.out
            simp only [Bool.and_eq_true, Bool.not_eq_true', bne_iff_ne] at hq
            rw [HRR.out, if_pos hq])
          have hBx := Hb.out.trans (HW.out.mono (by omega))
          obtain ⟨⟨b1, b2, b3⟩, ⟨f1, f2, f3⟩, hB2, hzw2⟩ := box_new hBx
          have HB2 := Lib.hid hB2
          clear hB2 hBx
          go_wp2_with fail
          refine bodyPost_ret (v := .tuple #[Dt.zero.v, .int .i64 5]) (by simp [results, Tryz.results64, go_sem, b1, b2, b3, Dt.zero]) rfl ⟨by rw [HE.out], ?_⟩
          exact ((HB2.out.setCell (Nat.le_refl _) _).setCell (Nat.le_refl _) _).setCell (Nat.le_refl _) _
end Go.Proofs.YtokbdleokihdaaaGreatDoor

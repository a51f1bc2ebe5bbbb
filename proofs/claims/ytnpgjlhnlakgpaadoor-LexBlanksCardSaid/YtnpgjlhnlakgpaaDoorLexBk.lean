/- LexBlanks: the walk of the law. -/
import Derived.Test.YtnpgjlhnlakgpaaDoorLexAg
namespace Go.Proofs.YtnpgjlhnlakgpaaDoor
open Go.RowKit

/-- Numbers that came in, in a row. -/
def ManyAt (w : World) (v : Value) (xs : List Int) : Prop :=
  ∃ p cap, v = .slice p xs.length cap ∧ xs.length ≤ 9223372036854775807 ∧ (∀ x ∈ xs, -9223372036854775808 ≤ x ∧ x ≤ 9223372036854775807) ∧ (xs = [] ∨ ∃ g o, p = some ⟨g, o, none⟩ ∧ g < w.heap.size ∧ ∀ (j : Nat) (x : Int), xs[j]? = some x → w.cell? ⟨g, o + j, none⟩ = some (.int .i64 x))
theorem Jn.next2 {S T U V : ByteArray} {a : List Tk} {sep : Nat → List UInt8} {q k : Nat} {t : Tk} (h : Jn S a sep q k) (ht : a[k]? = some t) (hT : T = bs (showF t.k t.s t.d)) (hTl : T.size ≤ 2100) (hU : U = bs (sep k) ∧ U.size ≤ q ∧ V = S ++ T ++ U) :
    Jn V a sep q (k + 1) := by rw [hU.2.2]; exact h.next ht hT hTl hU.1 hU.2.1
theorem sepB_at {many : List Int} {k : Nat} {x : Int} (h : many[k]? = some x) : sepB many k = 10 :: (if Int.tmod x 4 = 1 then [32, 9, 13, 10] else if Int.tmod x 4 = 2 then [45, 45, 32, 105, 116, 39, 115, 32, 40, 10] else if Int.tmod x 4 = 3 then [45, 45, 10, 45, 45, 10] else []) := by
  unfold sepB; rw [h]
theorem sepB_no {many : List Int} {k : Nat} (h : many[k]? = none) : sepB many k = [10] := by
  unfold sepB; rw [h]

set_option maxRecDepth 100000 in
set_option maxHeartbeats 8000000 in
theorem blanks_walk (s : ByteArray) (mv : Value) (many : List Int) (w : World) (hA : Asc w) (hP : Pow w) (hmany : ManyAt w mv many) : Calls Tryd.prog 6 #[.string s, mv] w fun e w' => e = .returned (.bool true) ∧ Below w.heap.size w w' := by
  have HA0 := Lib.hid hA
  have HP0 := Lib.hid hP
  have HB0 : Hid (Below w.heap.size w w) := Below.refl _ _
  obtain ⟨mp, mc, rfl, hmx, hmb, hmc⟩ := hmany
  have HM := Lib.hid hmc
  have HMb := Lib.hid hmb
  obtain ⟨L, hL⟩ : ∃ L, many.length = L := ⟨_, rfl⟩
  rw [hL] at hmx ⊢
  have HL := Lib.hid hL
  clear hA hP hmc hmb hL
  cases hx : lexF s.data.toList with
  | inl e0 =>
    obtain ⟨er, p⟩ := e0
    have hne := lexF_bad hx
    simp only at hne
    have hne2 : (er != 0) = true := by simpa using hne
    have HX := Lib.hid hx
    clear hx
    go_enter Tryd.func6, Tryd.ntmps6
    go_wp2_with (first
      | (go_at_call 14; refine (alive_any _ HA0.out).mono ?_; rintro e w1 ⟨rfl, hb⟩; have HB1 := Lib.hid (HB0.out.trans (hb.mono HB0.out.size)); have HA1 := Lib.hid (HA0.out.below hb); have HP1 := Lib.hid (HP0.out.below hb); clear hb)
      | (go_at_call 15; refine (lex_err HX.out _ HA1.out).mono ?_; rintro e w2 ⟨rfl, hb⟩; have HB2 := Lib.hid (HB1.out.trans (hb.mono HB1.out.size)); have HA2 := Lib.hid (HA1.out.below hb); have HP2 := Lib.hid (HP1.out.below hb); clear hb)
      | fail)
    go_ret
    exact ⟨rfl, HB2.out⟩
  | inr ts =>
    have HTiny := Lib.hid (lexF_tiny hx)
    have hts := (lexF_count hx).1
    have HJ := Lib.hid (fun hl => join_again hx (sepB many) (sep_blanks many) hl)
    have HLx := Lib.hid (fun W h => lex_ok hx W h)
    have HSm := Lib.hid (fun (W : World) (g1 g2 c1 c2 : Nat) (b : List Tk) (h1 : g1 < W.heap.size) (h2 : g2 < W.heap.size) (h3 : TCells W g1 ts) (h4 : TCells W g2 b) (h5 : SameTk ts b) => same_any W g1 g2 c1 c2 ts b false h1 h2 h3 h4 h5 (fun h => by cases h) hts)
    obtain ⟨N, hN⟩ : ∃ N, ts.length = N := ⟨_, rfl⟩
    rw [hN] at HLx HSm HJ hts
    have HN := Lib.hid hN
    clear hx hN
    by_cases h200 : 200 < N
    · have h200i : (200 : Int) < (N : Int) := by omega
      go_enter Tryd.func6, Tryd.ntmps6
      go_wp2_with (first
        | (go_at_call 14; refine (alive_any _ HA0.out).mono ?_; rintro e w1 ⟨rfl, hb⟩; have HB1 := Lib.hid (HB0.out.trans (hb.mono HB0.out.size)); have HA1 := Lib.hid (HA0.out.below hb); have HP1 := Lib.hid (HP0.out.below hb); clear hb)
        | (go_at_call 15; refine (HLx.out _ HA1.out).mono ?_; rintro e w2 ⟨g, cap, rfl, hg1, hg2, hT, hb⟩; clear hT; have HB2 := Lib.hid (HB1.out.trans (hb.mono HB1.out.size)); have HA2 := Lib.hid (HA1.out.below hb); have HP2 := Lib.hid (HP1.out.below hb); clear hb)
        | fail)
      go_ret
      exact ⟨rfl, HB2.out⟩
    · have h200i : ¬ (200 : Int) < (N : Int) := by omega
      go_enter Tryd.func6, Tryd.ntmps6
      go_wp2_with (first
        | (go_at_call 14; refine (alive_any _ HA0.out).mono ?_; rintro e w1 ⟨rfl, hb⟩; have HB1 := Lib.hid (HB0.out.trans (hb.mono HB0.out.size)); have HA1 := Lib.hid (HA0.out.below hb); have HP1 := Lib.hid (HP0.out.below hb); clear hb)
        | (go_at_call 15; refine (HLx.out _ HA1.out).mono ?_; rintro e w2 ⟨g, cap, rfl, hg1, hg2, hT, hb⟩; have HT2 := Lib.hid hT; clear hT; have HB2 := Lib.hid (HB1.out.trans (hb.mono HB1.out.size)); have HA2 := Lib.hid (HA1.out.below hb); have HP2 := Lib.hid (HP1.out.below hb); clear hb)
        | fail)
      go_loopw [31, 8, 9, 10] (fun iv tv _ _ wr => ∃ (k : Nat) (S : ByteArray), k ≤ N ∧ iv = .int .i64 (k : Int) ∧ tv = .string S ∧ Below w2.heap.size w2 wr ∧ S.size ≤ k * 2120 ∧ Hid (Jn S ts (sepB many) 20 k)) (fun iv _ _ _ _ => N - (intOf iv).toNat)
      case atStart => exact ⟨0, ⟨#[]⟩, Nat.zero_le _, rfl, rfl, Below.refl _ _, Nat.le_refl _, ⟨rfl, Nat.le_refl _⟩⟩
      case round =>
        obtain ⟨k, S, hk, rfl, rfl, hBr, hSz, HS⟩ := hrel
        have HBr := Lib.hid hBr
        have HPr := Lib.hid (HP2.out.below hBr)
        have HAr := Lib.hid (HA2.out.below hBr)
        have HTr := Lib.hid (HT2.out.below hBr hg2)
        have hsz := hBr.size
        clear hBr
        by_cases hlt : k < N
        · have hlti : (k : Int) < (N : Int) := by omega
          obtain ⟨t, ht⟩ : ∃ t, ts[k]? = some t := ⟨_, List.getElem?_eq_getElem (by rw [HN.out]; exact hlt)⟩
          obtain ⟨c0, c1, c2, c3, c4, c5⟩ := HTr.out k t ht
          have htn := HTiny.out t (List.mem_of_getElem? ht)
          obtain ⟨T, hT⟩ : ∃ T, bs (showF t.k t.s t.d) = T := ⟨_, rfl⟩
          have hTl : T.size ≤ 2100 := by rw [← hT, bs_size]; exact showF_len htn
          have HSh := Lib.hid (fun W h => show_any t W h htn.2.1 htn.2.2)
          rw [hT] at HSh
          have HNX := Lib.hid (fun (U V : ByteArray) (h : U = bs (sepB many k) ∧ U.size ≤ 20 ∧ V = S ++ T ++ U) => HS.out.next2 ht hT.symm hTl h)
          obtain ⟨tk, tstr, ⟨dk, di, ds⟩, tp⟩ := t
          simp only at c0 c1 c2 c3 c4 c5 HSh
          clear ht htn hT
          by_cases hkL : k < L
          · have hkLi : (k : Int) < (L : Int) := by omega
            obtain ⟨x, hxk⟩ : ∃ x, many[k]? = some x := ⟨_, List.getElem?_eq_getElem (by rw [HL.out]; exact hkL)⟩
            obtain ⟨hx0, hx1⟩ := HMb.out x (List.mem_of_getElem? hxk)
            have HSp := Lib.hid (sepB_at hxk)
            rcases HM.out with hnil | ⟨mg, mo, rfl, hmg, hmcell⟩
            · have := HL.out; rw [hnil] at this; simp at this; omega
            have HMc := Lib.hid (fun (W : World) (hB : Below w2.heap.size w2 W) => show W.cell? ⟨mg, mo + k, none⟩ = some (.int .i64 x) by
              rw [hB.cell (p := ⟨mg, mo + k, none⟩) (Nat.lt_of_lt_of_le hmg HB2.out.size), HB2.out.cell (p := ⟨mg, mo + k, none⟩) hmg]
              exact hmcell k x hxk)
            clear hxk hmcell
            rcases (show Int.tmod x 4 = 1 ∨ Int.tmod x 4 = 2 ∨ Int.tmod x 4 = 3 ∨ (Int.tmod x 4 ≠ 1 ∧ Int.tmod x 4 ≠ 2 ∧ Int.tmod x 4 ≠ 3) from by omega) with hr | hr | hr | ⟨hr1, hr2, hr3⟩
            · skip
              have HSp2 : Hid (sepB many k = 10 :: [32, 9, 13, 10]) := by
                show _ = _
                rw [HSp.out, if_pos hr]
              have HN1 : Hid (Jn (S ++ T ++ ⟨#[10]⟩ ++ ⟨#[32, 9, 13, 10]⟩) ts (sepB many) 20 (k + 1)) := HNX.out (⟨#[10]⟩ ++ ⟨#[32, 9, 13, 10]⟩) _ ⟨by rw [HSp2.out]; rfl, by decide, ByteArray.append_assoc⟩
              have HNz := Lib.hid HN1.out.z
              clear HSp
              go_wp2_with (first | (go_at_call 21; refine (HSh.out _ (HPr.out.below ((Below.refl _ _).alloc (Nat.le_refl _) _))).mono ?_; rintro e w5 ⟨rfl, hb5⟩; have HB5 := Lib.hid ((HBr.out.alloc hsz _).trans (hb5.mono (by simp; omega))); (try (have hc5 := HMc.out _ (HB5.out))); clear hb5) | fail)
              go_roundw
              case rel => exact ⟨k + 1, _, by omega, by go_num, rfl, HB5.out, HNz.out, HN1⟩
              case measure => simp [intOf]; omega
            · skip
              have HSp2 : Hid (sepB many k = 10 :: [45, 45, 32, 105, 116, 39, 115, 32, 40, 10]) := by
                show _ = _
                rw [HSp.out, if_neg (by omega), if_pos hr]
              have HN1 : Hid (Jn (S ++ T ++ ⟨#[10]⟩ ++ ⟨#[45, 45, 32, 105, 116, 39, 115, 32, 40, 10]⟩) ts (sepB many) 20 (k + 1)) := HNX.out (⟨#[10]⟩ ++ ⟨#[45, 45, 32, 105, 116, 39, 115, 32, 40, 10]⟩) _ ⟨by rw [HSp2.out]; rfl, by decide, ByteArray.append_assoc⟩
              have HNz := Lib.hid HN1.out.z
              clear HSp
              go_wp2_with (first | (go_at_call 21; refine (HSh.out _ (HPr.out.below ((Below.refl _ _).alloc (Nat.le_refl _) _))).mono ?_; rintro e w5 ⟨rfl, hb5⟩; have HB5 := Lib.hid ((HBr.out.alloc hsz _).trans (hb5.mono (by simp; omega))); (try (have hc5 := HMc.out _ (HB5.out))); clear hb5) | fail)
              go_roundw
              case rel => exact ⟨k + 1, _, by omega, by go_num, rfl, HB5.out, HNz.out, HN1⟩
              case measure => simp [intOf]; omega
            · skip
              have HSp2 : Hid (sepB many k = 10 :: [45, 45, 10, 45, 45, 10]) := by
                show _ = _
                rw [HSp.out, if_neg (by omega), if_neg (by omega), if_pos hr]
              have HN1 : Hid (Jn (S ++ T ++ ⟨#[10]⟩ ++ ⟨#[45, 45, 10, 45, 45, 10]⟩) ts (sepB many) 20 (k + 1)) := HNX.out (⟨#[10]⟩ ++ ⟨#[45, 45, 10, 45, 45, 10]⟩) _ ⟨by rw [HSp2.out]; rfl, by decide, ByteArray.append_assoc⟩
              have HNz := Lib.hid HN1.out.z
              clear HSp
              go_wp2_with (first | (go_at_call 21; refine (HSh.out _ (HPr.out.below ((Below.refl _ _).alloc (Nat.le_refl _) _))).mono ?_; rintro e w5 ⟨rfl, hb5⟩; have HB5 := Lib.hid ((HBr.out.alloc hsz _).trans (hb5.mono (by simp; omega))); (try (have hc5 := HMc.out _ (HB5.out))); clear hb5) | fail)
              go_roundw
              case rel => exact ⟨k + 1, _, by omega, by go_num, rfl, HB5.out, HNz.out, HN1⟩
              case measure => simp [intOf]; omega
            · obtain ⟨r, hr⟩ : ∃ r, Int.tmod x 4 = r := ⟨_, rfl⟩
              rw [hr] at hr1 hr2 hr3
              have hb1 : (r == 1) = false := by simpa using hr1
              have hb2 : (r == 2) = false := by simpa using hr2
              have hb3 : (r == 3) = false := by simpa using hr3
              have HSp2 : Hid (sepB many k = [10]) := by
                show _ = _
                rw [HSp.out, hr, if_neg hr1, if_neg hr2, if_neg hr3]
              have HN1 : Hid (Jn (S ++ T ++ ⟨#[10]⟩) ts (sepB many) 20 (k + 1)) := HNX.out (⟨#[10]⟩) _ ⟨by rw [HSp2.out]; rfl, by decide, rfl⟩
              have HNz := Lib.hid HN1.out.z
              clear HSp
              go_wp2_with (first | (go_at_call 21; refine (HSh.out _ (HPr.out.below ((Below.refl _ _).alloc (Nat.le_refl _) _))).mono ?_; rintro e w5 ⟨rfl, hb5⟩; have HB5 := Lib.hid ((HBr.out.alloc hsz _).trans (hb5.mono (by simp; omega))); (try (have hc5 := HMc.out _ (HB5.out))); clear hb5) | fail)
              go_roundw
              case rel => exact ⟨k + 1, _, by omega, by go_num, rfl, HB5.out, HNz.out, HN1⟩
              case measure => simp [intOf]; omega
          · have hkLi : ¬ (k : Int) < (L : Int) := by omega
            have HSp := Lib.hid (sepB_no (many := many) (k := k) (List.getElem?_eq_none (by rw [HL.out]; omega)))
            have HN1 : Hid (Jn (S ++ T ++ ⟨#[10]⟩) ts (sepB many) 20 (k + 1)) := HNX.out ⟨#[10]⟩ _ ⟨by rw [HSp.out]; rfl, by decide, rfl⟩
            have HNz := Lib.hid HN1.out.z
            go_wp2_with (first | (go_at_call 21; refine (HSh.out _ (HPr.out.below ((Below.refl _ _).alloc (Nat.le_refl _) _))).mono ?_; rintro e w5 ⟨rfl, hb5⟩; have HB5 := Lib.hid ((HBr.out.alloc hsz _).trans (hb5.mono (by simp; omega))); (try (have hc5 := HMc.out _ (HB5.out))); clear hb5) | fail)
            go_roundw
            case rel => exact ⟨k + 1, _, by omega, by go_num, rfl, HB5.out, HNz.out, HN1⟩
            case measure => simp [intOf]; omega
        · have hkN : k = N := by omega
          subst hkN
          have hlti : ¬ (k : Int) < (k : Int) := by omega
          have HSd : Hid (S.data.toList = joinN ts (sepB many) k) := by show _ = _; rw [HS.out.e]; rfl
          have HBw := Lib.hid (HB2.out.trans (HBr.out.mono HB2.out.size))
          have hgr := Nat.lt_of_lt_of_le hg2 hsz
          by_cases h4 : 4000 < S.size
          · have h4i : (4000 : Int) < (S.size : Int) := by omega
            go_wp2_with fail
            go_ret
            exact ⟨rfl, HBw.out⟩
          · have h4i : ¬ (4000 : Int) < (S.size : Int) := by omega
            have hj := HJ.out (by rw [← HSd.out]; show S.size ≤ 4000; omega)
            rw [← HSd.out] at hj
            obtain ⟨b, hb1, hb2⟩ := hj
            have HS2 := Lib.hid (same_of_bare hb2)
            have HL2 := Lib.hid (fun W h => lex_ok hb1 W h)
            clear hb1 hb2
            go_wp2_with (first
              | (go_at_call 15; refine (HL2.out _ HAr.out).mono ?_; rintro e w6 ⟨g6, cap6, rfl, hg61, hg62, hT, hb⟩; have HT6 := Lib.hid hT; have HT6' := Lib.hid (HTr.out.below hb hgr); have hgr6 := Nat.lt_of_lt_of_le hgr hb.size; have HB6 := Lib.hid (HBw.out.trans (hb.mono HBw.out.size)); clear hT hb)
              | (go_at_call 17; refine (HSm.out _ _ _ _ _ b hgr6 hg62 HT6'.out HT6.out HS2.out).mono ?_; rintro e w7 ⟨rfl, hb⟩; have HB7 := Lib.hid (HB6.out.trans (hb.mono HB6.out.size)); clear hb)
              | fail)
            go_ret
            exact ⟨rfl, HB7.out⟩
end Go.Proofs.YtnpgjlhnlakgpaaDoor

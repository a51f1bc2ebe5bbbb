/- LexAgain: the walk of the law. -/
import Derived.Test.YtnpgjlhnlakgpaaDoorLexSm
import Derived.Test.YtnpgjlhnlakgpaaDoorG02
import Derived.Test.YtnpgjlhnlakgpaaDoorLexSw
namespace Go.Proofs.YtnpgjlhnlakgpaaDoor
open Go.RowKit

theorem same_of_bare {a b : List Tk} (h : b.map Tk.bare = a.map Tk.bare) : SameTk a b := by
  have hl : b.length = a.length := by have := congrArg List.length h; simpa using this
  refine ⟨hl.symm, fun j t u ht hu => ?_⟩
  have h1 : (b.map Tk.bare)[j]? = (a.map Tk.bare)[j]? := by rw [h]
  rw [List.getElem?_map, List.getElem?_map, ht, hu] at h1
  simp only [Option.map_some, Option.some.injEq] at h1
  obtain ⟨k1, s1, d1, p1⟩ := t
  obtain ⟨k2, s2, d2, p2⟩ := u
  simp only [Tk.bare, Tk.mk.injEq] at h1
  exact ⟨h1.1, h1.2.1, h1.2.2.1⟩
theorem run_neq_end (w : World) (n : Int) :
    (Go.binOp .neq 30 (.agg #[.int .i64 0, .string ⟨#[]⟩, .int .i64 0, .int .i64 0, .string ⟨#[]⟩, .int .i64 n]) (.agg #[.int .i64 0, .string ⟨#[]⟩, .int .i64 0, .int .i64 0, .string ⟨#[]⟩, .int .i64 n])).run Tryd.prog w = .ok (.bool false) w := by
  go_simp
/-- A text so far: the first k tokens shown. -/
structure Jn (S : ByteArray) (a : List Tk) (sep : Nat → List UInt8) (q k : Nat) : Prop where
  e : S = bs (joinN a sep k)
  z : S.size ≤ k * (2100 + q)
theorem Jn.next {S T U : ByteArray} {a : List Tk} {sep : Nat → List UInt8} {q k : Nat} {t : Tk} (h : Jn S a sep q k) (ht : a[k]? = some t) (hT : T = bs (showF t.k t.s t.d)) (hTl : T.size ≤ 2100) (hU : U = bs (sep k)) (hUl : U.size ≤ q) :
    Jn (S ++ T ++ U) a sep q (k + 1) := by
  constructor
  · rw [joinN_next ht, h.e, hT, hU, bs_append, bs_append, List.append_assoc]
  · have := h.z
    rw [ByteArray.size_append, ByteArray.size_append, Nat.succ_mul]
    omega

set_option maxRecDepth 100000 in
set_option maxHeartbeats 8000000 in
theorem again_walk (s : ByteArray) (w : World) (hA : Asc w) (hP : Pow w) : Calls Tryd.prog 5 #[.string s] w fun e w' => e = .returned (.bool true) ∧ Below w.heap.size w w' := by
  have HA0 := Lib.hid hA
  have HP0 := Lib.hid hP
  have HB0 : Hid (Below w.heap.size w w) := Below.refl _ _
  clear hA hP
  cases hx : lexF s.data.toList with
  | inl e0 =>
    obtain ⟨er, p⟩ := e0
    have hne := lexF_bad hx
    simp only at hne
    have HX := Lib.hid hx
    clear hx
    go_enter Tryd.func5, Tryd.ntmps5
    go_wp2_with (first
      | (go_at_call 15; refine (lex_err HX.out _ HA0.out).mono ?_; rintro e w1 ⟨rfl, hb⟩; have HB1 := Lib.hid (HB0.out.trans (hb.mono HB0.out.size)); have HA1 := Lib.hid (HA0.out.below hb); have HP1 := Lib.hid (HP0.out.below hb); clear hb)
      | fail)
    go_ret
    exact ⟨rfl, HB1.out⟩
  | inr ts =>
    have HX := Lib.hid hx
    obtain ⟨hts, hs, us, hus⟩ := lexF_count hx
    have HTiny := Lib.hid (lexF_tiny hx)
    have hend : ts[us.length]? = some (endT s.size) := by rw [hus]; simp
    have hM : us.length + 1 = ts.length := by rw [hus]; simp
    obtain ⟨M, hMd⟩ : ∃ M, us.length = M := ⟨_, rfl⟩
    rw [hMd] at hend hM
    have HJ := Lib.hid (fun hl => join_again hx (fun _ => [32]) (fun _ => sep_one) hl)
    have HLx := Lib.hid (fun W h => lex_ok hx W h)
    have HSm := Lib.hid (fun (W : World) (g1 g2 c1 c2 : Nat) (b : List Tk) (h1 : g1 < W.heap.size) (h2 : g2 < W.heap.size) (h3 : TCells W g1 ts) (h4 : TCells W g2 b) (h5 : SameTk ts b) => same_any W g1 g2 c1 c2 ts b false h1 h2 h3 h4 h5 (fun h => by cases h) hts)
    have HEnd := Lib.hid hend
    obtain ⟨N, hN⟩ : ∃ N, ts.length = N := ⟨_, rfl⟩
    rw [hN] at HLx HSm HJ hM hts
    have HN := Lib.hid hN
    have hMi : (N : Int) - 1 = (M : Int) := by omega
    have hN1 : ¬ (N : Int) < 1 := by omega
    have hM0 : (0 : Int) ≤ (M : Int) := by omega
    have hMN : (M : Int) < (N : Int) := by omega
    have hMN2 : M < N := by omega
    have hM1 : M ≤ 1000 := by omega
    clear hx hus hMd hN hend
    go_enter Tryd.func5, Tryd.ntmps5
    have hne2 := run_neq_end
    go_wp2_with (first
      | (go_at_call 15; refine (HLx.out _ HA0.out).mono ?_; rintro e w1 ⟨g, cap, rfl, hg1, hg2, hT, hb⟩; have HT1 := Lib.hid hT; obtain ⟨c0, c1, c2, c3, c4, c5⟩ := hT M _ HEnd.out; simp only [Dt.zero] at c0 c1 c2 c3 c4 c5; clear hT; have HB1 := Lib.hid (HB0.out.trans (hb.mono HB0.out.size)); have HA1 := Lib.hid (HA0.out.below hb); have HP1 := Lib.hid (HP0.out.below hb); clear hb)
      | fail)
    clear c0 c1 c2 c3 c4 c5 hne2
    go_loopw [40, 6, 8] (fun iv tv _ wr => ∃ (k : Nat) (S : ByteArray), k ≤ N ∧ iv = .int .i64 (k : Int) ∧ tv = .string S ∧ Below w1.heap.size w1 wr ∧ S.size ≤ k * 2101 ∧ Hid (Jn S ts (fun _ => [32]) 1 k)) (fun iv _ _ _ => N - (intOf iv).toNat)
    case atStart => exact ⟨0, ⟨#[]⟩, Nat.zero_le _, rfl, rfl, Below.refl _ _, Nat.le_refl _, ⟨rfl, Nat.le_refl _⟩⟩
    case round =>
      obtain ⟨k, S, hk, rfl, rfl, hBr, hSz, HS⟩ := hrel
      have HBr := Lib.hid hBr
      have HPr := Lib.hid (HP1.out.below hBr)
      have HAr := Lib.hid (HA1.out.below hBr)
      have HTr := Lib.hid (HT1.out.below hBr hg2)
      have hsz := hBr.size
      clear hBr
      by_cases hlt : k < N
      · have hlti : (k : Int) < (N : Int) := by omega
        obtain ⟨t, ht⟩ : ∃ t, ts[k]? = some t := ⟨_, List.getElem?_eq_getElem (by rw [HN.out]; exact hlt)⟩
        obtain ⟨c0, c1, c2, c3, c4, c5⟩ := HTr.out k t ht
        have htn := HTiny.out t (List.mem_of_getElem? ht)
        obtain ⟨T, hT⟩ : ∃ T, bs (showF t.k t.s t.d) = T := ⟨_, rfl⟩
        have hTl : T.size ≤ 2100 := by rw [← hT, bs_size]; exact showF_len htn
        have HSh := Lib.hid (fun W h => show_any t W h htn.2.1 htn.2.2)
        rw [hT] at HSh
        have HN1 : Hid (Jn (S ++ T ++ ⟨#[32]⟩) ts (fun _ => [32]) 1 (k + 1)) := HS.out.next ht hT.symm hTl rfl (Nat.le_refl _)
        have HNz := Lib.hid HN1.out.z
        obtain ⟨tk, tstr, ⟨dk, di, ds⟩, tp⟩ := t
        simp only at c0 c1 c2 c3 c4 c5 HSh
        clear ht htn hT
        go_wp2_with (first
          | (go_at_call 21; refine (HSh.out _ (HPr.out.below ((Below.refl _ _).alloc (Nat.le_refl _) _))).mono ?_; rintro e w5 ⟨rfl, hb5⟩; have HB5 := Lib.hid ((HBr.out.alloc hsz _).trans (hb5.mono (by simp; omega))); clear hb5)
          | fail)
        go_roundw
        case rel => exact ⟨k + 1, _, by omega, by go_num, rfl, HB5.out, HNz.out, HN1⟩
        case measure => simp [intOf]; omega
      · have hkN : k = N := by omega
        subst hkN
        have hlti : ¬ (k : Int) < (k : Int) := by omega
        have HSd : Hid (S.data.toList = joinN ts (fun _ => [32]) k) := by show _ = _; rw [HS.out.e]; rfl
        have HBw := Lib.hid (HB1.out.trans (HBr.out.mono HB1.out.size))
        have hgr := Nat.lt_of_lt_of_le hg2 hsz
        by_cases h4 : 4000 < S.size
        · have h4i : (4000 : Int) < (S.size : Int) := by omega
          go_wp2_with fail
          go_ret
          exact ⟨rfl, HBw.out⟩
        · have h4i : ¬ (4000 : Int) < (S.size : Int) := by omega
          have hj := HJ.out (by rw [← HSd.out]; show S.size ≤ 4000; omega)
          rw [← HSd.out] at hj
          obtain ⟨b, hb1, hb2⟩ := hj
          have HS2 := Lib.hid (same_of_bare hb2)
          have HL2 := Lib.hid (fun W h => lex_ok hb1 W h)
          clear hb1 hb2
          go_wp2_with (first
            | (go_at_call 15; refine (HL2.out _ HAr.out).mono ?_; rintro e w6 ⟨g6, cap6, rfl, hg61, hg62, hT, hb⟩; have HT6 := Lib.hid hT; have HT6' := Lib.hid (HTr.out.below hb hgr); have hgr6 := Nat.lt_of_lt_of_le hgr hb.size; have HB6 := Lib.hid (HBw.out.trans (hb.mono HBw.out.size)); clear hT hb)
            | (go_at_call 17; refine (HSm.out _ _ _ _ _ b hgr6 hg62 HT6'.out HT6.out HS2.out).mono ?_; rintro e w7 ⟨rfl, hb⟩; have HB7 := Lib.hid (HB6.out.trans (hb.mono HB6.out.size)); clear hb)
            | fail)
          go_ret
          exact ⟨rfl, HB7.out⟩
end Go.Proofs.YtnpgjlhnlakgpaaDoor

/- The document's number. -/
import Derived.Test.YtnpgjlhnlakgpaaDoorLexG3
import Derived.Test.YtnpgjlhnlakgpaaDoorLexF7
import Derived.Test.YtnpgjlhnlakgpaaDoorG11
import Derived.Deep.RegionHeld3
namespace Go.Proofs.YtnpgjlhnlakgpaaDoor
open Go.RowKit

theorem frac_at {s : ByteArray} {p : Nat} (h : p + 1 < s.size) : fracF (fromS s p) = if s[p] = 46 ∧ isDig s[p + 1] = true then some ((fromS s (p + 1)).takeWhile isDig) else none := by
  have e : fromS s p = s[p] :: s[p + 1] :: fromS s (p + 2) := by rw [from_lt (show p < s.size by omega), from_lt h]
  have e2 : fromS s (p + 1) = s[p + 1] :: fromS s (p + 2) := from_lt h
  by_cases hc : s[p] = 46 ∧ isDig s[p + 1] = true
  · rw [if_pos hc, e2, e]
    exact frac_yes hc.1 hc.2
  · rw [if_neg hc, e]
    exact frac_no hc
theorem frac_end {s : ByteArray} {p : Nat} (h : s.size ≤ p + 1) : fracF (fromS s p) = none := by
  apply frac_no
  rintro ⟨_, h2⟩
  have : (fromS s p).tail = [] := by
    rw [← List.drop_one, from_from]; exact from_ge h
  rw [this] at h2
  exact absurd h2 (by decide)
theorem amtF_lt : ∀ (n : Nat) (l : List UInt8), l.length = n → (∀ c ∈ l, isDig c = true) → amtF l < 10 ^ n
  | 0, l, hn, _ => by
    rw [List.length_eq_zero_iff] at hn
    subst hn
    decide
  | n + 1, l, hn, h => by
    have hne : l ≠ [] := fun e => by rw [e] at hn; simp at hn
    obtain ⟨a, c, rfl⟩ : ∃ a c, l = a ++ [c] := ⟨l.dropLast, l.getLast hne, (List.dropLast_concat_getLast hne).symm⟩
    have ih := amtF_lt n a (by simpa using hn) (fun x hx => h x (by simp [hx]))
    have hc := h c (by simp)
    unfold isDig at hc
    simp at hc
    rw [amtF_snoc, Nat.pow_succ]
    omega
theorem pow_six (k n : Nat) (h : n ≤ 6 * k) : 10 ^ n ≤ 1000000 ^ k := by
  have h1 : 10 ^ n ≤ 10 ^ (6 * k) := Nat.pow_le_pow_right (by decide) h
  rwa [Nat.pow_mul] at h1
theorem amt_fit {l : List UInt8} (h : ∀ c ∈ l, isDig c = true) (hl : l.length ≤ 4008) : Fit (amtF l : Int) := by
  refine Fit.of_lt (k := 668) ?_ (by decide)
  rw [Int.natAbs_natCast]
  exact Nat.lt_of_lt_of_le (amtF_lt _ l rfl h) (pow_six 668 _ hl)
def strZ : Value → Nat | .string s => s.size | _ => 0
/-- Where the walk of number stands when its digits are known. -/
structure RN (s : ByteArray) (i : Nat) (w W : World) (p : Nat) (S : ByteArray) (kd : Int) (ds : List UInt8) : Prop where
  p1 : i ≤ p
  p2 : p ≤ s.size
  z : S.size = ds.length
  zl : S.size ≤ 4004
  e : S.data.toList = ds
  d : ∀ c ∈ ds, isDig c = true
  n : numF (fromS s i) = numEnd kd ds (p - i) (fromS s i)
  g : GB W w.heap.size
  b : Below w.heap.size w W
/-- Where the loop over the digits stands. -/
structure RD (w W : World) (n nb : Nat) (vv : Value) (z : Nat) : Prop where
  bg : Bg W nb false vv
  bv : BigV W (.agg #[.bool false, vv]) (z : Int)
  g : GB W n
  b : Below w.heap.size w W
theorem RD.form {w W : World} {n nb : Nat} {vv : Value} {z : Nat} (h : RD w W n nb vv z) : ∃ p m c, vv = .slice p m c := by
  obtain ⟨p, m, c, hf⟩ := h.bv.formN (Int.natCast_nonneg _)
  exact ⟨p, m, c, (List.cons.inj (List.cons.inj (congrArg Array.toList (Value.agg.inj hf))).2).1⟩
theorem GB.set {w : World} {n b : Nat} (h : GB w n) (hb : n ≠ b) (o : Nat) (u : Value) : GB (w.setCell ⟨b, o, none⟩ u) n := h.of_block (Below.heap_setCell _ _ _ _ hb)
theorem rn_big {s : ByteArray} {i : Nat} {w W : World} {p : Nat} {S : ByteArray} {kd : Int} {ds : List UInt8} (h : RN s i w W p S kd ds) : RD w (W.alloc (.cells #[.bool false, .slice none 0 0] 149)) w.heap.size W.heap.size (.slice none 0 0) 0 := by
  have e : digs ((0 : Nat) : Int).natAbs = [] := List.eq_nil_of_length_eq_zero (digs_nil.2 rfl)
  exact ⟨Bg.new W false (.slice none 0 0) _, ⟨.slice none 0 0, by simp, none, 0, by rw [e]; rfl, by rw [e]; exact Nat.le_refl _, .inl e⟩, h.g.below ((Below.refl _ _).alloc (Nat.le_refl _) _), h.b.alloc h.b.size _⟩

set_option maxRecDepth 100000 in
set_option maxHeartbeats 8000000 in
theorem rnumber_any {s : ByteArray} {i : Nat} (hs : s.size ≤ 4000) (hi : i < s.size) (w : World) :
    Calls Tryd.prog 88 #[.string s, .int .i64 (i : Int)] w fun e w' => e = .returned (gotV (numF (fromS s i)) i) ∧ Below w.heap.size w w' := by
  obtain ⟨A, hA⟩ : ∃ A, (fromS s i).takeWhile isDig = A := ⟨_, rfl⟩
  have HA := Lib.hid hA
  have hAd : Hid (∀ c ∈ A, isDig c = true) := by intro c hc; rw [← hA] at hc; exact takeWhile_all isDig _ c hc
  have hAl : i + A.length ≤ s.size := by
    have := takeWhile_le isDig (fromS s i)
    rw [hA, from_len] at this; omega
  have HD1 := Lib.hid (fun W => rdigits_any hs (show i ≤ s.size by omega) W)
  rw [hA] at HD1
  obtain ⟨p0, hp0⟩ : ∃ p0, i + A.length = p0 := ⟨_, rfl⟩
  obtain ⟨S1, hS1⟩ : ∃ S1, s.extract i p0 = S1 := ⟨_, rfl⟩
  have HS1 : Hid (S1 = bs A) := by show _ = _; rw [← hS1, ← hp0, ← hA]; exact tw_extract s i isDig
  have hS1z : S1.size = A.length := by rw [HS1.out, bs_size]
  have HN : Hid (numF (fromS s i) = match fracF (fromS s p0) with
      | none => numEnd 2 A A.length (fromS s i)
      | some f => if 4 < f.length then .bad 42 0 else numEnd 3 (A ++ f ++ List.replicate (4 - f.length) 48) (A.length + 1 + f.length) (fromS s i)) := by
    show _ = _
    rw [← hp0, ← hA, ← from_from]
    rfl
  rw [hp0] at HD1 hAl
  have hS1b : S1.size ≤ 4000 := by omega
  have HP0 := Lib.hid hp0
  have hip0 : i ≤ p0 := by omega
  clear hA hp0
  have HE : Hid ((i : Int) = (i : Int)) := rfl
  go_enter Tryd.func88, Tryd.ntmps88
  have HG0 := Lib.hid (GB.new w 92)
  have HB0 := Lib.hid (gb_new w)
  go_upto_region 4 with (first | (go_at_call 118; refine (HD1.out _).mono ?_; clear HD1; rintro e w1 ⟨rfl, hB1⟩; have HG1 := Lib.hid (HG0.out.below hB1); have HB1 := Lib.hid (HB0.out.trans (hB1.mono HB0.out.size)); clear hB1) | fail)
  go_cut [38] (fun bv wc => wc = w1 ∧ ∃ cb : Bool, bv = .bool cb ∧ (cb = true → p0 + 1 < s.size) ∧ Hid (fracF (fromS s p0) = if cb = true then some ((fromS s (p0 + 1)).takeWhile isDig) else none))
  case first =>
    by_cases h1 : p0 + 1 < s.size
    · have h1i : (p0 : Int) + 1 < (s.size : Int) := by omega
      have HF := Lib.hid (frac_at h1)
      by_cases h2 : s[p0] = 46
      · have h2i : (s[p0].toNat : Int) = 46 := by rw [h2]; rfl
        cases hdg : isDig s[p0 + 1] with
        | true =>
          have HF2 : Hid (fracF (fromS s p0) = if true = true then some ((fromS s (p0 + 1)).takeWhile isDig) else none) := by show _ = _; rw [HF.out, if_pos ⟨h2, hdg⟩, if_pos rfl]
          clear HF h2
          go_wp2_with (first | (go_at_call 58; refine (is_rdig hdg _).mono ?_; rintro e w9 ⟨rfl, hw9⟩; rw [hw9]; clear hw9) | fail)
          go_meet
          case rel => exact ⟨rfl, true, rfl, fun _ => h1, HF2⟩
        | false =>
          have HF2 : Hid (fracF (fromS s p0) = if false = true then some ((fromS s (p0 + 1)).takeWhile isDig) else none) := by show _ = _; rw [HF.out, if_neg (by rw [hdg]; simp), if_neg (by decide)]
          clear HF h2
          go_wp2_with (first | (go_at_call 58; refine (is_rdig hdg _).mono ?_; rintro e w9 ⟨rfl, hw9⟩; rw [hw9]; clear hw9) | fail)
          go_meet
          case rel => exact ⟨rfl, false, rfl, fun h => (by cases h), HF2⟩
      · have h2i : ((s[p0].toNat : Int) == 46) = false := by simp; exact fun h => h2 (by apply UInt8.toNat_inj.1; have : (46 : UInt8).toNat = 46 := rfl; omega)
        have HF2 : Hid (fracF (fromS s p0) = if false = true then some ((fromS s (p0 + 1)).takeWhile isDig) else none) := by show _ = _; rw [HF.out, if_neg (fun h => h2 h.1), if_neg (by decide)]
        clear HF h2
        go_wp2_with fail
        go_meet
        case rel => exact ⟨rfl, false, rfl, fun h => (by cases h), HF2⟩
    · have h1i : ¬ (p0 : Int) + 1 < (s.size : Int) := by omega
      have HF2 : Hid (fracF (fromS s p0) = if false = true then some ((fromS s (p0 + 1)).takeWhile isDig) else none) := by show _ = _; rw [frac_end (by omega), if_neg (by decide)]
      go_wp2_with fail
      go_meet
      case rel => exact ⟨rfl, false, rfl, fun h => (by cases h), HF2⟩
  case rest =>
    obtain ⟨rfl, cb, rfl, hcb, HF⟩ := hcut
    go_upto_if 38 with fail
    go_cut [5, 6, 7] from 8 (fun pv tv kv wc => ∃ (p : Nat) (S : ByteArray) (kd : Int) (ds : List UInt8), pv = .int .i64 (p : Int) ∧ tv = .string S ∧ kv = .int .i64 kd ∧ RN s i w wc p S kd ds)
    case first =>
      cases cb with
      | false =>
        have hR : Hid (RN s i w wc p0 S1 2 A) := by
          have h := HN.out
          rw [HF.out] at h
          exact ⟨hip0, hAl, hS1z, by have := HP0.out; omega, by rw [HS1.out]; rfl, hAd.out, by rw [h, ← HP0.out]; simp, HG1.out, HB1.out⟩
        go_wp2_with fail
        go_meet
        case rel => exact ⟨p0, S1, 2, A, rfl, rfl, rfl, hR.out⟩
      | true =>
        have h1 := hcb rfl
        obtain ⟨F, hF⟩ : ∃ F, (fromS s (p0 + 1)).takeWhile isDig = F := ⟨_, rfl⟩
        have hFd : Hid (∀ c ∈ F, isDig c = true) := by intro c hc; rw [← hF] at hc; exact takeWhile_all isDig _ c hc
        have hFl : p0 + 1 + F.length ≤ s.size := by
          have := takeWhile_le isDig (fromS s (p0 + 1))
          rw [hF, from_len] at this; omega
        have HD2 := Lib.hid (fun W => rdigits_any hs (show p0 + 1 ≤ s.size by omega) W)
        rw [hF] at HD2 HF
        obtain ⟨p2, hp2⟩ : ∃ p2, p0 + 1 + F.length = p2 := ⟨_, rfl⟩
        obtain ⟨S2, hS2⟩ : ∃ S2, s.extract (p0 + 1) p2 = S2 := ⟨_, rfl⟩
        have HS2 : Hid (S2 = bs F) := by show _ = _; rw [← hS2, ← hp2, ← hF]; exact tw_extract s (p0 + 1) isDig
        have hS2z : S2.size = F.length := by rw [HS2.out, bs_size]
        rw [hp2] at HD2 hFl
        have HP2 := Lib.hid hp2
        have hp02 : p0 + 1 ≤ p2 := by omega
        have HN2 : Hid (numF (fromS s i) = if 4 < F.length then .bad 42 0 else numEnd 3 (A ++ F ++ List.replicate (4 - F.length) 48) (A.length + 1 + F.length) (fromS s i)) := by
          have h := HN.out
          rw [HF.out] at h
          exact h
        have HD2i : Hid (∀ W : World, Calls Tryd.prog 118 #[.string s, .int .i64 ((p0 : Int) + 1)] W fun e w' => e = .returned (.int .i64 (p2 : Int)) ∧ Below W.heap.size W w') := HD2.out
        clear hp2 hF HN HF HD2
        by_cases h4 : 4 < F.length
        · have h4i : (4 : Int) < (S2.size : Int) := by omega
          have HR : Hid (numF (fromS s i) = .bad 42 0) := by show _ = _; rw [HN2.out, if_pos h4]
          go_wp2_with (first | (go_at_call 118; refine (HD2i.out _).mono ?_; rintro e w2 ⟨rfl, hB2⟩; have HG2 := Lib.hid (HG1.out.below hB2); have HB2 := Lib.hid (HB1.out.trans (hB2.mono HB1.out.size)); clear hB2) | (go_at_call 116; refine (wrong_any _ _ _).mono ?_; rintro e w5 ⟨rfl, hB5⟩; have HG5 := Lib.hid (HG2.out.below hB5); have HB5 := Lib.hid (HB2.out.trans (hB5.mono HB2.out.size)); clear hB5; obtain ⟨⟨tc0, tc1, tc2, tc3, tc4, tc5, tc6, tc7, tc8, tc9⟩, tf0, tf1, tf2, tf3, tf4, tf5, tf6, tf7, tf8, tf9⟩ := HG5.out.c_f; have tlt := HG5.out.lt) | fail)
          refine bodyPost_ret (v := gotV (.bad 42 0) i) (by have hke := HE.out; simp [results, Tryd.results88, go_sem, gotV, tc0, tc1, tc2, tc3, tc4, tc5, tc6, tc7, tc8, tc9] <;> omega) rfl ⟨by rw [HR.out], below_put10 HB5.out (Nat.le_refl _) _ _ _ _ _ _ _ _ _ _⟩
        · have h4i : ¬ (4 : Int) < (S2.size : Int) := by omega
          go_wp2_with (first | (go_at_call 118; refine (HD2i.out _).mono ?_; rintro e w2 ⟨rfl, hB2⟩; have HG2 := Lib.hid (HG1.out.below hB2); have HB2 := Lib.hid (HB1.out.trans (hB2.mono HB1.out.size)); clear hB2) | fail)
          go_loopw [9] (fun sv wr => ∃ (j : Nat) (S9 : ByteArray), sv = .string S9 ∧ F.length + j ≤ 4 ∧ S9.size = F.length + j ∧ Hid (S9 = bs (F ++ List.replicate j 48)) ∧ wr = w2) (fun sv _ => 4 - strZ sv)
          case atStart => exact ⟨0, S2, rfl, by omega, by omega, by show _ = _; rw [HS2.out]; simp, rfl⟩
          case round =>
            obtain ⟨j, S9, rfl, hj, hz9, H9, rfl⟩ := hrel
            by_cases hlt : S9.size < 4
            · have hlti : (S9.size : Int) < 4 := by omega
              have HX : Hid (S9 ++ ⟨#[48]⟩ = bs (F ++ List.replicate (j + 1) 48)) := by
                show _ = _
                rw [H9.out, show (⟨#[48]⟩ : ByteArray) = bs [48] from rfl, bs_append, List.replicate_succ', List.append_assoc]
              have HXz : Hid ((S9 ++ (⟨#[48]⟩ : ByteArray)).size = S9.size + 1) := by show _ = _; rw [ByteArray.size_append]; rfl
              go_wp2_with fail
              go_roundw
              case rel => exact ⟨j + 1, _, rfl, by omega, by rw [HXz.out]; omega, HX, trivial⟩
              case measure =>
                show 4 - (S9 ++ (⟨#[48]⟩ : ByteArray)).size < 4 - S9.size
                rw [HXz.out]; omega
            · have hlti : ¬ (S9.size : Int) < 4 := by omega
              have hjj : j = 4 - F.length := by omega
              have HX : Hid (S1 ++ S9 = bs (A ++ F ++ List.replicate (4 - F.length) 48)) := by
                show _ = _
                rw [HS1.out, H9.out, bs_append, hjj, List.append_assoc]
              have HXz : Hid ((S1 ++ S9).size = S1.size + S9.size) := by show _ = _; rw [ByteArray.size_append]
              have HR : Hid (RN s i w wr p2 (S1 ++ S9) 3 (A ++ F ++ List.replicate (4 - F.length) 48)) := by
                have e1 := HP0.out
                have e2 := HP2.out
                refine ⟨by omega, hFl, by rw [HXz.out]; simp; omega, by rw [HXz.out]; omega, by rw [HX.out]; rfl, ?_, ?_, HG2.out, HB2.out⟩
                · intro c hc
                  rcases List.mem_append.1 hc with hc | hc
                  · rcases List.mem_append.1 hc with hc | hc
                    · exact hAd.out c hc
                    · exact hFd.out c hc
                  · rw [(List.mem_replicate.1 hc).2]; decide
                · rw [HN2.out, if_neg h4, show p2 - i = A.length + 1 + F.length by omega]
              go_wp2_with fail
              go_meet
              case rel => exact ⟨p2, _, 3, _, rfl, rfl, rfl, HR.out⟩
    case rest =>
      obtain ⟨p, S, kd, ds, rfl, rfl, rfl, hR⟩ := hcut
      have HRN := Lib.hid hR
      have hp1 := hR.p1
      have hp2 := hR.p2
      have hz := hR.z
      have hzl := hR.zl
      have HB0 := Lib.hid (rn_big hR)
      obtain ⟨AM, hAM⟩ : ∃ AM, amtF ds = AM := ⟨_, rfl⟩
      have HAM := Lib.hid hAM
      have HFit := Lib.hid (amt_fit hR.d (by omega))
      have HBG := HB0
      have hwl : w.heap.size < wc.heap.size := hR.g.lt
      clear HG0 HG1 HB1 hR HN HF HS1 hAM
      go_wp2_with fail
      generalize wc.alloc (.cells #[.bool false, .slice none 0 0] 149) = W0 at *
      go_loopw [11] (fun iv wr => ∃ (k : Nat) (vv : Value), k ≤ ds.length ∧ iv = .int .i64 (k : Int) ∧ RD w wr w.heap.size wc.heap.size vv (amtF (ds.take k))) (fun iv _ => ds.length - (intOf iv).toNat)
      case atStart => exact ⟨0, _, Nat.zero_le _, rfl, by simpa [amtF] using HBG.out⟩
      case round =>
        obtain ⟨k, vv, hk, rfl, hD⟩ := hrel
        have HD := Lib.hid hD
        obtain ⟨pa, na, ca, rfl⟩ := hD.form
        have n0 := hD.bg.c0
        have n1 := hD.bg.c1
        have nl := hD.bg.lt
        clear hD
        by_cases hlt : k < ds.length
        · have hlti : (k : Int) < (S.size : Int) := by omega
          have hltn : k < S.size := by omega
          obtain ⟨c, hc⟩ : ∃ c, S[k] = c := ⟨_, rfl⟩
          obtain ⟨z, hzz⟩ : ∃ z, amtF (ds.take k) = z := ⟨_, rfl⟩
          obtain ⟨dz, hdz⟩ : ∃ dz : Nat, c.toNat - 48 = dz := ⟨_, rfl⟩
          have hds : ds[k] = c := by
            have h1 := at_data hltn (by rw [HRN.out.e]; exact hlt)
            rw [← hc, h1]
            simp only [HRN.out.e]
          have hdg : isDig c = true := hds ▸ HRN.out.d _ (List.getElem_mem hlt)
          have hcz : (c.toNat : Int) - 48 = (dz : Int) ∧ dz ≤ 9 := by unfold isDig at hdg; simp at hdg; omega
          obtain ⟨hcz, hdz9⟩ := hcz
          have HZ : Hid (amtF (ds.take (k + 1)) = 10 * z + dz) := by
            show _ = _
            rw [List.take_succ_eq_append_getElem hlt, amtF_snoc, hzz, hds, hdz]
          have fz : Fit (z : Int) := by rw [← hzz]; exact amt_fit (fun x hx => HRN.out.d x (List.mem_of_mem_take hx)) (by rw [List.length_take]; omega)
          have fz10 : Fit ((z : Int) * 10) := by
            have h1 := amt_fit (l := ds.take k ++ [48]) (fun x hx => by
              rcases List.mem_append.1 hx with hx | hx
              · exact HRN.out.d x (List.mem_of_mem_take hx)
              · simp at hx; subst hx; decide) (by rw [List.length_append, List.length_take]; simp; omega)
            rw [amtF_snoc, hzz] at h1
            have e : ((10 * z + ((48 : UInt8).toNat - 48) : Nat) : Int) = (z : Int) * 10 := by
              have : (48 : UInt8).toNat = 48 := rfl
              rw [this]; omega
            rwa [e] at h1
          have HT := Lib.hid (fun (W : World) (v1 v2 : Value) (h1 : BigV W v1 (z : Int)) (h2 : BigV W v2 10) => times_v h1 h2 fz (fit64 (by omega) (by omega)))
          have HPl := Lib.hid (fun (W : World) (v1 v2 : Value) (h1 : BigV W v1 ((z : Int) * 10)) (h2 : BigV W v2 (dz : Int)) => plus_v h1 h2 fz10 (fit64 (by omega) (by omega)))
          have HO10 := Lib.hid (fun (W : World) => of_v 10 (by omega) (by omega) W)
          have HOd := Lib.hid (fun (W : World) => of_v (dz : Int) (by omega) (by omega) W)
          have hw8 : IntKind.u8.wrap ((c.toNat : Int) - 48) = (dz : Int) := by rw [hcz, IntKind.wrap_u8]; omega
          have hw8b : IntKind.u8.wrap (dz : Int) = (dz : Int) := by rw [IntKind.wrap_u8]; omega
          have hw64 : IntKind.i64.wrap (dz : Int) = (dz : Int) := by rw [IntKind.wrap_i64]; omega
          have HBV : Hid (BigV wr (.agg #[.bool false, .slice pa na ca]) (z : Int)) := by have := HD.out.bv; rwa [hzz] at this
          have NN : Hid ((0 : Int) ≤ (z : Int) * 10 + (dz : Int)) := by show _ ≤ _; omega
          clear hdz hds hdg fz fz10 hzz
          go_wp2_with fail
          go_region_with
            (first
              | (go_at_call_of 121 (Value.int IntKind.i64 10); (with_reducible refine (HO10.out _).mono ?_); rintro e w1 ⟨v1, rfl, hv1, hb1⟩; have hK1 : Below wr.heap.size wr w1 := (by refine Below.trans (?_ : Below wr.heap.size wr _) hb1; repeat' (first | exact Below.refl _ _ | refine Below.drew ?_)); have m0 := (hK1.cell (p := ⟨wc.heap.size, 0, none⟩) nl).trans n0; have m1 := (hK1.cell (p := ⟨wc.heap.size, 1, none⟩) nl).trans n1; have ml1 : wc.heap.size < w1.heap.size := Nat.lt_of_lt_of_le nl hK1.size)
              | (go_at_call 120; (with_reducible refine (HT.out _ _ _ ((HBV.out.below hK1).below (by repeat' (first | exact Below.refl _ _ | refine Below.drew ?_))) (hv1.below (by repeat' (first | exact Below.refl _ _ | refine Below.drew ?_)))).mono ?_); rintro e w2 ⟨v2, rfl, hv2, hb2⟩; have hK2 : Below wr.heap.size wr w2 := (by have hX := hK1.size; refine Below.trans (?_ : Below wr.heap.size wr _) (hb2.mono (by first | exact hX | simpa using hX)); repeat' (first | exact hK1 | refine Below.drew ?_)))
              | (go_at_call 121; (with_reducible refine (HOd.out _).mono ?_); rintro e w3 ⟨v3, rfl, hv3, hb3⟩; have hK3 : Below wr.heap.size wr w3 := (by have hX := hK2.size; refine Below.trans (?_ : Below wr.heap.size wr _) (hb3.mono (by first | exact hX | simpa using hX)); repeat' (first | exact hK2 | refine Below.drew ?_)); have hv2' := hv2.below hb3)
              | (go_at_call 119; (with_reducible refine (HPl.out _ _ _ (hv2'.below (by repeat' (first | exact Below.refl _ _ | refine Below.drew ?_))) (hv3.below (by repeat' (first | exact Below.refl _ _ | refine Below.drew ?_)))).mono ?_); rintro e w4 ⟨v4, rfl, hv4, hb4⟩; have hK4 : Below wr.heap.size wr w4 := (by have hX := hK3.size; refine Below.trans (?_ : Below wr.heap.size wr _) (hb4.mono (by first | exact hX | simpa using hX)); repeat' (first | exact hK3 | refine Below.drew ?_)); have M4 := HD.out.bg.below hK4 nl; have m0 := M4.c0; have m1 := M4.c1; have mf := M4.f0; have mg := M4.f1; have ml := M4.lt; have HG4 := Lib.hid (HD.out.g.below hK4); obtain ⟨p4, n4, c4, rfl⟩ := hv4.formN NN.out))
          all_goals
            go_wp2_with fail
            go_roundw
            case rel =>
              refine ⟨k + 1, _, by omega, by go_num, (M4.set0 _).set1 _, ?_, (HG4.out.set (by omega) _ _).set (by omega) _ _, ((HD.out.b.trans (hK4.mono HD.out.b.size)).setCell (p := ⟨wc.heap.size, 0, none⟩) (by show _ ≤ wc.heap.size; omega) _).setCell (p := ⟨wc.heap.size, 1, none⟩) (by show _ ≤ wc.heap.size; omega) _⟩
              rw [HZ.out]
              have hu : URow w4 (.slice p4 n4 c4) (digs (10 * z + dz)) := BigV.row (m := false) (by rw [show ((10 * z + dz : Nat) : Int) = (z : Int) * 10 + (dz : Int) by omega]; exact hv4)
              exact big_of ((hu.set M4 0 _).set (M4.set0 _) 1 _)
            case measure => simp [intOf]; omega
        · have hkd : k = ds.length := by omega
          have hlti : ¬ (k : Int) < (S.size : Int) := by omega
          have HBV : Hid (BigV wr (.agg #[.bool false, .slice pa na ca]) (AM : Int)) := by
            have := HD.out.bv
            rwa [hkd, List.take_length, HAM.out] at this
          have fz : Fit (AM : Int) := by rw [← HAM.out]; exact HFit.out
          have fz2 : Fit (-(AM : Int)) := by unfold Fit at *; rwa [Int.natAbs_neg]
          have HFm := Lib.hid fz2
          have HNE : Hid (numF (fromS s i) = if 9223372036854775808 < AM ∨ (∃ c, (fromS s p).head? = some c ∧ isLet c = true) then .bad 42 0 else .ok 3 ⟨#[]⟩ ⟨kd, amtV AM, ⟨#[]⟩⟩ (p - i)) := by
            show _ = _
            rw [HRN.out.n]
            unfold numEnd amtV
            rw [HAM.out, from_from, show i + (p - i) = p by omega]
            by_cases hb : 9223372036854775808 < AM ∨ (∃ c, (fromS s p).head? = some c ∧ isLet c = true)
            · rw [if_pos hb, if_pos hb]
            · rw [if_neg hb, if_neg hb]
          clear fz fz2
          by_cases hok : AM ≤ 9223372036854775808
          · have HFt : Hid (∀ (W : World) (v : Value), BigV W v (-(AM : Int)) → Calls Tryd.prog 122 #[v] W fun e w' => e = .returned (.tuple #[.int .i64 (-(AM : Int)), .bool true]) ∧ Below W.heap.size W w') := by
              intro W v hv
              have h := fits_v hv HFm.out
              rw [if_pos (by omega), decide_eq_true (by omega)] at h
              exact h
            by_cases hp : p < s.size
            · have hpi : (p : Int) < (s.size : Int) := by omega
              have HF := Lib.hid (from_lt hp)
              cases hlt2 : isLet s[p] with
              | true =>
                have HR : Hid (numF (fromS s i) = .bad 42 0) := by show _ = _; rw [HNE.out, if_pos (.inr ⟨s[p], by rw [HF.out]; rfl, hlt2⟩)]
                clear HNE HF
                go_wp2_with (first | (go_at_call 123; refine (minus_v HBV.out).mono ?_; rintro e w6 ⟨v6, rfl, hv6, hb6⟩; have HV6 := Lib.hid hv6; have HB6 := Lib.hid (HD.out.b.trans (hb6.mono HD.out.b.size)); have HG6 := Lib.hid (HD.out.g.below hb6); clear hv6 hb6) | (go_at_call 122; refine (HFt.out _ _ HV6.out).mono ?_; rintro e w7 ⟨rfl, hb7⟩; have HB7 := Lib.hid (HB6.out.trans (hb7.mono HB6.out.size)); have HG7 := Lib.hid (HG6.out.below hb7); clear hb7) | (go_at_call 57; refine (is_rlet hlt2 _).mono ?_; rintro e w9 ⟨rfl, hw9⟩; rw [hw9]; clear hw9) | (go_at_call 116; refine (wrong_any _ _ _).mono ?_; rintro e w5 ⟨rfl, hB5⟩; have HG5 := Lib.hid (HG7.out.below hB5); have HB5 := Lib.hid (HB7.out.trans (hB5.mono HB7.out.size)); clear hB5; obtain ⟨⟨tc0, tc1, tc2, tc3, tc4, tc5, tc6, tc7, tc8, tc9⟩, tf0, tf1, tf2, tf3, tf4, tf5, tf6, tf7, tf8, tf9⟩ := HG5.out.c_f; have tlt := HG5.out.lt) | fail)
                refine bodyPost_ret (v := gotV (.bad 42 0) i) (by have hke := HE.out; simp [results, Tryd.results88, go_sem, gotV, tc0, tc1, tc2, tc3, tc4, tc5, tc6, tc7, tc8, tc9] <;> omega) rfl ⟨by rw [HR.out], below_put10 HB5.out (Nat.le_refl _) _ _ _ _ _ _ _ _ _ _⟩
              | false =>
                have HR : Hid (numF (fromS s i) = .ok 3 ⟨#[]⟩ ⟨kd, amtV AM, ⟨#[]⟩⟩ (p - i)) := by
                  show _ = _
                  rw [HNE.out, if_neg]
                  rintro (h | ⟨c, h1, h2⟩)
                  · omega
                  · rw [HF.out] at h1
                    cases h1
                    rw [hlt2] at h2; cases h2
                clear HNE HF
                have HE2 : Hid (((i + (p - i) : Nat) : Int) = (p : Int)) := by show _ = _; omega
                by_cases hmin : AM = 9223372036854775808
                · have HAV : Hid (amtV AM = -9223372036854775808) := by show _ = _; unfold amtV; rw [if_pos hmin]
                  have hmi : (AM : Int) = 9223372036854775808 := by omega
                  go_wp2_with (first | (go_at_call 123; refine (minus_v HBV.out).mono ?_; rintro e w6 ⟨v6, rfl, hv6, hb6⟩; have HV6 := Lib.hid hv6; have HB6 := Lib.hid (HD.out.b.trans (hb6.mono HD.out.b.size)); have HG6 := Lib.hid (HD.out.g.below hb6); clear hv6 hb6) | (go_at_call 122; refine (HFt.out _ _ HV6.out).mono ?_; rintro e w7 ⟨rfl, hb7⟩; have HB7 := Lib.hid (HB6.out.trans (hb7.mono HB6.out.size)); have HG7 := Lib.hid (HG6.out.below hb7); clear hb7; obtain ⟨⟨tc0, tc1, tc2, tc3, tc4, tc5, tc6, tc7, tc8, tc9⟩, tf0, tf1, tf2, tf3, tf4, tf5, tf6, tf7, tf8, tf9⟩ := HG7.out.c_f; have tlt := HG7.out.lt) | (go_at_call 57; refine (is_rlet hlt2 _).mono ?_; rintro e w9 ⟨rfl, hw9⟩; rw [hw9]; clear hw9) | fail)
                  refine bodyPost_ret (v := .agg #[.int .i64 3, .string ⟨#[]⟩, .int .i64 kd, .int .i64 (-9223372036854775808), .string ⟨#[]⟩, .int .i64 (i : Int), .int .i64 (p : Int), .int .i64 0, .int .i64 0, .bool false]) (by simp [results, Tryd.results88, go_sem, tc0, tc1, tc2, tc3, tc4, tc5, tc6, tc7, tc8, tc9]) rfl ⟨by rw [HR.out, gotV_ok, HE2.out, HAV.out], below_put10 HB7.out (Nat.le_refl _) _ _ _ _ _ _ _ _ _ _⟩
                · have HAV : Hid (amtV AM = (AM : Int)) := by show _ = _; unfold amtV; rw [if_neg hmin]
                  have hmi : ¬ (AM : Int) = 9223372036854775808 := by omega
                  have hmi2 : (-(AM : Int) != -9223372036854775808) = true := by simp; omega
                  have hmi3 : ¬ -(AM : Int) = -9223372036854775808 := by omega
                  go_wp2_with (first | (go_at_call 123; refine (minus_v HBV.out).mono ?_; rintro e w6 ⟨v6, rfl, hv6, hb6⟩; have HV6 := Lib.hid hv6; have HB6 := Lib.hid (HD.out.b.trans (hb6.mono HD.out.b.size)); have HG6 := Lib.hid (HD.out.g.below hb6); clear hv6 hb6) | (go_at_call 122; refine (HFt.out _ _ HV6.out).mono ?_; rintro e w7 ⟨rfl, hb7⟩; have HB7 := Lib.hid (HB6.out.trans (hb7.mono HB6.out.size)); have HG7 := Lib.hid (HG6.out.below hb7); clear hb7; obtain ⟨⟨tc0, tc1, tc2, tc3, tc4, tc5, tc6, tc7, tc8, tc9⟩, tf0, tf1, tf2, tf3, tf4, tf5, tf6, tf7, tf8, tf9⟩ := HG7.out.c_f; have tlt := HG7.out.lt) | (go_at_call 57; refine (is_rlet hlt2 _).mono ?_; rintro e w9 ⟨rfl, hw9⟩; rw [hw9]; clear hw9) | fail)
                  refine bodyPost_ret (v := .agg #[.int .i64 3, .string ⟨#[]⟩, .int .i64 kd, .int .i64 (AM : Int), .string ⟨#[]⟩, .int .i64 (i : Int), .int .i64 (p : Int), .int .i64 0, .int .i64 0, .bool false]) (by simp [results, Tryd.results88, go_sem, tc0, tc1, tc2, tc3, tc4, tc5, tc6, tc7, tc8, tc9]) rfl ⟨by rw [HR.out, gotV_ok, HE2.out, HAV.out], below_put10 HB7.out (Nat.le_refl _) _ _ _ _ _ _ _ _ _ _⟩
            · have hpi : ¬ (p : Int) < (s.size : Int) := by omega
              have HR : Hid (numF (fromS s i) = .ok 3 ⟨#[]⟩ ⟨kd, amtV AM, ⟨#[]⟩⟩ (p - i)) := by
                show _ = _
                rw [HNE.out, if_neg]
                rintro (h | ⟨c, h1, h2⟩)
                · omega
                · rw [from_ge (by omega)] at h1
                  cases h1
              clear HNE
              have HE2 : Hid (((i + (p - i) : Nat) : Int) = (p : Int)) := by show _ = _; omega
              by_cases hmin : AM = 9223372036854775808
              · have HAV : Hid (amtV AM = -9223372036854775808) := by show _ = _; unfold amtV; rw [if_pos hmin]
                have hmi : (AM : Int) = 9223372036854775808 := by omega
                go_wp2_with (first | (go_at_call 123; refine (minus_v HBV.out).mono ?_; rintro e w6 ⟨v6, rfl, hv6, hb6⟩; have HV6 := Lib.hid hv6; have HB6 := Lib.hid (HD.out.b.trans (hb6.mono HD.out.b.size)); have HG6 := Lib.hid (HD.out.g.below hb6); clear hv6 hb6) | (go_at_call 122; refine (HFt.out _ _ HV6.out).mono ?_; rintro e w7 ⟨rfl, hb7⟩; have HB7 := Lib.hid (HB6.out.trans (hb7.mono HB6.out.size)); have HG7 := Lib.hid (HG6.out.below hb7); clear hb7; obtain ⟨⟨tc0, tc1, tc2, tc3, tc4, tc5, tc6, tc7, tc8, tc9⟩, tf0, tf1, tf2, tf3, tf4, tf5, tf6, tf7, tf8, tf9⟩ := HG7.out.c_f; have tlt := HG7.out.lt) | fail)
                refine bodyPost_ret (v := .agg #[.int .i64 3, .string ⟨#[]⟩, .int .i64 kd, .int .i64 (-9223372036854775808), .string ⟨#[]⟩, .int .i64 (i : Int), .int .i64 (p : Int), .int .i64 0, .int .i64 0, .bool false]) (by simp [results, Tryd.results88, go_sem, tc0, tc1, tc2, tc3, tc4, tc5, tc6, tc7, tc8, tc9]) rfl ⟨by rw [HR.out, gotV_ok, HE2.out, HAV.out], below_put10 HB7.out (Nat.le_refl _) _ _ _ _ _ _ _ _ _ _⟩
              · have HAV : Hid (amtV AM = (AM : Int)) := by show _ = _; unfold amtV; rw [if_neg hmin]
                have hmi : ¬ (AM : Int) = 9223372036854775808 := by omega
                have hmi2 : (-(AM : Int) != -9223372036854775808) = true := by simp; omega
                have hmi3 : ¬ -(AM : Int) = -9223372036854775808 := by omega
                go_wp2_with (first | (go_at_call 123; refine (minus_v HBV.out).mono ?_; rintro e w6 ⟨v6, rfl, hv6, hb6⟩; have HV6 := Lib.hid hv6; have HB6 := Lib.hid (HD.out.b.trans (hb6.mono HD.out.b.size)); have HG6 := Lib.hid (HD.out.g.below hb6); clear hv6 hb6) | (go_at_call 122; refine (HFt.out _ _ HV6.out).mono ?_; rintro e w7 ⟨rfl, hb7⟩; have HB7 := Lib.hid (HB6.out.trans (hb7.mono HB6.out.size)); have HG7 := Lib.hid (HG6.out.below hb7); clear hb7; obtain ⟨⟨tc0, tc1, tc2, tc3, tc4, tc5, tc6, tc7, tc8, tc9⟩, tf0, tf1, tf2, tf3, tf4, tf5, tf6, tf7, tf8, tf9⟩ := HG7.out.c_f; have tlt := HG7.out.lt) | fail)
                refine bodyPost_ret (v := .agg #[.int .i64 3, .string ⟨#[]⟩, .int .i64 kd, .int .i64 (AM : Int), .string ⟨#[]⟩, .int .i64 (i : Int), .int .i64 (p : Int), .int .i64 0, .int .i64 0, .bool false]) (by simp [results, Tryd.results88, go_sem, tc0, tc1, tc2, tc3, tc4, tc5, tc6, tc7, tc8, tc9]) rfl ⟨by rw [HR.out, gotV_ok, HE2.out, HAV.out], below_put10 HB7.out (Nat.le_refl _) _ _ _ _ _ _ _ _ _ _⟩
          · have HFt : Hid (∀ (W : World) (v : Value), BigV W v (-(AM : Int)) → Calls Tryd.prog 122 #[v] W fun e w' => e = .returned (.tuple #[.int .i64 0, .bool false]) ∧ Below W.heap.size W w') := by
              intro W v hv
              have h := fits_v hv HFm.out
              rw [if_neg (by omega), decide_eq_false (by omega)] at h
              exact h
            have HR : Hid (numF (fromS s i) = .bad 42 0) := by show _ = _; rw [HNE.out, if_pos (.inl (by omega))]
            clear HNE
            go_wp2_with (first | (go_at_call 123; refine (minus_v HBV.out).mono ?_; rintro e w6 ⟨v6, rfl, hv6, hb6⟩; have HV6 := Lib.hid hv6; have HB6 := Lib.hid (HD.out.b.trans (hb6.mono HD.out.b.size)); have HG6 := Lib.hid (HD.out.g.below hb6); clear hv6 hb6) | (go_at_call 122; refine (HFt.out _ _ HV6.out).mono ?_; rintro e w7 ⟨rfl, hb7⟩; have HB7 := Lib.hid (HB6.out.trans (hb7.mono HB6.out.size)); have HG7 := Lib.hid (HG6.out.below hb7); clear hb7) | (go_at_call 116; refine (wrong_any _ _ _).mono ?_; rintro e w5 ⟨rfl, hB5⟩; have HG5 := Lib.hid (HG7.out.below hB5); have HB5 := Lib.hid (HB7.out.trans (hB5.mono HB7.out.size)); clear hB5; obtain ⟨⟨tc0, tc1, tc2, tc3, tc4, tc5, tc6, tc7, tc8, tc9⟩, tf0, tf1, tf2, tf3, tf4, tf5, tf6, tf7, tf8, tf9⟩ := HG5.out.c_f; have tlt := HG5.out.lt) | fail)
            refine bodyPost_ret (v := gotV (.bad 42 0) i) (by have hke := HE.out; simp [results, Tryd.results88, go_sem, gotV, tc0, tc1, tc2, tc3, tc4, tc5, tc6, tc7, tc8, tc9] <;> omega) rfl ⟨by rw [HR.out], below_put10 HB5.out (Nat.le_refl _) _ _ _ _ _ _ _ _ _ _⟩
end Go.Proofs.YtnpgjlhnlakgpaaDoor

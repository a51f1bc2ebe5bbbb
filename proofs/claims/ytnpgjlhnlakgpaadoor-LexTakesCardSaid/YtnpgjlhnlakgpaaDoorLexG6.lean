/- The document's token and Lex. -/
import Derived.Test.YtnpgjlhnlakgpaaDoorLexG5
import Derived.Test.YtnpgjlhnlakgpaaDoorLexLx
namespace Go.Proofs.YtnpgjlhnlakgpaaDoor
open Go.RowKit

theorem gotV_form (r : Rs) (i : Nat) : ∃ (x0 : Int) (x1 : ByteArray) (x2 x3 : Int) (x4 : ByteArray) (x5 x6 x7 x8 : Int) (x9 : Bool), gotV r i = .agg #[.int .i64 x0, .string x1, .int .i64 x2, .int .i64 x3, .string x4, .int .i64 x5, .int .i64 x6, .int .i64 x7, .int .i64 x8, .bool x9] := by
  cases r
  · exact ⟨_, _, _, _, _, _, _, _, _, _, rfl⟩
  · exact ⟨_, _, _, _, _, _, _, _, _, _, rfl⟩

set_option maxRecDepth 100000 in
set_option maxHeartbeats 4000000 in
theorem rtoken_any {s : ByteArray} {i : Nat} (hs : s.size ≤ 4000) (hi : i < s.size) (w : World) :
    Calls Tryd.prog 53 #[.string s, .int .i64 (i : Int)] w fun e w' => e = .returned (gotV (tokF (fromS s i)) i) ∧ Below w.heap.size w w' := by
  obtain ⟨c, hc⟩ : ∃ c, s[i] = c := ⟨_, rfl⟩
  have HF := Lib.hid (from_lt hi)
  rw [hc] at HF
  have HT : Hid (tokF (fromS s i) = if (c = 120 ∨ c = 88) ∧ (fromS s (i + 1)).head? = some 39 then bytesF (fromS s i) else if isLet c then nameF (fromS s i) else if isDig c then numF (fromS s i) else if c = 39 then textF (fromS s i) else symF (fromS s i)) := by
    show _ = _
    rw [HF.out, tokF_cons]
  have hcn := c.toNat_lt
  go_enter Tryd.func53, Tryd.ntmps53
  have HG0 := Lib.hid (GB.new w 92)
  have HB0 := Lib.hid (gb_new w)
  go_upto_region 2 with fail
  generalize w.alloc (.cells _ 92) = W0 at *
  go_cut [28] (fun bv wc => wc = W0 ∧ ∃ cb : Bool, bv = .bool cb ∧ Hid (cb = true ↔ ((c = 120 ∨ c = 88) ∧ (fromS s (i + 1)).head? = some 39)))
  case first =>
    by_cases hx : (c.toNat : Int) = 120 ∨ (c.toNat : Int) = 88
    · have hx2 : c = 120 ∨ c = 88 := by
        rcases hx with h | h
        · exact .inl (by apply UInt8.toNat_inj.1; have : (120 : UInt8).toNat = 120 := rfl; omega)
        · exact .inr (by apply UInt8.toNat_inj.1; have : (88 : UInt8).toNat = 88 := rfl; omega)
      have hxb : ((c.toNat : Int) == 120) = true ∨ (((c.toNat : Int) == 120) = false ∧ ((c.toNat : Int) == 88) = true) := by
        rcases hx with h | h
        · left; simpa using h
        · right; constructor
          · simp; omega
          · simpa using h
      clear hx
      by_cases h1 : i + 1 < s.size
      · have h1i : (i : Int) + 1 < (s.size : Int) := by omega
        have HF2 := Lib.hid (from_lt h1)
        cases h39 : ((s[i + 1].toNat : Int) == 39) with
        | true =>
          have HX : Hid (true = true ↔ ((c = 120 ∨ c = 88) ∧ (fromS s (i + 1)).head? = some 39)) := by
            show _ ↔ _
            have : s[i + 1] = 39 := by apply UInt8.toNat_inj.1; have h2 : (39 : UInt8).toNat = 39 := rfl; simp at h39; omega
            rw [HF2.out, this]
            simp [hx2]
          clear hx2 HF2
          rcases hxb with hx | ⟨hx, hx'⟩
          all_goals
            go_wp2_with fail
            go_meet
            case rel => exact ⟨rfl, true, rfl, (by show _ ↔ _; exact ⟨fun _ => HX.out.1 trivial, fun _ => rfl⟩)⟩
        | false =>
          have HX : Hid (false = true ↔ ((c = 120 ∨ c = 88) ∧ (fromS s (i + 1)).head? = some 39)) := by
            show _ ↔ _
            rw [HF2.out]
            constructor
            · intro h; cases h
            · rintro ⟨_, h⟩
              simp at h
              rw [h] at h39
              cases h39
          clear hx2 HF2
          rcases hxb with hx | ⟨hx, hx'⟩
          all_goals
            go_wp2_with fail
            go_meet
            case rel => exact ⟨rfl, false, rfl, HX⟩
      · have h1i : ¬ (i : Int) + 1 < (s.size : Int) := by omega
        have HX : Hid (false = true ↔ ((c = 120 ∨ c = 88) ∧ (fromS s (i + 1)).head? = some 39)) := by
          show _ ↔ _
          rw [from_ge (s := s) (i := i + 1) (by omega)]
          simp
        clear hx2
        rcases hxb with hx | ⟨hx, hx'⟩
        all_goals
          go_wp2_with fail
          go_meet
          case rel => exact ⟨rfl, false, rfl, HX⟩
    · have hx1 : ((c.toNat : Int) == 120) = false := by simp; omega
      have hx2 : ((c.toNat : Int) == 88) = false := by simp; omega
      have HX : Hid (false = true ↔ ((c = 120 ∨ c = 88) ∧ (fromS s (i + 1)).head? = some 39)) := by
        show _ ↔ _
        constructor
        · intro h; cases h
        · rintro ⟨h | h, _⟩
          · exact absurd (.inl (by rw [h]; rfl)) hx
          · exact absurd (.inr (by rw [h]; rfl)) hx
      clear hx
      go_wp2_with fail
      go_meet
      case rel => exact ⟨rfl, false, rfl, HX⟩
  case rest =>
    obtain ⟨rfl, cb, rfl, HX⟩ := hcut
    cases cb with
    | true =>
      have hX := HX.out.1 rfl
      have HR : Hid (tokF (fromS s i) = bytesF (fromS s i)) := by show _ = _; rw [HT.out, if_pos hX]
      have hi2 : i + 2 ≤ s.size := by
        rcases Nat.lt_or_ge (i + 1) s.size with h | h
        · omega
        · rw [from_ge h] at hX; cases hX.2
      clear hX HT
      go_wp2_with (first | (go_at_call 86; refine (rbytes_any hs hi2 _).mono ?_; rintro e w5 ⟨rfl, hB5⟩; obtain ⟨y0, y1, y2, y3, y4, y5, y6, y7, y8, y9, hy⟩ := gotV_form (bytesF (fromS s i)) i; rw [hy]; have HY := Lib.hid hy; clear hy; have HG5 := Lib.hid (HG0.out.below hB5); have HB5 := Lib.hid (HB0.out.trans (hB5.mono HB0.out.size)); clear hB5; obtain ⟨⟨tc0, tc1, tc2, tc3, tc4, tc5, tc6, tc7, tc8, tc9⟩, tf0, tf1, tf2, tf3, tf4, tf5, tf6, tf7, tf8, tf9⟩ := HG5.out.c_f; have tlt := HG5.out.lt) | fail)
      refine bodyPost_ret (v := .agg #[.int .i64 y0, .string y1, .int .i64 y2, .int .i64 y3, .string y4, .int .i64 y5, .int .i64 y6, .int .i64 y7, .int .i64 y8, .bool y9]) (by simp [results, Tryd.results53, go_sem, tc0, tc1, tc2, tc3, tc4, tc5, tc6, tc7, tc8, tc9]) rfl ⟨by rw [HR.out, HY.out], below_put10 HB5.out (Nat.le_refl _) _ _ _ _ _ _ _ _ _ _⟩
    | false =>
      have hX : ¬ ((c = 120 ∨ c = 88) ∧ (fromS s (i + 1)).head? = some 39) := fun h => by have := HX.out.2 h; cases this
      cases hlt : isLet c with
      | true =>
        have HR : Hid (tokF (fromS s i) = nameF (fromS s i)) := by show _ = _; rw [HT.out, if_neg hX, if_pos hlt]
        clear hX HT
        go_wp2_with (first | (go_at_call 57; refine (is_rlet hlt _).mono ?_; rintro e w9 ⟨rfl, hw9⟩; rw [hw9]; clear hw9) | (go_at_call 87; refine (rname_any hs (Nat.le_of_lt hi) _).mono ?_; rintro e w5 ⟨rfl, hB5⟩; obtain ⟨y0, y1, y2, y3, y4, y5, y6, y7, y8, y9, hy⟩ := gotV_form (nameF (fromS s i)) i; rw [hy]; have HY := Lib.hid hy; clear hy; have HG5 := Lib.hid (HG0.out.below hB5); have HB5 := Lib.hid (HB0.out.trans (hB5.mono HB0.out.size)); clear hB5; obtain ⟨⟨tc0, tc1, tc2, tc3, tc4, tc5, tc6, tc7, tc8, tc9⟩, tf0, tf1, tf2, tf3, tf4, tf5, tf6, tf7, tf8, tf9⟩ := HG5.out.c_f; have tlt := HG5.out.lt) | fail)
        refine bodyPost_ret (v := .agg #[.int .i64 y0, .string y1, .int .i64 y2, .int .i64 y3, .string y4, .int .i64 y5, .int .i64 y6, .int .i64 y7, .int .i64 y8, .bool y9]) (by simp [results, Tryd.results53, go_sem, tc0, tc1, tc2, tc3, tc4, tc5, tc6, tc7, tc8, tc9]) rfl ⟨by rw [HR.out, HY.out], below_put10 HB5.out (Nat.le_refl _) _ _ _ _ _ _ _ _ _ _⟩
      | false =>
        cases hdg : isDig c with
        | true =>
          have HR : Hid (tokF (fromS s i) = numF (fromS s i)) := by show _ = _; rw [HT.out, if_neg hX, if_neg (by rw [hlt]; decide), if_pos hdg]
          clear hX HT
          go_wp2_with (first | (go_at_call 57; refine (is_rlet hlt _).mono ?_; rintro e w9 ⟨rfl, hw9⟩; rw [hw9]; clear hw9) | (go_at_call 58; refine (is_rdig hdg _).mono ?_; rintro e w9 ⟨rfl, hw9⟩; rw [hw9]; clear hw9) | (go_at_call 88; refine (rnumber_any hs hi _).mono ?_; rintro e w5 ⟨rfl, hB5⟩; obtain ⟨y0, y1, y2, y3, y4, y5, y6, y7, y8, y9, hy⟩ := gotV_form (numF (fromS s i)) i; rw [hy]; have HY := Lib.hid hy; clear hy; have HG5 := Lib.hid (HG0.out.below hB5); have HB5 := Lib.hid (HB0.out.trans (hB5.mono HB0.out.size)); clear hB5; obtain ⟨⟨tc0, tc1, tc2, tc3, tc4, tc5, tc6, tc7, tc8, tc9⟩, tf0, tf1, tf2, tf3, tf4, tf5, tf6, tf7, tf8, tf9⟩ := HG5.out.c_f; have tlt := HG5.out.lt) | fail)
          refine bodyPost_ret (v := .agg #[.int .i64 y0, .string y1, .int .i64 y2, .int .i64 y3, .string y4, .int .i64 y5, .int .i64 y6, .int .i64 y7, .int .i64 y8, .bool y9]) (by simp [results, Tryd.results53, go_sem, tc0, tc1, tc2, tc3, tc4, tc5, tc6, tc7, tc8, tc9]) rfl ⟨by rw [HR.out, HY.out], below_put10 HB5.out (Nat.le_refl _) _ _ _ _ _ _ _ _ _ _⟩
        | false =>
          by_cases h39 : c = 39
          · have h39i : ((c.toNat : Int) == 39) = true := by rw [h39]; rfl
            have HR : Hid (tokF (fromS s i) = textF (fromS s i)) := by show _ = _; rw [HT.out, if_neg hX, if_neg (by rw [hlt]; decide), if_neg (by rw [hdg]; decide), if_pos h39]
            clear hX HT h39
            go_wp2_with (first | (go_at_call 57; refine (is_rlet hlt _).mono ?_; rintro e w9 ⟨rfl, hw9⟩; rw [hw9]; clear hw9) | (go_at_call 58; refine (is_rdig hdg _).mono ?_; rintro e w9 ⟨rfl, hw9⟩; rw [hw9]; clear hw9) | (go_at_call 89; refine (rtext_any hs hi _).mono ?_; rintro e w5 ⟨rfl, hB5⟩; obtain ⟨y0, y1, y2, y3, y4, y5, y6, y7, y8, y9, hy⟩ := gotV_form (textF (fromS s i)) i; rw [hy]; have HY := Lib.hid hy; clear hy; have HG5 := Lib.hid (HG0.out.below hB5); have HB5 := Lib.hid (HB0.out.trans (hB5.mono HB0.out.size)); clear hB5; obtain ⟨⟨tc0, tc1, tc2, tc3, tc4, tc5, tc6, tc7, tc8, tc9⟩, tf0, tf1, tf2, tf3, tf4, tf5, tf6, tf7, tf8, tf9⟩ := HG5.out.c_f; have tlt := HG5.out.lt) | fail)
            refine bodyPost_ret (v := .agg #[.int .i64 y0, .string y1, .int .i64 y2, .int .i64 y3, .string y4, .int .i64 y5, .int .i64 y6, .int .i64 y7, .int .i64 y8, .bool y9]) (by simp [results, Tryd.results53, go_sem, tc0, tc1, tc2, tc3, tc4, tc5, tc6, tc7, tc8, tc9]) rfl ⟨by rw [HR.out, HY.out], below_put10 HB5.out (Nat.le_refl _) _ _ _ _ _ _ _ _ _ _⟩
          · have h39i : ((c.toNat : Int) == 39) = false := by simp; exact fun h => h39 (by apply UInt8.toNat_inj.1; have : (39 : UInt8).toNat = 39 := rfl; omega)
            have HR : Hid (tokF (fromS s i) = symF (fromS s i)) := by show _ = _; rw [HT.out, if_neg hX, if_neg (by rw [hlt]; decide), if_neg (by rw [hdg]; decide), if_neg h39]
            clear hX HT h39
            go_wp2_with (first | (go_at_call 57; refine (is_rlet hlt _).mono ?_; rintro e w9 ⟨rfl, hw9⟩; rw [hw9]; clear hw9) | (go_at_call 58; refine (is_rdig hdg _).mono ?_; rintro e w9 ⟨rfl, hw9⟩; rw [hw9]; clear hw9) | (go_at_call 90; refine (rsymbol_any hs hi _).mono ?_; rintro e w5 ⟨rfl, hB5⟩; obtain ⟨y0, y1, y2, y3, y4, y5, y6, y7, y8, y9, hy⟩ := gotV_form (symF (fromS s i)) i; rw [hy]; have HY := Lib.hid hy; clear hy; have HG5 := Lib.hid (HG0.out.below hB5); have HB5 := Lib.hid (HB0.out.trans (hB5.mono HB0.out.size)); clear hB5; obtain ⟨⟨tc0, tc1, tc2, tc3, tc4, tc5, tc6, tc7, tc8, tc9⟩, tf0, tf1, tf2, tf3, tf4, tf5, tf6, tf7, tf8, tf9⟩ := HG5.out.c_f; have tlt := HG5.out.lt) | fail)
            refine bodyPost_ret (v := .agg #[.int .i64 y0, .string y1, .int .i64 y2, .int .i64 y3, .string y4, .int .i64 y5, .int .i64 y6, .int .i64 y7, .int .i64 y8, .bool y9]) (by simp [results, Tryd.results53, go_sem, tc0, tc1, tc2, tc3, tc4, tc5, tc6, tc7, tc8, tc9]) rfl ⟨by rw [HR.out, HY.out], below_put10 HB5.out (Nat.le_refl _) _ _ _ _ _ _ _ _ _ _⟩

/-- Where the walk of the document's Lex stands. -/
structure RL (w W : World) (v : Value) (ts : List Tk) : Prop where
  B : Below w.heap.size w W
  o : W.ownsRow w.heap.size 30 6 v ts.length (tokCells ts)
theorem RL.below {w W W' : World} {v : Value} {ts : List Tk} (h : RL w W v ts) (hB : Below W.heap.size W W') : RL w W' v ts :=
  ⟨h.B.trans (hB.mono h.B.size), h.o.kept ⟨hB.os, hB.tape, hB.output, hB.size, fun k hk _ => hB.block k hk⟩ (by
    cases hv : v.ownBlock with
    | none => exact .inl rfl
    | some k => exact .inr (by simp : some k ≠ none))⟩
theorem RL.alloc {w W : World} {v : Value} {ts : List Tk} (h : RL w W v ts) (x : Obj) : RL w (W.alloc x) v ts := h.below ((Below.refl _ _).alloc (Nat.le_refl _) x)
theorem RL.grow {w W W' : World} {v v' : Value} {ts ts' : List Tk} (h : RL w W v ts) (hg : W.grownBy W' v.ownBlock) (ho : W'.ownsRow w.heap.size 30 6 v' ts'.length (tokCells ts')) : RL w W' v' ts' :=
  ⟨h.B.grown hg h.B.size (fun k hk => (h.o.lt k hk).1), ho⟩

set_option maxRecDepth 100000 in
set_option maxHeartbeats 8000000 in
theorem rLex_any (w : World) (s : ByteArray) : Calls Tryd.prog 16 #[.string s] w (LexPost s w) := by
  obtain ⟨i0, hi0, hz0, hz1, hz2⟩ := info_parts tokinfo
  have HLP : Hid (∀ e w', Below w.heap.size w w' → (match lexF s.data.toList with
      | .inl (er, p) => e = .returned (.tuple #[.slice none 0 0, .int .i64 er, .int .i64 (p : Int)])
      | .inr ts => ∃ v, e = .returned (.tuple #[v, .int .i64 0, .int .i64 0]) ∧ w'.ownsRow w.heap.size 30 6 v ts.length (tokCells ts)) → LexPost s w e w') := fun _ _ h1 h2 => ⟨h1, h2⟩
  have hl : s.data.toList.length = s.size := rfl
  by_cases hbig : 4000 < s.size
  · have hbigi : (4000 : Int) < (s.size : Int) := by omega
    have HX : Hid (lexF s.data.toList = .inl (2, 0)) := by show _ = _; unfold lexF; rw [if_pos (by omega)]
    go_enter Tryd.func16, Tryd.ntmps16
    go_wp2_with fail
    refine bodyPost_ret (v := .tuple #[.slice none 0 0, .int .i64 2, .int .i64 0]) (by simp [results, Tryd.results16, go_sem]) rfl (HLP.out _ _ (Below.refl _ _) (by rw [HX.out]; rfl))
  · have hs : s.size ≤ 4000 := by omega
    obtain ⟨XX, hXX⟩ : ∃ XX, lexGo (s.size + 1) (fromS s 0) 0 0 = XX := ⟨_, rfl⟩
    have HXX := Lib.hid hXX
    have HLF : Hid (lexF s.data.toList = lexEnd s.size XX) := by
      show _ = _
      rw [lexF_end (by omega), hl, ← hXX]
      rfl
    clear hXX
    have HS0 : Hid (RL w (w.alloc (.cells #[] 30)) (.slice (some ⟨w.heap.size, 0, none⟩) 0 0) []) := ⟨(Below.refl _ _).alloc (Nat.le_refl _) _, own_new0 w _ 6⟩
    have HBL0 := Lib.hid (fun W => rblanks_any hs (Nat.zero_le _) W)
    go_enter Tryd.func16, Tryd.ntmps16
    go_wp2_with (first
      | (go_at_call 52; refine (HBL0.out _).mono ?_; rintro e w2 ⟨rfl, hB2⟩; have HS2 := Lib.hid (HS0.out.below hB2); clear hB2)
      | fail)
    go_loopw [5, 6, 7] (fun v iv _ wr => ∃ (i f : Nat) (ts : List Tk), i ≤ s.size ∧ iv = .int .i64 (i : Int) ∧ RL w wr v ts ∧ skipM false (fromS s i) = 0 ∧ s.size - i < f ∧ ts.length ≤ 1000 ∧ Hid (XX = lexOn ts (lexGo f (fromS s i) i ts.length))) (fun _ iv _ _ => s.size - (intOf iv).toNat)
    case atStart =>
      refine ⟨0 + skipM false (fromS s 0), s.size + 1, [], ?_, by simp, HS2.out, ?_, by omega, by simp, ?_⟩
      · have := skipM_le (fromS s 0) false
        rw [from_len] at this; omega
      · have := skip_skip (fromS s 0) false
        rwa [from_from] at this
      · show _ = _
        rw [← HXX.out, ← lexGo_skip _ (fromS s 0) 0 0 (by omega), from_from]
        simp only [List.length_nil]
        cases lexGo (s.size + 1) (fromS s (0 + skipM false (fromS s 0))) (0 + skipM false (fromS s 0)) 0 <;> rfl
    case round =>
      obtain ⟨i, f, ts, hi, rfl, hS, hsk, hf, hn, HQ⟩ := hrel
      have HS := Lib.hid hS
      have HSK := Lib.hid hsk
      obtain ⟨sp, sc, hsl⟩ := owns_sl2 hS.o
      subst hsl
      clear hS hsk
      obtain ⟨f, rfl⟩ : ∃ g, f = g + 1 := ⟨f - 1, by omega⟩
      by_cases hlt : i < s.size
      · have hlti : (i : Int) < (s.size : Int) := by omega
        have hne : fromS s i ≠ [] := by rw [from_lt hlt]; simp
        by_cases h1000 : 1000 ≤ ts.length
        · have hni : (1000 : Int) ≤ (ts.length : Int) := by omega
          have HE : Hid (lexF s.data.toList = .inl (2, i)) := by
            show _ = _
            rw [HLF.out, HQ.out]
            simp only [lexGo, HSK.out, List.drop_zero]
            rw [if_neg hne, if_pos h1000]; rfl
          clear hne
          go_wp2_with fail
          refine bodyPost_ret (v := .tuple #[.slice none 0 0, .int .i64 2, .int .i64 (i : Int)]) (by simp [results, Tryd.results16, go_sem]) rfl (HLP.out _ _ HS.out.B (by rw [HE.out]))
        · have hni : ¬ (1000 : Int) ≤ (ts.length : Int) := by omega
          cases hr : tokF (fromS s i) with
          | bad er o =>
            have hne0 := tokF_bad hr
            have HE : Hid (lexF s.data.toList = .inl (er, i + o)) := by
              show _ = _
              rw [HLF.out, HQ.out]
              simp only [lexGo, HSK.out, List.drop_zero]
              rw [if_neg hne, if_neg h1000, hr]; rfl
            have HTK := Lib.hid (fun W => rtoken_any hs hlt W)
            rw [hr, gotV_bad] at HTK
            clear hr hne
            go_wp2_with (first
              | (go_at_call 53; refine (HTK.out _).mono ?_; rintro e w5 ⟨rfl, hB5⟩; have HS5 := Lib.hid (HS.out.below hB5); clear hB5)
              | fail)
            go_quiet (fail)
            go_wp2_with fail
            refine bodyPost_ret (v := .tuple #[.slice none 0 0, .int .i64 er, .int .i64 ((i + o : Nat) : Int)]) (by simp [results, Tryd.results16, go_sem]) rfl (HLP.out _ _ (drN (HS5.out.B.alloc HS5.out.B.size _) _) (by rw [HE.out]))
          | ok k x d n =>
            have hlen := tokF_len hne hr
            rw [from_len] at hlen
            have HE : Hid (XX = lexOn (ts ++ [⟨k, x, d, i⟩]) (lexGo f (fromS s (i + n)) (i + n) (ts.length + 1))) := by
              show _ = _
              rw [HQ.out]
              simp only [lexGo, HSK.out, List.drop_zero, Nat.add_zero]
              rw [if_neg hne, if_neg h1000, hr]
              simp only
              rw [from_from]
              cases lexGo f (fromS s (i + n)) (i + n) (ts.length + 1) with
              | inl e => rfl
              | inr us => simp [lexOn]
            have HLen : Hid ((tokCells (ts ++ [⟨k, x, d, i⟩])) = tokCells ts ++ tokCs ⟨k, x, d, i⟩ ∧ (ts ++ [(⟨k, x, d, i⟩ : Tk)]).length = ts.length + 1) := ⟨by rw [tokCells_app, tokCells_one], by simp⟩
            have hfin : s.size - (i + n) < f := by omega
            have HTK := Lib.hid (fun W => rtoken_any hs hlt W)
            rw [hr, gotV_ok] at HTK
            obtain ⟨j, hj⟩ : ∃ j, i + n = j := ⟨_, rfl⟩
            rw [hj] at HTK HE hfin
            have hjs : j ≤ s.size := by omega
            have hij : i < j := by omega
            have HBL := Lib.hid (fun W => rblanks_any hs hjs W)
            clear hr HQ hne
            go_wp2_with (first
              | (go_at_call 53; refine (HTK.out _).mono ?_; rintro e w5 ⟨rfl, hB5⟩; have HS5 := Lib.hid (HS.out.below hB5); clear hB5)
              | (at_builtin; refine wpList_append_own _ rfl _ _ 23 rfl w.heap.size 30 i0 (.agg #[.int .i64 0, .string ⟨#[]⟩, .int .i64 0, .int .i64 0, .string ⟨#[]⟩, .int .i64 0]) 6 64 Tryd.underlying23 hi0 hz0 hz1 hz2 rfl (by decide) _ _ _ rfl ((HS5.out.alloc _).alloc _).o ⟨w5.heap.size + 1, 0, none⟩ 1 1 (tokCs ⟨k, x, d, i⟩) rfl rfl (cell_new6 w5 _ ⟨k, x, d, i⟩ _) (tokCs_one _) (by unfold maxLen; omega) (by omega) (by have := HS5.out.B.size; simp; omega) ?_; go_loud (intro v' w6 hown' hgrow _; have hg6 : w6.cell? ⟨w5.heap.size, 6, none⟩ = some (.int .i64 (j : Int)) := hgrow.cell (by rw [((Below.refl _ (w5.alloc _)).alloc (Nat.le_refl _) _).cell (p := ⟨w5.heap.size, 6, none⟩) (by simp), World.cell?_alloc_new]; rfl) (fun e => absurd (HS5.out.o.lt _ e.symm).2 (Nat.lt_irrefl _)); have HS6 := Lib.hid (((HS5.out.alloc _).alloc _).grow (ts' := ts ++ [⟨k, x, d, i⟩]) hgrow (by rw [HLen.out.1, HLen.out.2]; exact hown')); obtain ⟨p6, c6, rfl⟩ := owns_sl2 hown'; clear hown' hgrow))
              | (go_at_call 52; refine (HBL.out _).mono ?_; rintro e w7 ⟨rfl, hB7⟩; have HS7 := Lib.hid (HS6.out.below hB7); clear hB7)
              | fail)
            go_roundw
            case rel =>
              have h1 := skipM_le (fromS s j) false
              rw [from_len] at h1
              refine ⟨j + skipM false (fromS s j), f, ts ++ [⟨k, x, d, i⟩], by omega, by simp, HS7.out, ?_, by omega, by rw [HLen.out.2]; omega, ?_⟩
              · have := skip_skip (fromS s j) false
                rwa [from_from] at this
              · show _ = _
                rw [HE.out, ← lexGo_skip _ (fromS s j) j (ts.length + 1) (by omega), from_from, HLen.out.2]
            case measure => simp [intOf]; omega
      · have hie : i = s.size := by omega
        have hlti : ¬ (i : Int) < (s.size : Int) := by omega
        have HE : Hid (lexF s.data.toList = .inr (ts ++ [⟨0, ⟨#[]⟩, Dt.zero, s.size⟩])) := by
          show _ = _
          rw [HLF.out, HQ.out, from_ge (by omega)]
          simp [lexGo, lexOn, lexEnd]
        have HLen : Hid ((tokCells (ts ++ [⟨0, ⟨#[]⟩, Dt.zero, s.size⟩])) = tokCells ts ++ tokCs ⟨0, ⟨#[]⟩, Dt.zero, s.size⟩ ∧ (ts ++ [(⟨0, ⟨#[]⟩, Dt.zero, s.size⟩ : Tk)]).length = ts.length + 1) := ⟨by rw [tokCells_app, tokCells_one], by simp⟩
        clear HQ
        go_wp2_with (first
          | (at_builtin; refine wpList_append_own _ rfl _ _ 23 rfl w.heap.size 30 i0 (.agg #[.int .i64 0, .string ⟨#[]⟩, .int .i64 0, .int .i64 0, .string ⟨#[]⟩, .int .i64 0]) 6 64 Tryd.underlying23 hi0 hz0 hz1 hz2 rfl (by decide) _ _ _ rfl (HS.out.alloc _).o ⟨wr.heap.size, 0, none⟩ 1 1 (tokCs ⟨0, ⟨#[]⟩, Dt.zero, s.size⟩) rfl rfl (cell_new6a wr ⟨0, ⟨#[]⟩, Dt.zero, s.size⟩ _) (tokCs_one _) (by unfold maxLen; omega) (by omega) (by have := HS.out.B.size; simp; omega) ?_; intro v' w6 hown' hgrow _; have HS6 := Lib.hid ((HS.out.alloc _).grow (ts' := ts ++ [⟨0, ⟨#[]⟩, Dt.zero, s.size⟩]) hgrow (by rw [HLen.out.1, HLen.out.2]; exact hown')); clear hown' hgrow)
          | fail)
        refine bodyPost_ret (v := .tuple #[v', .int .i64 0, .int .i64 0]) (by simp [results, Tryd.results16, go_sem]) rfl (HLP.out _ _ HS6.out.B (by rw [HE.out]; exact ⟨v', rfl, HS6.out.o⟩))
end Go.Proofs.YtnpgjlhnlakgpaaDoor

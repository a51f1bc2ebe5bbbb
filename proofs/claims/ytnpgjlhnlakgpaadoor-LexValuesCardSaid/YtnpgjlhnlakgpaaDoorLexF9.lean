/- The contract of the lexer's text. -/
import Derived.Test.YtnpgjlhnlakgpaaDoorLexF6
import Derived.Test.YtnpgjlhnlakgpaaDoorG03
import Derived.Test.YtnpgjlhnlakgpaaDoorLexSh
import Derived.Lib.OthersKept
namespace Go.Proofs.YtnpgjlhnlakgpaaDoor
open Go.RowKit

/-- Where the walk of a text stands: the lexer, the result's block. -/
structure TS (w W : World) (b m : Nat) (s : ByteArray) (j : Nat) : Prop where
  l : LX W b m s j
  k : K1 b w W
  hb : b < w.heap.size
  r : TB6 W w.heap.size (.int .i64 0) (.string ⟨#[]⟩) (.int .i64 0) (.int .i64 0) (.string ⟨#[]⟩) (.int .i64 0)
theorem TS.belowB {w W W' : World} {b m j : Nat} {s : ByteArray} (h : TS w W b m s j) (hB : Below (w.heap.size + 1) W W') : TS w W' b m s j := by
  have hbk : ∀ k, k ≤ w.heap.size → W'.heap[k]? = W.heap[k]? := fun k hk => hB.block k (by omega)
  exact ⟨h.l.of_block (hbk b (by have := h.hb; omega)), ⟨hB.os.trans h.k.os, hB.tape.trans h.k.tape, hB.output.trans h.k.output, Nat.le_trans h.k.size hB.size, fun k hk hkb => (hbk k (by omega)).trans (h.k.block k hk hkb)⟩, h.hb, h.r.of_block (hbk _ (Nat.le_refl _))⟩
theorem TS.place {w W : World} {b m j k : Nat} {s : ByteArray} {x : Int} (h : TS w W b m s j) (hx : x = (k : Int)) : TS w (W.setCell ⟨b, 1, none⟩ (.int .i64 x)) b m s k :=
  ⟨h.l.putv hx, h.k.setCell _ _, h.hb, h.r.far (by have := h.hb; omega) _ _⟩
theorem builder_far {T e : TypeId} {B b0 b o : Nat} {cs : List Value} {w : World} (h : Lib.IsBuilderF T e B b0 cs w) (hb : b < B) (u : Value) : Lib.IsBuilderF T e B b0 cs (w.setCell ⟨b, o, none⟩ u) := by
  have key : ∀ p, Lib.BuilderAtF T e B b0 p cs w → Lib.BuilderAtF T e B b0 p cs (w.setCell ⟨b, o, none⟩ u) := by
    rintro p ⟨hB, v, hh, hown, hne⟩
    refine ⟨hB, v, (Below.heap_setCell _ _ _ _ (by show b0 ≠ b; omega)).trans hh, ⟨hown.1, ?_⟩, hne⟩
    rcases hown.2 with hn | ⟨g, cap, cur, fz, hv, hbg, hg, rest⟩
    · exact .inl hn
    · exact .inr ⟨g, cap, cur, fz, hv, hbg, (Below.heap_setCell _ _ _ _ (by show g ≠ b; omega)).trans hg, rest⟩
  exact h.elim (fun x => .inl (key _ x)) (fun x => .inr (key _ x))
theorem prefix_at {l : List UInt8} {s p : ByteArray} {v : Bool} (hs : s.data.toList = l) (hp : p.data.toList = [239, 191, 189]) (h : Lib.hasPrefix l [239, 191, 189] = v) (w : World) :
    Calls Tryd.prog 64 #[.string s, .string p] w fun e w' => e = .returned (.bool v) ∧ w' = w := by
  rw [← h, ← hs, ← hp]; exact Tryd.strings_HasPrefix s p w

set_option maxRecDepth 100000 in
set_option maxHeartbeats 8000000 in
theorem text_any {w : World} {b m i : Nat} {s : ByteArray} (h : LX w b m s i) (hs : s.size ≤ 4000) (hi : i < s.size) :
    Calls Tryd.prog 84 #[.pointer (some ⟨b, 0, none⟩)] w (TokPost b m s i (textF (fromS s i)) w) := by
  have H := Lib.hid h
  have hb := h.lt
  have lc0 := h.c0
  have lc1 := h.c1
  have lf1 := h.f1
  obtain ⟨X, hX⟩ : ∃ X, txtGo (fromS s i).length (fromS s (i + 1)) = X := ⟨_, rfl⟩
  obtain ⟨Rr, hRr⟩ : ∃ Rr, textF (fromS s i) = Rr := ⟨_, rfl⟩
  have HR : Hid (Rr = textR X) := by
    show _ = _
    rw [← hRr, textF_of, from_from, hX]
  have HX := Lib.hid hX
  rw [hRr]
  clear h hX hRr
  obtain ⟨T, hT⟩ : ∃ T, s.extract (i + 1) s.size = T := ⟨_, rfl⟩
  have HT : Hid (∀ pos, T.data.toList.drop pos = fromS s (i + 1 + pos)) := by
    intro pos
    rw [← hT, ext_all, from_from]
  have hTz : T.size = s.size - (i + 1) := by
    have h1 := congrArg List.length (HT.out 0)
    rw [from_len] at h1
    simpa using h1
  go_enter Tryd.func84, Tryd.ntmps84
  go_wp2_with fail
  have HI0 : Hid (Lib.IsBuilderF 140 5 (w.heap.size + 1) (w.heap.size + 1) (Lib.byteCells []) (((w.alloc (.cells #[.int .i64 0, .string ⟨#[]⟩, .int .i64 0, .int .i64 0, .string ⟨#[]⟩, .int .i64 0] 30)).alloc (.cells #[.pointer none, .slice none 0 0] 140)).iter T 0)) := by
    have h1 := Lib.fresh_isBuilder 140 5 (w.alloc (.cells #[.int .i64 0, .string ⟨#[]⟩, .int .i64 0, .int .i64 0, .string ⟨#[]⟩, .int .i64 0] 30))
    rw [World.size_alloc] at h1
    exact (Lib.IsBuilderF.of h1).alloc _
  have HIt0 : Hid ((((w.alloc (.cells #[.int .i64 0, .string ⟨#[]⟩, .int .i64 0, .int .i64 0, .string ⟨#[]⟩, .int .i64 0] 30)).alloc (.cells #[.pointer none, .slice none 0 0] 140)).iter T 0).heap[w.heap.size + 1 + 1]? = some (.stringIter T 0)) := by
    have h1 := World.iter_heap ((w.alloc (.cells #[.int .i64 0, .string ⟨#[]⟩, .int .i64 0, .int .i64 0, .string ⟨#[]⟩, .int .i64 0] 30)).alloc (.cells #[.pointer none, .slice none 0 0] 140)) T 0
    show _ = _
    simpa using h1
  have HS0 : Hid (TS w (((w.alloc (.cells #[.int .i64 0, .string ⟨#[]⟩, .int .i64 0, .int .i64 0, .string ⟨#[]⟩, .int .i64 0] 30)).alloc (.cells #[.pointer none, .slice none 0 0] 140)).iter T 0) b m s i) :=
    ⟨((H.out.alloc _).alloc _).alloc _, (((K1.refl b w).alloc _).alloc _).alloc _, hb, ((TB6.new w _ _ _ _ _ _ _).alloc _).alloc _⟩
  generalize (((w.alloc (.cells #[.int .i64 0, .string ⟨#[]⟩, .int .i64 0, .int .i64 0, .string ⟨#[]⟩, .int .i64 0] 30)).alloc (.cells #[.pointer none, .slice none 0 0] 140)).iter T 0) = W0 at *
  clear lc0 lc1 lf1
  go_loopw [7, 8] (fun cv ev wr => ∃ (pos c f : Nat) (out : List UInt8), cv = .int .i64 (c : Int) ∧ ev = .int .i64 (-1) ∧ pos ≤ T.size ∧ c ≤ pos ∧ out.length ≤ 4 * pos ∧ (fromS s (i + 1 + pos)).length ≤ f ∧
      Lib.IsBuilderF 140 5 (w.heap.size + 1) (w.heap.size + 1) (Lib.byteCells out) wr ∧ wr.heap[w.heap.size + 1 + 1]? = some (.stringIter T pos) ∧ Below (w.heap.size + 1) W0 wr ∧
      Hid (if c % 2 = 1 then 1 ≤ pos ∧ X = preR out (pos - 1) (txtGo (f + 1) (39 :: fromS s (i + 1 + pos))) else X = preR out pos (txtGo f (fromS s (i + 1 + pos))))) (fun _ _ wr => T.size - wr.iterPos (w.heap.size + 1 + 1))
  case atStart =>
    refine ⟨0, 0, (fromS s i).length, [], rfl, rfl, Nat.zero_le _, Nat.le_refl _, by simp, by rw [from_len, from_len]; omega, HI0.out, HIt0.out, Below.refl _ _, ?_⟩
    show if _ then _ else _
    rw [if_neg (by decide), preR_nil, ← HX.out]
  case round =>
    obtain ⟨pos, c, f, out, rfl, rfl, hpos, hcp, hol, hf, hI, hit, hB, HQ⟩ := hrel
    have HI := Lib.hid hI
    have HIT := Lib.hid hit
    have HB := Lib.hid hB
    have HSr := Lib.hid (HS0.out.belowB hB)
    have hsz : w.heap.size + 1 + 1 < wr.heap.size := (Array.getElem?_eq_some_iff.1 hit).1
    have hposr : wr.iterPos (w.heap.size + 1 + 1) = pos := by unfold World.iterPos; rw [hit]
    obtain ⟨q, hq⟩ : ∃ q, i + 1 + pos = q := ⟨_, rfl⟩
    rw [hq] at HQ hf
    by_cases hp : pos < T.size
    · have hqs : q < s.size := by omega
      have hnx : ∀ ty, (Instr.next (.pointer (some ⟨w.heap.size + 1 + 1, 0, none⟩)) true ty).run Tryd.prog wr = _ := fun ty => Lib.run_next_any_at wr (w.heap.size + 1 + 1) T pos ty hit hp
      have HD : Hid (Utf8.decode T pos = Lib.decodeL (fromS s q)) := by
        show _ = _
        rw [← Lib.decodeL_drop, HT.out, hq]
      have hwd := step_pos T pos
      have hd1 := decode_le T pos
      have hwl : pos + (Utf8.decode T pos).2 ≤ T.size := by
        have := Lib.decodeL_le (fromS s q) (by rw [from_lt hqs]; simp)
        rw [← HD.out, from_len] at this; omega
      obtain ⟨ch, hch⟩ : ∃ ch, s[q] = ch := ⟨_, rfl⟩
      have HF : Hid (fromS s q = ch :: fromS s (q + 1)) := by show _ = _; rw [from_lt hqs, hch]
      have HI2 := Lib.hid (hI.iterAt hit (pos + (Utf8.decode T pos).2))
      have HIT2 := Lib.hid (Lib.iterAt_heap wr (w.heap.size + 1 + 1) T pos (pos + (Utf8.decode T pos).2) hit)
      have HB2 := Lib.hid (Lib.below_iterAt hB (k := w.heap.size + 1 + 1) (by omega) T (pos + (Utf8.decode T pos).2))
      have hsz2 : w.heap.size + 1 ≤ (wr.iterAt (w.heap.size + 1 + 1) T (pos + (Utf8.decode T pos).2)).heap.size := by rw [Lib.iterAt_size]; omega
      have HS2 := Lib.hid (HS0.out.belowB HB2.out)
      clear hI hit hB hch
      generalize hrn : (Utf8.decode T pos).1 = rn at *
      generalize hwdn : (Utf8.decode T pos).2 = wd at *
      generalize wr.iterAt (w.heap.size + 1 + 1) T (pos + wd) = w2 at *
      have lc0 := HS2.out.l.c0; have lc1 := HS2.out.l.c1; have lf1 := HS2.out.l.f1; have llt := HS2.out.l.lt
      by_cases hodd : c % 2 = 1
      · have e1 : ((c : Int)).tmod 2 = 1 := by rw [Int.tmod_eq_emod_of_nonneg (by omega)]; omega
        have e2 : (c : Int) % 2 = 1 := by omega
        have HQ1 : Hid (1 ≤ pos ∧ X = preR out (pos - 1) (txtGo (f + 1) (39 :: fromS s q))) := by
          have := HQ
          show _ ∧ _
          rwa [Hid, if_pos hodd] at this
        have hp1 := HQ1.out.1
        by_cases h39 : rn = 39
        · subst h39
          have hch39 : ch = 39 := by
            have := rune39 (c := ch) (r := fromS s (q + 1))
            rw [← HF.out, ← HD.out] at this
            exact this.1 hrn
          have hwd1 : wd = 1 := by
            have h2 := HD.out
            rw [HF.out, hch39, Lib.decodeL_ascii 39 _ (by decide)] at h2
            rw [← hwdn, h2]
          have HE3 : Hid (X = preR (out ++ [39]) (pos + 1) (txtGo f (fromS s (q + 1)))) := by
            show _ = _
            rw [HQ1.out.2, HF.out, hch39, pre_two, show pos - 1 + 2 = pos + 1 by omega]
          have e3 : ((c : Int) + 1) % 2 = 0 := by omega
          clear HQ HQ1 hwdn hrn
          go_wp2_with (first | (go_at_call 113; refine (write_rune (w.heap.size + 1) (w.heap.size + 1) _ _ (by omega) (by omega) _ HI2.out (by rw [Lib.byteCells_length]; omega) hsz2).mono ?_; rintro e w5 ⟨rfl, h1, b1, k1⟩; have HI5 := Lib.hid h1; have HB5 := Lib.hid b1; have HK5 := Lib.hid k1; clear h1 b1 k1) | fail)
          go_roundw
          case rel =>
            refine ⟨pos + 1, c + 1, f, out ++ [39], by go_num, by first | rfl | trivial, by omega, by omega, by simp; omega, by have := hf; rw [from_len] at this ⊢; omega, ?_, ?_, HB2.out.trans HB5.out, ?_⟩
            · have h1 : Lib.byteCells (out ++ [39]) = Lib.byteCells out ++ Lib.runeCells ((39 : Nat) : Int) := by
                rw [Lib.byteCells_append, ← Lib.byteCells_encodeRune]; rfl
              rw [h1]; exact .inr HI5.out
            · rw [hwd1] at HIT2; exact HK5.out.iter HIT2.out (by omega)
            · show if _ then _ else _
              rw [if_neg (by omega), show i + 1 + (pos + 1) = q + 1 by omega]
              exact HE3.out
          case measure =>
            have h1 := HK5.out.iter HIT2.out (by omega)
            rw [hwd1] at h1
            rw [hposr]
            simp only [World.iterPos, h1]
            omega
        · have hr39 : ¬ ((rn : Int) = 39) := by omega
          have HXv : Hid (Rr = textR (some (.inl (out, pos)))) := by
            show _ = _
            rw [HR.out, HQ1.out.2, pre_end, show pos - 1 + 1 = pos by omega]
            rw [HF.out]
            intro h
            simp at h
            apply h39
            have := rune39 (c := ch) (r := fromS s (q + 1))
            rw [← HF.out, ← HD.out] at this
            rw [← hrn]; exact this.2 h
          clear HQ HQ1
          have HIE : Hid (Lib.IsBuilderF 140 5 (w.heap.size + 1) (w.heap.size + 1) (Lib.byteCells out) (w2.setCell ⟨b, 1, none⟩ (.int .i64 ((i : Int) + 1 + (pos : Int))))) := builder_far HI2.out (by omega) _; have HSE : Hid (TS w (w2.setCell ⟨b, 1, none⟩ (.int .i64 ((i : Int) + 1 + (pos : Int)))) b m s (q)) := HS2.out.place (by omega); have hszE : w.heap.size + 1 ≤ (w2.setCell ⟨b, 1, none⟩ (.int .i64 ((i : Int) + 1 + (pos : Int)))).heap.size := by simp [World.setCell]; omega
          by_cases hbig : 1000 < out.length
          · have hbigi : (1000 : Int) < (out.length : Int) := by omega
            obtain ⟨⟨rc0, rc1, rc2, rc3, rc4, rc5⟩, rf0, rf1, rf2, rf3, rf4, rf5⟩ := HSE.out.r; have rlt := World.block_lt_of_cell? _ _ rc0
            go_wp2_with (first | (go_at_call 114; refine (Tryd.Builder_Len_f (w.heap.size + 1) (w.heap.size + 1) _ _ HIE.out).mono ?_; rintro e w7 ⟨rfl, hw7⟩; rw [hw7, Lib.byteCells_length]; clear hw7) | fail)
            refine bodyPost_ret (v := .tuple #[.agg #[.int .i64 0, .string ⟨#[]⟩, .int .i64 0, .int .i64 0, .string ⟨#[]⟩, .int .i64 0], .int .i64 2, .int .i64 (i : Int)]) (by simp [results, Tryd.results84, go_sem, rc0, rc1, rc2, rc3, rc4, rc5]) rfl ⟨by repeat' (first | with_reducible exact HSE.out.k | with_reducible refine K1.drew ?_ | with_reducible refine K1.drewN ?_ _ | with_reducible refine K1.setCell ?_ _ _ | with_reducible refine K1.setNew ?_ (by omega) _ _), by rw [HXv.out, textR, if_pos hbig]; exact ⟨_, _, _, _, _, _, rfl⟩⟩
          · have hbigi : ¬ (1000 : Int) < (out.length : Int) := by omega
            go_wp2_with (first | (go_at_call 114; refine (Tryd.Builder_Len_f (w.heap.size + 1) (w.heap.size + 1) _ _ HIE.out).mono ?_; rintro e w7 ⟨rfl, hw7⟩; rw [hw7, Lib.byteCells_length]; clear hw7) | (go_at_call 115; refine (Tryd.Builder_String_any_k (w.heap.size + 1) (w.heap.size + 1) out _ HIE.out hszE).mono ?_; rintro e w8 ⟨rfl, _, b8, _⟩; have HS8 := Lib.hid (HSE.out.belowB b8); obtain ⟨⟨rc0, rc1, rc2, rc3, rc4, rc5⟩, rf0, rf1, rf2, rf3, rf4, rf5⟩ := HS8.out.r; have rlt := World.block_lt_of_cell? _ _ rc0; clear b8) | fail)
            refine bodyPost_ret (v := .tuple #[(⟨3, ⟨#[]⟩, ⟨4, 0, ⟨out.toArray⟩⟩, i⟩ : Tk).v, .int .i64 0, .int .i64 0]) (by simp [results, Tryd.results84, go_sem, rc0, rc1, rc2, rc3, rc4, rc5]) rfl ⟨by repeat' (first | with_reducible exact HS8.out.k | with_reducible refine K1.drew ?_ | with_reducible refine K1.drewN ?_ _ | with_reducible refine K1.setCell ?_ _ _ | with_reducible refine K1.setNew ?_ (by omega) _ _), by rw [HXv.out, textR, if_neg hbig]; exact ⟨rfl, by rw [show i + (1 + pos) = q by omega]; exact HS8.out.l.put6 (by omega) _ _ _ _ _ _⟩⟩
      · have hev : c % 2 = 0 := by omega
        have e1 : ((c : Int)).tmod 2 = 0 := by rw [Int.tmod_eq_emod_of_nonneg (by omega)]; omega
        have e2 : (c : Int) % 2 = 0 := by omega
        have HQ1 : Hid (X = preR out pos (txtGo f (fromS s q))) := by
          have := HQ
          show _ = _
          rwa [Hid, if_neg hodd] at this
        obtain ⟨f', rfl⟩ : ∃ f', f = f' + 1 := ⟨f - 1, by rw [from_len] at hf; omega⟩
        by_cases h39 : rn = 39
        · subst h39
          have hch39 : ch = 39 := by
            have := rune39 (c := ch) (r := fromS s (q + 1))
            rw [← HF.out, ← HD.out] at this
            exact this.1 hrn
          have hwd1 : wd = 1 := by
            have h2 := HD.out
            rw [HF.out, hch39, Lib.decodeL_ascii 39 _ (by decide)] at h2
            rw [← hwdn, h2]
          have e3 : ((c : Int) + 1) % 2 = 1 := by omega
          have HE3 : Hid (X = preR out pos (txtGo (f' + 1) (39 :: fromS s (q + 1)))) := by
            show _ = _
            rw [HQ1.out, HF.out, hch39]
          clear HQ HQ1 hwdn hrn
          go_wp2_with fail
          go_roundw
          case rel =>
            refine ⟨pos + 1, c + 1, f', out, by go_num, by first | rfl | trivial, by omega, by omega, by omega, by have := hf; rw [from_len] at this ⊢; omega, HI2.out, by rw [hwd1] at HIT2; exact HIT2.out, HB2.out, ?_⟩
            show if _ then _ else _
            rw [if_pos (by omega), show i + 1 + (pos + 1) = q + 1 by omega, show pos + 1 - 1 = pos by omega]
            exact ⟨by omega, HE3.out⟩
          case measure =>
            rw [hposr]
            have h1 := HIT2.out
            rw [hwd1] at h1
            simp only [World.iterPos, h1]
            omega
        · have hch : ch ≠ 39 := by
            have := rune39 (c := ch) (r := fromS s (q + 1))
            rw [← HF.out, ← HD.out] at this
            intro h
            exact h39 (by rw [← hrn]; exact this.2 h)
          have hr39 : ¬ ((rn : Int) = 39) := by omega
          have HDr : Hid ((Lib.decodeL (fromS s q)).1 = rn ∧ (Lib.decodeL (fromS s q)).2 = wd) := by
            show _ ∧ _
            rw [← HD.out]; exact ⟨hrn, hwdn⟩
          cases hbad : badL (fromS s q)
          · have hnb : ¬ ((Lib.decodeL (fromS s q)).1 = 65533 ∧ (Lib.decodeL (fromS s q)).2 = 1) := by simpa [badL] using hbad
            have hne : fromS s q ≠ [] := by rw [HF.out]; simp
            have HEN : Hid (Lib.encodeRune (rn : Int) = (fromS s q).take wd) := by
              have := Lib.encode_decode (fromS s q) hne hnb
              rw [HDr.out.1, HDr.out.2] at this
              exact this
            have HE3 : Hid (X = preR (out ++ (fromS s q).take wd) (pos + wd) (txtGo f' (fromS s (q + wd)))) := by
              have h1 := hbad
              rw [HF.out] at h1
              have h2 := pre_rune (f := f') (out := out) (n := pos) hch h1
              rw [← HF.out, HDr.out.2, from_from] at h2
              show _ = _
              rw [HQ1.out, h2]
            have HPX : Hid (rn = 65533 → Lib.hasPrefix (fromS s q) [239, 191, 189] = true) := by
              intro h
              have := bad_prefix hne (by rw [HDr.out.1]; exact h)
              rw [hbad] at this
              exact this
            have hwpos : wd ≤ 4 := by
              have h2 := Lib.runeCells_le (rn : Int)
              rw [Lib.runeCells_length, HEN.out, List.length_take, from_len] at h2
              omega
            clear HQ HQ1 hwdn hrn hbad hnb hne
            by_cases hfd : rn = 65533
            · subst hfd
              have HXE := Lib.hid (ext_all s q)
              have hat : (i : Int) + 1 + (pos : Int) = (q : Int) := by omega
              go_wp2_with (first
                | (go_at_call 64; refine (prefix_at (l := fromS s q) HXE.out rfl (HPX.out rfl) _).mono ?_; rintro e w9 ⟨rfl, hw9⟩; rw [hw9]; clear hw9)
                | (go_at_call 113; refine (write_rune (w.heap.size + 1) (w.heap.size + 1) _ _ (by omega) (by omega) _ HI2.out (by rw [Lib.byteCells_length]; omega) hsz2).mono ?_; rintro e w5 ⟨rfl, h1, b1, k1⟩; have HI5 := Lib.hid h1; have HB5 := Lib.hid b1; have HK5 := Lib.hid k1; clear h1 b1 k1) | fail)
              go_roundw
              case rel =>
                refine ⟨pos + wd, 0, f', out ++ (fromS s q).take wd, by rfl, by first | rfl | trivial, by omega, by omega, ?_, by have := hf; rw [from_len] at this ⊢; omega, ?_, ?_, HB2.out.trans HB5.out, ?_⟩
                · rw [List.length_append, List.length_take, from_len]; omega
                · have h1 : Lib.byteCells (out ++ (fromS s q).take wd) = Lib.byteCells out ++ Lib.runeCells ((65533 : Nat) : Int) := by
                    rw [Lib.byteCells_append, ← Lib.byteCells_encodeRune, HEN.out]
                  rw [h1]; exact .inr HI5.out
                · exact HK5.out.iter HIT2.out (by omega)
                · show if _ then _ else _
                  rw [if_neg (by decide), show i + 1 + (pos + wd) = q + wd by omega]
                  exact HE3.out
              case measure =>
                have h1 := HK5.out.iter HIT2.out (by omega)
                rw [hposr]
                simp only [World.iterPos, h1]
                omega
            · have hrf : ¬ ((rn : Int) = 65533) := by omega
              go_wp2_with (first | (go_at_call 113; refine (write_rune (w.heap.size + 1) (w.heap.size + 1) _ _ (by omega) (by omega) _ HI2.out (by rw [Lib.byteCells_length]; omega) hsz2).mono ?_; rintro e w5 ⟨rfl, h1, b1, k1⟩; have HI5 := Lib.hid h1; have HB5 := Lib.hid b1; have HK5 := Lib.hid k1; clear h1 b1 k1) | fail)
              go_roundw
              case rel =>
                refine ⟨pos + wd, 0, f', out ++ (fromS s q).take wd, by rfl, by first | rfl | trivial, by omega, by omega, ?_, by have := hf; rw [from_len] at this ⊢; omega, ?_, ?_, HB2.out.trans HB5.out, ?_⟩
                · rw [List.length_append, List.length_take, from_len]; omega
                · have h1 : Lib.byteCells (out ++ (fromS s q).take wd) = Lib.byteCells out ++ Lib.runeCells (rn : Int) := by
                    rw [Lib.byteCells_append, ← Lib.byteCells_encodeRune, HEN.out]
                  rw [h1]; exact .inr HI5.out
                · exact HK5.out.iter HIT2.out (by omega)
                · show if _ then _ else _
                  rw [if_neg (by decide), show i + 1 + (pos + wd) = q + wd by omega]
                  exact HE3.out
              case measure =>
                have h1 := HK5.out.iter HIT2.out (by omega)
                rw [hposr]
                simp only [World.iterPos, h1]
                omega
          · have hb2 : (Lib.decodeL (fromS s q)).1 = 65533 := by
              simp only [badL, decide_eq_true_eq] at hbad
              exact hbad.1
            have hne : fromS s q ≠ [] := by rw [HF.out]; simp
            have hfd : rn = 65533 := by rw [← HDr.out.1]; exact hb2
            have HPX : Hid (Lib.hasPrefix (fromS s q) [239, 191, 189] = false) := by
              show _ = _
              rw [bad_prefix hne hb2, hbad]; rfl
            have HE3 : Hid (Rr = .bad 40 (1 + pos)) := by
              have h1 := hbad
              rw [HF.out] at h1
              show _ = _
              rw [HR.out, HQ1.out, HF.out, pre_bad hch h1]; rfl
            have he : ((i + (1 + pos) : Nat) : Int) = (i : Int) + 1 + (pos : Int) := by omega
            have hat : (i : Int) + 1 + (pos : Int) = (q : Int) := by omega
            have HXE := Lib.hid (ext_all s q)
            subst hfd
            clear HQ HQ1 hwdn hrn hbad hb2 hne hwl
            obtain ⟨⟨rc0, rc1, rc2, rc3, rc4, rc5⟩, rf0, rf1, rf2, rf3, rf4, rf5⟩ := HS2.out.r; have rlt := World.block_lt_of_cell? _ _ rc0
            go_wp2_with (first
              | (go_at_call 64; refine (prefix_at (l := fromS s q) HXE.out rfl HPX.out _).mono ?_; rintro e w9 ⟨rfl, hw9⟩; rw [hw9]; clear hw9)
              | fail)
            refine bodyPost_ret (v := .tuple #[.agg #[.int .i64 0, .string ⟨#[]⟩, .int .i64 0, .int .i64 0, .string ⟨#[]⟩, .int .i64 0], .int .i64 40, .int .i64 (q : Int)]) (by simp [results, Tryd.results84, go_sem, rc0, rc1, rc2, rc3, rc4, rc5]) rfl ⟨by repeat' (first | with_reducible exact HS2.out.k | with_reducible refine K1.drew ?_ | with_reducible refine K1.drewN ?_ _ | with_reducible refine K1.setCell ?_ _ _ | with_reducible refine K1.setNew ?_ (by omega) _ _), by rw [HE3.out]; exact ⟨_, _, _, _, _, _, by rw [he, hat]⟩⟩
    · have hpe : pos = T.size := by omega
      have hqe : q = s.size := by omega
      have hnx : ∀ ty, (Instr.next (.pointer (some ⟨w.heap.size + 1 + 1, 0, none⟩)) true ty).run Tryd.prog wr = .ok (.tuple #[.bool false]) wr := fun ty => Lib.run_next_end_at wr (w.heap.size + 1 + 1) T pos ty hit hp
      have hsz2 : w.heap.size + 1 ≤ wr.heap.size := by omega
      clear hI hit hB
      have lc0 := HSr.out.l.c0; have lc1 := HSr.out.l.c1; have lf1 := HSr.out.l.f1; have llt := HSr.out.l.lt
      by_cases hodd : c % 2 = 1
      · have e1 : ((c : Int)).tmod 2 = 1 := by rw [Int.tmod_eq_emod_of_nonneg (by omega)]; omega
        have e2 : (c : Int) % 2 = 1 := by omega
        have HQ1 : Hid (1 ≤ pos ∧ X = preR out (pos - 1) (txtGo (f + 1) (39 :: fromS s q))) := by
          have := HQ
          show _ ∧ _
          rwa [Hid, if_pos hodd] at this
        have hp1 := HQ1.out.1
        have HXv : Hid (Rr = textR (some (.inl (out, pos)))) := by
          show _ = _
          rw [HR.out, HQ1.out.2, pre_end, show pos - 1 + 1 = pos by omega]
          rw [from_ge (by omega)]; simp
        clear HQ HQ1
        have HIE : Hid (Lib.IsBuilderF 140 5 (w.heap.size + 1) (w.heap.size + 1) (Lib.byteCells out) (wr.setCell ⟨b, 1, none⟩ (.int .i64 ((s.size : Int))))) := builder_far HI.out (by omega) _; have HSE : Hid (TS w (wr.setCell ⟨b, 1, none⟩ (.int .i64 ((s.size : Int)))) b m s (q)) := HSr.out.place (by omega); have hszE : w.heap.size + 1 ≤ (wr.setCell ⟨b, 1, none⟩ (.int .i64 ((s.size : Int)))).heap.size := by simp [World.setCell]; omega
        by_cases hbig : 1000 < out.length
        · have hbigi : (1000 : Int) < (out.length : Int) := by omega
          obtain ⟨⟨rc0, rc1, rc2, rc3, rc4, rc5⟩, rf0, rf1, rf2, rf3, rf4, rf5⟩ := HSE.out.r; have rlt := World.block_lt_of_cell? _ _ rc0
          go_wp2_with (first | (go_at_call 114; refine (Tryd.Builder_Len_f (w.heap.size + 1) (w.heap.size + 1) _ _ HIE.out).mono ?_; rintro e w7 ⟨rfl, hw7⟩; rw [hw7, Lib.byteCells_length]; clear hw7) | fail)
          refine bodyPost_ret (v := .tuple #[.agg #[.int .i64 0, .string ⟨#[]⟩, .int .i64 0, .int .i64 0, .string ⟨#[]⟩, .int .i64 0], .int .i64 2, .int .i64 (i : Int)]) (by simp [results, Tryd.results84, go_sem, rc0, rc1, rc2, rc3, rc4, rc5]) rfl ⟨by repeat' (first | with_reducible exact HSE.out.k | with_reducible refine K1.drew ?_ | with_reducible refine K1.drewN ?_ _ | with_reducible refine K1.setCell ?_ _ _ | with_reducible refine K1.setNew ?_ (by omega) _ _), by rw [HXv.out, textR, if_pos hbig]; exact ⟨_, _, _, _, _, _, rfl⟩⟩
        · have hbigi : ¬ (1000 : Int) < (out.length : Int) := by omega
          go_wp2_with (first | (go_at_call 114; refine (Tryd.Builder_Len_f (w.heap.size + 1) (w.heap.size + 1) _ _ HIE.out).mono ?_; rintro e w7 ⟨rfl, hw7⟩; rw [hw7, Lib.byteCells_length]; clear hw7) | (go_at_call 115; refine (Tryd.Builder_String_any_k (w.heap.size + 1) (w.heap.size + 1) out _ HIE.out hszE).mono ?_; rintro e w8 ⟨rfl, _, b8, _⟩; have HS8 := Lib.hid (HSE.out.belowB b8); obtain ⟨⟨rc0, rc1, rc2, rc3, rc4, rc5⟩, rf0, rf1, rf2, rf3, rf4, rf5⟩ := HS8.out.r; have rlt := World.block_lt_of_cell? _ _ rc0; clear b8) | fail)
          refine bodyPost_ret (v := .tuple #[(⟨3, ⟨#[]⟩, ⟨4, 0, ⟨out.toArray⟩⟩, i⟩ : Tk).v, .int .i64 0, .int .i64 0]) (by simp [results, Tryd.results84, go_sem, rc0, rc1, rc2, rc3, rc4, rc5]) rfl ⟨by repeat' (first | with_reducible exact HS8.out.k | with_reducible refine K1.drew ?_ | with_reducible refine K1.drewN ?_ _ | with_reducible refine K1.setCell ?_ _ _ | with_reducible refine K1.setNew ?_ (by omega) _ _), by rw [HXv.out, textR, if_neg hbig]; exact ⟨rfl, by rw [show i + (1 + pos) = q by omega]; exact HS8.out.l.put6 (by omega) _ _ _ _ _ _⟩⟩
      · have e1 : ((c : Int)).tmod 2 = 0 := by rw [Int.tmod_eq_emod_of_nonneg (by omega)]; omega
        have e2 : (c : Int) % 2 = 0 := by omega
        have HE3 : Hid (Rr = .bad 41 0) := by
          have h1 := HQ
          rw [Hid, if_neg hodd, from_ge (show s.size ≤ q by omega)] at h1
          have h2 : txtGo f [] = none := by cases f <;> rfl
          rw [h2] at h1
          show _ = _
          rw [HR.out, h1]; rfl
        clear HQ
        obtain ⟨⟨rc0, rc1, rc2, rc3, rc4, rc5⟩, rf0, rf1, rf2, rf3, rf4, rf5⟩ := HSr.out.r; have rlt := World.block_lt_of_cell? _ _ rc0
        go_wp2_with fail
        refine bodyPost_ret (v := .tuple #[.agg #[.int .i64 0, .string ⟨#[]⟩, .int .i64 0, .int .i64 0, .string ⟨#[]⟩, .int .i64 0], .int .i64 41, .int .i64 (i : Int)]) (by simp [results, Tryd.results84, go_sem, rc0, rc1, rc2, rc3, rc4, rc5]) rfl ⟨by repeat' (first | with_reducible exact HSr.out.k | with_reducible refine K1.drew ?_ | with_reducible refine K1.drewN ?_ _ | with_reducible refine K1.setCell ?_ _ _ | with_reducible refine K1.setNew ?_ (by omega) _ _), by rw [HE3.out]; exact ⟨_, _, _, _, _, _, rfl⟩⟩
end Go.Proofs.YtnpgjlhnlakgpaaDoor

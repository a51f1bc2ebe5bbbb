/- The contract of lex.Lex: a text's tokens, or the error and its place. -/
import Derived.Test.YtnpgjlhnlakgpaaDoorLexF0
namespace Go.Proofs.YtnpgjlhnlakgpaaDoor
open Go.RowKit

/-- Tokens as the cells of a row. -/
def tokCs (t : Tk) : List Value := [.int .i64 t.k, .string t.s, .int .i64 t.d.k, .int .i64 t.d.i, .string t.d.s, .int .i64 (t.pos : Int)]
def tokCells (ts : List Tk) : List Value := ts.flatMap tokCs
theorem tokCells_app (a b : List Tk) : tokCells (a ++ b) = tokCells a ++ tokCells b := by simp [tokCells]
theorem tokCells_one (t : Tk) : tokCells [t] = tokCs t := by simp [tokCells]
theorem tokinfo : (Tryd.prog.info? 30).map (fun i => (i.zero, i.size, i.bytes)) = some (some (.agg #[.int .i64 0, .string ⟨#[]⟩, .int .i64 0, .int .i64 0, .string ⟨#[]⟩, .int .i64 0]), 6, 64) := by kernel_rfl
theorem lexGo_skip (f : Nat) (l : List UInt8) (p n : Nat) (hf : 0 < f) : lexGo f (l.drop (skipM false l)) (p + skipM false l) n = lexGo f l p n := by
  obtain ⟨f, rfl⟩ : ∃ g, f = g + 1 := ⟨f - 1, by omega⟩
  have h0 : skipM false (l.drop (skipM false l)) = 0 := skip_skip l false
  simp only [lexGo, h0, List.drop_zero, Nat.add_zero]
/-- Tokens that are there already, ahead of what comes. -/
def lexOn (ts : List Tk) : (Int × Nat) ⊕ (List Tk) → (Int × Nat) ⊕ (List Tk)
  | .inl e => .inl e
  | .inr us => .inr (ts ++ us)
/-- The tokens, and the end. -/
def lexEnd (n : Nat) : (Int × Nat) ⊕ (List Tk) → (Int × Nat) ⊕ (List Tk)
  | .inl x => .inl x
  | .inr ts => .inr (ts ++ [⟨0, ⟨#[]⟩, Dt.zero, n⟩])
theorem lexF_end {l : List UInt8} (h : l.length ≤ 4000) : lexF l = lexEnd l.length (lexGo (l.length + 1) l 0 0) := by
  unfold lexF lexEnd
  rw [if_neg (by omega)]
  cases lexGo (l.length + 1) l 0 0 <;> rfl
/-- What a call of Lex leaves. -/
def LexPost (s : ByteArray) (w : World) (e : Ending) (w' : World) : Prop :=
  Below w.heap.size w w' ∧ match lexF s.data.toList with
    | .inl (er, p) => e = .returned (.tuple #[.slice none 0 0, .int .i64 er, .int .i64 (p : Int)])
    | .inr ts => ∃ v, e = .returned (.tuple #[v, .int .i64 0, .int .i64 0]) ∧ w'.ownsRow w.heap.size 30 6 v ts.length (tokCells ts)
/-- Where the walk of Lex stands: the lexer in block b, its words in block m, the tokens so far. -/
structure LS (w W : World) (b m : Nat) (s : ByteArray) (j : Nat) (v : Value) (ts : List Tk) : Prop where
  l : LX W b m s j
  hm : WM W m
  ne : m ≠ b
  wm : w.heap.size ≤ m
  wb : w.heap.size ≤ b
  mb : m < b
  B : Below w.heap.size w W
  o : W.ownsRow (b + 1) 30 6 v ts.length (tokCells ts)
section
variable {w W W' : World} {b m j j' : Nat} {s : ByteArray} {v v' : Value} {ts ts' : List Tk}
theorem LS.start {w1 : World} (hm : WM w1 (w.heap.size + 1)) (hB : Below w.heap.size w w1) (s : ByteArray) : LS w (w1.alloc (.cells #[.string s, .int .i64 0, .map (some (w.heap.size + 1))] 87)) w1.heap.size (w.heap.size + 1) s 0 (.slice none 0 0) [] := by
  have hlt := hm.lt
  have hc : ∀ o, (w1.alloc (.cells #[.string s, .int .i64 0, .map (some (w.heap.size + 1))] 87)).cell? ⟨w1.heap.size, o, none⟩ = (#[Value.string s, .int .i64 0, .map (some (w.heap.size + 1))] : Array Value)[o]? := fun o => World.cell?_alloc_new _ _ _ _
  exact ⟨⟨hc 0, hc 1, hc 2, World.frozen?_alloc_new ..⟩, hm.below ((Below.refl _ _).alloc (Nat.le_refl _) _), by omega, by omega, by omega, hlt, hB.alloc hB.size _, World.ownsRow_nil _ _ _ _⟩
theorem LS.call (h : LS w W b m s j v ts) (hl : LX W' b m s j') (hk : K1 b W W') : LS w W' b m s j' v ts :=
  ⟨hl, h.hm.kept hk h.ne, h.ne, h.wm, h.wb, h.mb, K1.below h.B hk h.wb, h.o.kept (row := some b) ⟨hk.os, hk.tape, hk.output, hk.size, fun k hk1 hk2 => hk.block k hk1 (fun e => hk2 (by rw [e]))⟩ (by
    cases hv : v.ownBlock with
    | none => exact .inl rfl
    | some g => exact .inr (fun e => by have := (h.o.lt g hv).1; injection e with e; omega))⟩
theorem LS.below (h : LS w W b m s j v ts) (hB : Below W.heap.size W W') : LS w W' b m s j v ts := h.call (h.l.below hB) (K1.of_below hB)
theorem LS.grow (h : LS w W b m s j v ts) (hg : W.grownBy W' v.ownBlock) (ho : W'.ownsRow (b + 1) 30 6 v' ts'.length (tokCells ts')) : LS w W' b m s j v' ts' := by
  have hlt : ∀ k, v.ownBlock = some k → b + 1 ≤ k := fun k hk => (h.o.lt k hk).1
  have hne : ∀ k, k ≤ b → some k ≠ v.ownBlock := fun k hk e => by have := hlt k e.symm; omega
  exact ⟨h.l.of_block (hg.block b h.l.lt (hne b (Nat.le_refl _))), h.hm.of_block (hg.block m h.hm.lt (hne m (by have := h.mb; omega))), h.ne, h.wm, h.wb, h.mb,
    h.B.grown hg h.B.size (fun k hk => by have := hlt k hk; have := h.wb; omega), ho⟩
end
theorem tokF_bad {l : List UInt8} {er : Int} {o : Nat} (h : tokF l = .bad er o) : er ≠ 0 := by
  simp only [tokF, bytesF, nameF, numF, numEnd, textF, symF] at h
  repeat' split at h
  all_goals first | (cases h; done) | (cases h; decide) | (injection h with h1; omega)
theorem cell_new6 (w : World) (x : Obj) (t : Tk) (y : TypeId) : ∀ j u, (tokCs t)[j]? = some u → ((w.alloc x).alloc (.cells #[.int .i64 t.k, .string t.s, .int .i64 t.d.k, .int .i64 t.d.i, .string t.d.s, .int .i64 (t.pos : Int)] y)).cell? ((⟨w.heap.size + 1, 0, none⟩ : Addr).add j) = some u := by
  intro j u hj
  have h1 := World.cell?_alloc_new (w.alloc x) #[.int .i64 t.k, .string t.s, .int .i64 t.d.k, .int .i64 t.d.i, .string t.d.s, .int .i64 (t.pos : Int)] y j
  rw [World.size_alloc] at h1
  rw [Lib.add_plain, Nat.zero_add, h1]
  rw [← hj, ← Array.getElem?_toList]
  rfl
theorem cell_new6a (w : World) (t : Tk) (y : TypeId) : ∀ j u, (tokCs t)[j]? = some u → (w.alloc (.cells #[.int .i64 t.k, .string t.s, .int .i64 t.d.k, .int .i64 t.d.i, .string t.d.s, .int .i64 (t.pos : Int)] y)).cell? ((⟨w.heap.size, 0, none⟩ : Addr).add j) = some u := by
  intro j u hj
  have h1 := World.cell?_alloc_new w #[.int .i64 t.k, .string t.s, .int .i64 t.d.k, .int .i64 t.d.i, .string t.d.s, .int .i64 (t.pos : Int)] y j
  rw [Lib.add_plain, Nat.zero_add, h1]
  rw [← hj, ← Array.getElem?_toList]
  rfl
theorem own_dn {w : World} {B B' : Nat} {e : TypeId} {k : Nat} {v : Value} {n : Nat} {xs : List Value} (h : w.ownsRow B e k v n xs) (hb : B' ≤ B) : w.ownsRow B' e k v n xs := by
  refine ⟨h.1, ?_⟩
  rcases h.2 with h | ⟨g, cap, cur, h1, h2, h3⟩
  · exact .inl h
  · exact .inr ⟨g, cap, cur, h1, Nat.le_trans hb h2, h3⟩
theorem tokCs_one (t : Tk) : ∀ u ∈ tokCs t, u.oneCell' = true := by
  intro u hu
  simp only [tokCs, List.mem_cons, List.not_mem_nil, or_false] at hu
  rcases hu with rfl | rfl | rfl | rfl | rfl | rfl <;> rfl

set_option maxRecDepth 100000 in
set_option maxHeartbeats 8000000 in
theorem lex_any (w : World) (hA : Asc w) (s : ByteArray) : Calls Tryd.prog 15 #[.string s] w (LexPost s w) := by
  have HA := Lib.hid hA
  clear hA
  obtain ⟨i0, hi0, hz0, hz1, hz2⟩ := info_parts tokinfo
  have HLP : Hid (∀ e w', Below w.heap.size w w' → (match lexF s.data.toList with
      | .inl (er, p) => e = .returned (.tuple #[.slice none 0 0, .int .i64 er, .int .i64 (p : Int)])
      | .inr ts => ∃ v, e = .returned (.tuple #[v, .int .i64 0, .int .i64 0]) ∧ w'.ownsRow w.heap.size 30 6 v ts.length (tokCells ts)) → LexPost s w e w') := fun _ _ h1 h2 => ⟨h1, h2⟩
  have hl : s.data.toList.length = s.size := rfl
  by_cases hbig : 4000 < s.size
  · have hbigi : (4000 : Int) < (s.size : Int) := by omega
    have HX : Hid (lexF s.data.toList = .inl (2, 0)) := by show _ = _; unfold lexF; rw [if_pos (by omega)]
    go_enter Tryd.func15, Tryd.ntmps15
    go_wp2_with fail
    refine bodyPost_ret (v := .tuple #[.slice none 0 0, .int .i64 2, .int .i64 0]) (by simp [results, Tryd.results15, go_sem]) rfl (HLP.out _ _ (Below.refl _ _) (by rw [HX.out]; rfl))
  · have hs : s.size ≤ 4000 := by omega
    obtain ⟨XX, hXX⟩ : ∃ XX, lexGo (s.size + 1) (fromS s 0) 0 0 = XX := ⟨_, rfl⟩
    have HXX := Lib.hid hXX
    have HLF : Hid (lexF s.data.toList = lexEnd s.size XX) := by
      show _ = _
      rw [lexF_end (by omega), hl, ← hXX]
      rfl
    clear hXX
    go_enter Tryd.func15, Tryd.ntmps15
    go_wp2_with (first
      | (go_at_call 49; refine (words_any _ HA.out).mono ?_; rintro e w1 ⟨rfl, hwm, hB1⟩; have HS1 : Hid (LS w (w1.alloc (.cells #[.string s, .int .i64 0, .map (some (w.heap.size + 1))] 87)) w1.heap.size (w.heap.size + 1) s 0 (.slice none 0 0) []) := LS.start hwm hB1 s)
      | (go_at_call 50; refine (blanks_any HS1.out.l hs (Nat.zero_le _)).mono ?_; rintro e w2 ⟨rfl, hl2, hk2⟩; have HS2 := Lib.hid (HS1.out.call hl2 hk2); clear hl2 hk2)
      | fail)
    go_loopw [6] (fun v wr => ∃ (i f : Nat) (ts : List Tk), i ≤ s.size ∧ LS w wr w1.heap.size (w.heap.size + 1) s i v ts ∧ skipM false (fromS s i) = 0 ∧ s.size - i < f ∧ ts.length ≤ 1000 ∧ Hid (XX = lexOn ts (lexGo f (fromS s i) i ts.length))) (fun _ wr => s.size - plc wr w1.heap.size)
    case atStart =>
      refine ⟨0 + skipM false (fromS s 0), s.size + 1, [], ?_, HS2.out, ?_, by omega, by simp, ?_⟩
      · have := skipM_le (fromS s 0) false
        rw [from_len] at this; omega
      · have := skip_skip (fromS s 0) false
        rwa [from_from] at this
      · show _ = _
        rw [← HXX.out, ← lexGo_skip _ (fromS s 0) 0 0 (by omega), from_from]
        simp only [List.length_nil]
        cases lexGo (s.size + 1) (fromS s (0 + skipM false (fromS s 0))) (0 + skipM false (fromS s 0)) 0 <;> rfl
    case round =>
      obtain ⟨i, f, ts, hi, hS, hsk, hf, hn, HQ⟩ := hrel
      have HS := Lib.hid hS
      have HSK := Lib.hid hsk
      have lc0 := hS.l.c0
      have lc1 := hS.l.c1
      have llt := hS.l.lt
      have hplc := hS.l.plc
      obtain ⟨sp, sc, hsl⟩ := owns_sl2 hS.o
      subst hsl
      clear hS hsk
      obtain ⟨f, rfl⟩ : ∃ g, f = g + 1 := ⟨f - 1, by omega⟩
      by_cases hlt : i < s.size
      · have hlti : (i : Int) < (s.size : Int) := by omega
        have hne : fromS s i ≠ [] := by rw [from_lt hlt]; simp
        by_cases h1000 : 1000 ≤ ts.length
        · have hni : (1000 : Int) ≤ (ts.length : Int) := by omega
          have HE : Hid (lexF s.data.toList = .inl (2, i)) := by
            show _ = _
            rw [HLF.out, HQ.out]
            simp only [lexGo, HSK.out, List.drop_zero]
            rw [if_neg hne, if_pos h1000]; rfl
          go_wp2_with fail
          go_quiet (fail)
          go_wp2_with fail
          refine bodyPost_ret (v := .tuple #[.slice none 0 0, .int .i64 2, .int .i64 (i : Int)]) (by simp [results, Tryd.results15, go_sem]) rfl (HLP.out _ _ (drN HS.out.B _) (by rw [HE.out]))
        · have hni : ¬ (1000 : Int) ≤ (ts.length : Int) := by omega
          cases hr : tokF (fromS s i) with
          | bad er o =>
            have hne0 := tokF_bad hr
            have HRR := Lib.hid hr
            have HE : Hid (lexF s.data.toList = .inl (er, i + o)) := by
              show _ = _
              rw [HLF.out, HQ.out]
              simp only [lexGo, HSK.out, List.drop_zero]
              rw [if_neg hne, if_neg h1000, hr]; rfl
            clear hr
            go_wp2_with (first
              | (go_at_call 51; refine (tp_bad (token_any HS.out.l HS.out.hm HS.out.ne hs hlt) HRR.out).mono ?_; rintro e w5 ⟨x0, x1, x2, x3, x4, x5, rfl, hk5⟩; have HB5 := Lib.hid (K1.below HS.out.B hk5 HS.out.wb); clear hk5)
              | fail)
            refine bodyPost_ret (v := .tuple #[.slice none 0 0, .int .i64 er, .int .i64 ((i + o : Nat) : Int)]) (by simp [results, Tryd.results15, go_sem]) rfl (HLP.out _ _ (HB5.out.alloc HB5.out.size _) (by rw [HE.out]))
          | ok k x d n =>
            have HRR := Lib.hid hr
            have hlen := tokF_len hne hr
            rw [from_len] at hlen
            have HE : Hid (XX = lexOn (ts ++ [⟨k, x, d, i⟩]) (lexGo f (fromS s (i + n)) (i + n) (ts.length + 1))) := by
              show _ = _
              rw [HQ.out]
              simp only [lexGo, HSK.out, List.drop_zero, Nat.add_zero]
              rw [if_neg hne, if_neg h1000, hr]
              simp only
              rw [from_from]
              cases lexGo f (fromS s (i + n)) (i + n) (ts.length + 1) with
              | inl e => rfl
              | inr us => simp [lexOn]
            have HLen : Hid ((tokCells (ts ++ [⟨k, x, d, i⟩])) = tokCells ts ++ tokCs ⟨k, x, d, i⟩ ∧ (ts ++ [(⟨k, x, d, i⟩ : Tk)]).length = ts.length + 1) := ⟨by rw [tokCells_app, tokCells_one], by simp⟩
            have hfin : s.size - (i + n) < f := by omega
            clear hr HQ
            go_wp2_with (first
              | (go_at_call 51; refine (tp_ok (token_any HS.out.l HS.out.hm HS.out.ne hs hlt) HRR.out).mono ?_; rintro e w5 ⟨rfl, hl5, hk5⟩; have HS5 := Lib.hid (HS.out.call hl5 hk5); clear hl5 hk5 HRR)
              | (at_builtin; refine wpList_append_own _ rfl _ _ 23 rfl (w1.heap.size + 1) 30 i0 (.agg #[.int .i64 0, .string ⟨#[]⟩, .int .i64 0, .int .i64 0, .string ⟨#[]⟩, .int .i64 0]) 6 64 Tryd.underlying23 hi0 hz0 hz1 hz2 rfl (by decide) _ _ _ rfl ((HS5.out.below ((Below.refl _ _).alloc (Nat.le_refl _) _)).below ((Below.refl _ _).alloc (Nat.le_refl _) _)).o ⟨w5.heap.size + 1, 0, none⟩ 1 1 (tokCs ⟨k, x, d, i⟩) rfl rfl (cell_new6 w5 _ ⟨k, x, d, i⟩ _) (tokCs_one _) (by unfold maxLen; omega) (by omega) (by have := HS5.out.l.lt; simp; omega) ?_; intro v' w6 hown' hgrow _; have HS6 := Lib.hid (((HS5.out.below ((Below.refl _ _).alloc (Nat.le_refl _) _)).below ((Below.refl _ _).alloc (Nat.le_refl _) _)).grow (ts' := ts ++ [⟨k, x, d, i⟩]) hgrow (by rw [HLen.out.1, HLen.out.2]; exact hown')); clear hown' hgrow)
              | (go_at_call 50; refine (blanks_any HS6.out.l hs (by omega)).mono ?_; rintro e w7 ⟨rfl, hl7, hk7⟩; have HS7 := Lib.hid (HS6.out.call hl7 hk7); clear hl7 hk7)
              | fail)
            go_roundw
            case rel =>
              have h1 := skipM_le (fromS s (i + n)) false
              rw [from_len] at h1
              refine ⟨i + n + skipM false (fromS s (i + n)), f, ts ++ [⟨k, x, d, i⟩], by omega, HS7.out, ?_, by omega, by rw [HLen.out.2]; omega, ?_⟩
              · have := skip_skip (fromS s (i + n)) false
                rwa [from_from] at this
              · show _ = _
                rw [HE.out, ← lexGo_skip _ (fromS s (i + n)) (i + n) (ts.length + 1) (by omega), from_from, HLen.out.2]
            case measure => rw [HS7.out.l.plc, hplc]; omega
      · have hie : i = s.size := by omega
        have hlti : ¬ (i : Int) < (s.size : Int) := by omega
        have HE : Hid (lexF s.data.toList = .inr (ts ++ [⟨0, ⟨#[]⟩, Dt.zero, s.size⟩])) := by
          show _ = _
          rw [HLF.out, HQ.out, from_ge (by omega)]
          simp [lexGo, lexOn, lexEnd]
        have HLen : Hid ((tokCells (ts ++ [⟨0, ⟨#[]⟩, Dt.zero, s.size⟩])) = tokCells ts ++ tokCs ⟨0, ⟨#[]⟩, Dt.zero, s.size⟩ ∧ (ts ++ [(⟨0, ⟨#[]⟩, Dt.zero, s.size⟩ : Tk)]).length = ts.length + 1) := ⟨by rw [tokCells_app, tokCells_one], by simp⟩
        clear HQ
        go_wp2_with (first
          | (at_builtin; refine wpList_append_own _ rfl _ _ 23 rfl (w1.heap.size + 1) 30 i0 (.agg #[.int .i64 0, .string ⟨#[]⟩, .int .i64 0, .int .i64 0, .string ⟨#[]⟩, .int .i64 0]) 6 64 Tryd.underlying23 hi0 hz0 hz1 hz2 rfl (by decide) _ _ _ rfl (HS.out.below ((Below.refl _ _).alloc (Nat.le_refl _) _)).o ⟨wr.heap.size, 0, none⟩ 1 1 (tokCs ⟨0, ⟨#[]⟩, Dt.zero, s.size⟩) rfl rfl (cell_new6a wr ⟨0, ⟨#[]⟩, Dt.zero, s.size⟩ _) (tokCs_one _) (by unfold maxLen; omega) (by omega) (by have := HS.out.l.lt; simp; omega) ?_; intro v' w6 hown' hgrow _; have HS6 := Lib.hid ((HS.out.below ((Below.refl _ _).alloc (Nat.le_refl _) _)).grow (ts' := ts ++ [⟨0, ⟨#[]⟩, Dt.zero, s.size⟩]) hgrow (by rw [HLen.out.1, HLen.out.2]; exact hown')); clear hown' hgrow)
          | fail)
        refine bodyPost_ret (v := .tuple #[v', .int .i64 0, .int .i64 0]) (by simp [results, Tryd.results15, go_sem]) rfl (HLP.out _ _ HS6.out.B (by rw [HE.out]; exact ⟨v', rfl, own_dn HS6.out.o (by have := HS6.out.wb; omega)⟩))
end Go.Proofs.YtnpgjlhnlakgpaaDoor

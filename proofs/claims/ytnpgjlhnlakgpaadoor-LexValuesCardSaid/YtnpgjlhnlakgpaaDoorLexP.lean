/- Plain laws of the lexer: how much a token takes; fuel, places and counts; a text from a token on. No program in sight. -/
import Derived.Test.YtnpgjlhnlakgpaaDoorLexL
import Derived.Lib.MapLaws
namespace Go.Proofs.YtnpgjlhnlakgpaaDoor

theorem skip_skip : ∀ (l : List UInt8) (m : Bool), skipM false (l.drop (skipM m l)) = 0
  | [], m => by cases m <;> simp [skipM]
  | c :: r, true => by
    have h := skip_skip r (!decide (c = 10))
    simpa [skipM, Nat.add_comm 1] using h
  | c :: r, false => by
    have h1 := skip_skip r false
    have h2 := skip_skip r true
    by_cases c1 : isBl c = true
    · simpa [skipM, c1, Nat.add_comm 1] using h1
    · by_cases c2 : c = 45 ∧ r.head? = some 45
      · have : skipM false (c :: r) = 1 + skipM true r := by simp only [skipM]; rw [if_neg c1, if_pos c2]
        rw [this]
        simpa [Nat.add_comm 1] using h2
      · have : skipM false (c :: r) = 0 := by simp only [skipM]; rw [if_neg c1, if_neg c2]
        rw [this, List.drop_zero, this]

theorem takeWhile_le (p : UInt8 → Bool) (l : List UInt8) : (l.takeWhile p).length ≤ l.length := by
  have := congrArg List.length (List.takeWhile_append_dropWhile (p := p) (l := l))
  rw [List.length_append] at this; omega
theorem nameF_len {l : List UInt8} {k s d n} (h0 : isNm (l.headD 0) = true) (hl : l ≠ []) (h : nameF l = .ok k s d n) : 1 ≤ n ∧ n ≤ l.length := by
  have h1 := takeWhile_le isNm l
  have h2 : 1 ≤ (l.takeWhile isNm).length := by
    cases l with
    | nil => exact absurd rfl hl
    | cons c r => simp at h0; simp [h0]
  simp only [nameF] at h
  split at h
  · cases h
  · split at h <;> (cases h; omega)
theorem fracF_len {l f : List UInt8} (h : fracF l = some f) : 1 ≤ f.length ∧ f.length + 1 ≤ l.length := by
  unfold fracF at h
  split at h
  · rename_i c r
    split at h
    · rename_i hc
      cases h
      have := takeWhile_le isDig (c :: r)
      have h2 : 1 ≤ ((c :: r).takeWhile isDig).length := by simp [hc]
      simp only [List.length_cons] at this ⊢; omega
    · cases h
  · cases h
theorem numEnd_ok {k ds n l k' s d n'} (h : numEnd k ds n l = .ok k' s d n') : n' = n := by
  unfold numEnd at h
  split at h
  · cases h
  · cases h; rfl
theorem numF_len {l : List UInt8} {k s d n} (h0 : isDig (l.headD 0) = true) (hl : l ≠ []) (h : numF l = .ok k s d n) : 1 ≤ n ∧ n ≤ l.length := by
  have h1 := takeWhile_le isDig l
  have h2 : 1 ≤ (l.takeWhile isDig).length := by
    cases l with
    | nil => exact absurd rfl hl
    | cons c r => simp at h0; simp [h0]
  simp only [numF] at h
  split at h
  · have := numEnd_ok h; omega
  · rename_i f hf
    have h3 := fracF_len hf
    rw [List.length_drop] at h3
    split at h
    · cases h
    · have := numEnd_ok h; omega
theorem txtGo_len : ∀ (f : Nat) (l v : List UInt8) (n : Nat), txtGo f l = some (.inl (v, n)) → 1 ≤ n ∧ n ≤ l.length
  | 0, l, v, n, h => by simp [txtGo] at h
  | f + 1, [], v, n, h => by simp [txtGo] at h
  | f + 1, c :: r, v, n, h => by
    unfold txtGo at h
    split at h
    · split at h
      · rename_i hr
        cases r with
        | nil => simp at hr
        | cons c' r' =>
          simp only [List.tail_cons] at h
          cases hx : txtGo f r' with
          | none => rw [hx] at h; cases h
          | some x =>
            rw [hx] at h
            rcases x with ⟨v', n'⟩ | o
            · have := txtGo_len f r' v' n' hx
              cases h
              simp; omega
            · cases h
      · cases h; simp
    · split at h
      · cases h
      · have hw := Lib.decodeL_width (c :: r)
        have hle := Lib.decodeL_le (c :: r) (by simp)
        generalize (Lib.decodeL (c :: r)).2 = wd at *
        cases hx : txtGo f ((c :: r).drop wd) with
        | none => rw [hx] at h; cases h
        | some x =>
          rw [hx] at h
          rcases x with ⟨v', n'⟩ | o
          · have := txtGo_len f _ v' n' hx
            rw [List.length_drop] at this
            cases h
            omega
          · cases h
theorem textF_len {l : List UInt8} {k s d n} (hl : 1 ≤ l.length) (h : textF l = .ok k s d n) : 1 ≤ n ∧ n ≤ l.length := by
  unfold textF at h
  split at h
  · cases h
  · cases h
  · rename_i v m hx
    have := txtGo_len _ _ _ _ hx
    rw [List.length_drop] at this
    split at h
    · cases h
    · cases h; omega
theorem hexGo_len : ∀ (l : List UInt8) (ds : List Nat), hexGo l = some (some ds) → ds.length + 1 ≤ l.length
  | [], ds, h => by simp [hexGo] at h
  | c :: r, ds, h => by
    unfold hexGo at h
    split at h
    · cases h; simp
    · split at h
      · cases h
      · cases hx : hexGo r with
        | none => rw [hx] at h; cases h
        | some o =>
          rw [hx] at h
          cases o with
          | none => simp at h
          | some ds' =>
            have := hexGo_len r ds' hx
            simp at h
            subst h
            simp; omega
theorem bytesF_len {l : List UInt8} {k s d n} (hl : 2 ≤ l.length) (h : bytesF l = .ok k s d n) : 1 ≤ n ∧ n ≤ l.length := by
  unfold bytesF at h
  split at h
  · cases h
  · cases h
  · rename_i ds hx
    have := hexGo_len _ _ hx
    rw [List.length_drop] at this
    split at h
    · cases h
    · split at h
      · cases h
      · cases h; omega
theorem symF_len {l : List UInt8} {k s d n} (hl : l ≠ []) (h : symF l = .ok k s d n) : 1 ≤ n ∧ n ≤ l.length := by
  have h0 : 1 ≤ l.length := by cases l with | nil => exact absurd rfl hl | cons => simp
  unfold symF at h
  split at h
  · rename_i h2
    cases h
    refine ⟨by omega, ?_⟩
    have : (l.take 2).length = 2 := by
      simp only [sym2, decide_eq_true_eq] at h2
      rcases h2 with h2 | h2 | h2 <;> (rw [h2]; rfl)
    rw [List.length_take] at this; omega
  · split at h
    · cases h; omega
    · cases h
theorem tokF_len {l : List UInt8} {k s d n} (hl : l ≠ []) (h : tokF l = .ok k s d n) : 1 ≤ n ∧ n ≤ l.length := by
  simp only [tokF] at h
  split at h
  · rename_i hc
    refine bytesF_len ?_ h
    rcases l with _ | ⟨a, _ | ⟨b, r⟩⟩
    · exact absurd rfl hl
    · simp at hc
    · simp
  · split at h
    · rename_i hc; exact nameF_len (by unfold isNm; rw [hc]; rfl) hl h
    · split at h
      · rename_i hc; exact numF_len hc hl h
      · split at h
        · exact textF_len (by cases l with | nil => exact absurd rfl hl | cons => simp) h
        · exact symF_len hl h

theorem lexGo_fuel : ∀ (f g : Nat) (l : List UInt8) (p n : Nat), l.length < f → l.length < g → lexGo f l p n = lexGo g l p n
  | 0, _, _, _, _, h, _ => by omega
  | _, 0, _, _, _, _, h => by omega
  | f + 1, g + 1, l, p, n, hf, hg => by
    simp only [lexGo]
    split
    · rfl
    · rename_i hne
      split
      · rfl
      · cases ht : tokF (l.drop (skipM false l)) with
        | bad e o => rfl
        | ok k s d m =>
          have hm := tokF_len hne ht
          have hlen : ((l.drop (skipM false l)).drop m).length < l.length := by
            rw [List.length_drop]
            have : (l.drop (skipM false l)).length ≤ l.length := by rw [List.length_drop]; omega
            omega
          simp only
          rw [lexGo_fuel f g _ _ _ (by omega) (by omega)]
/-- A token further on. -/
def Tk.shift (q : Nat) (t : Tk) : Tk := ⟨t.k, t.s, t.d, t.pos + q⟩
theorem lexGo_shift : ∀ (f : Nat) (l : List UInt8) (p q n : Nat) (ts : List Tk), lexGo f l p n = .inr ts → lexGo f l (p + q) n = .inr (ts.map (Tk.shift q))
  | 0, _, _, _, _, ts, h => by simp only [lexGo] at h ⊢; cases h; rfl
  | f + 1, l, p, q, n, ts, h => by
    simp only [lexGo] at h ⊢
    split
    · rename_i hc; rw [if_pos hc] at h; cases h; rfl
    · rename_i hc
      rw [if_neg hc] at h
      split
      · rename_i h1; rw [if_pos h1] at h; cases h
      · rename_i h1
        rw [if_neg h1] at h
        cases ht : tokF (l.drop (skipM false l)) with
        | bad e o => rw [ht] at h; cases h
        | ok k s d m =>
          rw [ht] at h
          simp only at h ⊢
          cases hx : lexGo f ((l.drop (skipM false l)).drop m) (p + skipM false l + m) (n + 1) with
          | inl x => rw [hx] at h; cases h
          | inr ts' =>
            rw [hx] at h
            have := lexGo_shift f _ _ q _ ts' hx
            rw [show p + q + skipM false l + m = p + skipM false l + m + q by omega, this]
            cases h
            simp only [List.map_cons, Tk.shift]
            rw [show p + q + skipM false l = p + skipM false l + q by omega]
theorem lexGo_fewer : ∀ (f : Nat) (l : List UInt8) (p n n' : Nat) (ts : List Tk), n' ≤ n → lexGo f l p n = .inr ts → lexGo f l p n' = .inr ts
  | 0, _, _, _, _, ts, _, h => by simp only [lexGo] at h ⊢; exact h
  | f + 1, l, p, n, n', ts, hn, h => by
    simp only [lexGo] at h ⊢
    split
    · rename_i hc; rw [if_pos hc] at h; exact h
    · rename_i hc
      rw [if_neg hc] at h
      split
      · rename_i h1; rw [if_pos (by omega)] at h; cases h
      · rename_i h1
        by_cases h2 : 1000 ≤ n
        · rw [if_pos h2] at h; cases h
        rw [if_neg h2] at h
        cases ht : tokF (l.drop (skipM false l)) with
        | bad e o => rw [ht] at h; cases h
        | ok k s d m =>
          rw [ht] at h
          simp only at h ⊢
          cases hx : lexGo f ((l.drop (skipM false l)).drop m) (p + skipM false l + m) (n + 1) with
          | inl x => rw [hx] at h; cases h
          | inr ts' =>
            rw [hx] at h
            rw [lexGo_fewer f _ _ _ _ ts' (by omega) hx]
            exact h
theorem tokF_kind {l : List UInt8} {k s d n} (h : tokF l = .ok k s d n) : k = 1 ∨ k = 2 ∨ k = 3 ∨ k = 4 := by
  simp only [tokF, bytesF, nameF, numF, numEnd, textF, symF] at h
  repeat' split at h
  all_goals first | (cases h; done) | (cases h; decide) | (injection h with h1; omega)

/-- What is known of the tokens from a place on, told from any of them on. -/
theorem lexGo_from : ∀ (f : Nat) (l : List UInt8) (p n : Nat) (ts : List Tk), l.length < f → lexGo f l p n = .inr ts → ∀ (i : Nat) (t : Tk), ts[i]? = some t →
    p ≤ t.pos ∧ t.pos < p + l.length ∧ (∀ u : Tk, 0 < i → ts[i - 1]? = some u → u.pos < t.pos) ∧ ∃ g, (l.drop (t.pos - p)).length < g ∧ lexGo g (l.drop (t.pos - p)) t.pos n = .inr (ts.drop i)
  | 0, _, _, _, _, h, _ => by omega
  | f + 1, l, p, n, ts, hf, h => by
    intro i t hi
    have hsk := skipM_le l false
    have h0 := h
    simp only [lexGo] at h
    by_cases hc : l.drop (skipM false l) = []
    · rw [if_pos hc] at h; cases h; simp at hi
    rw [if_neg hc] at h
    by_cases h1 : 1000 ≤ n
    · rw [if_pos h1] at h; cases h
    rw [if_neg h1] at h
    have hlt : skipM false l < l.length := by
      rcases Nat.lt_or_ge (skipM false l) l.length with h | h
      · exact h
      · exact absurd (List.drop_eq_nil_of_le h) hc
    cases ht : tokF (l.drop (skipM false l)) with
    | bad e o => rw [ht] at h; cases h
    | ok k s d m =>
      rw [ht] at h
      simp only at h
      cases hx : lexGo f ((l.drop (skipM false l)).drop m) (p + skipM false l + m) (n + 1) with
      | inl x => rw [hx] at h; cases h
      | inr ts' =>
        rw [hx] at h
        have hm := tokF_len hc ht
        rw [List.length_drop] at hm
        cases h
        match i, hi with
        | 0, hi =>
          simp at hi
          subst hi
          refine ⟨by simp, by simp; omega, fun u hu => by omega, l.length + 1, by rw [List.length_drop]; omega, ?_⟩
          simp only [Nat.add_sub_cancel_left, List.drop_zero]
          have hs0 : skipM false (l.drop (skipM false l)) = 0 := skip_skip l false
          rw [lexGo]
          simp only [hs0, List.drop_zero, Nat.add_zero]
          rw [if_neg hc, if_neg h1, ht]
          simp only
          rw [lexGo_fuel l.length f _ _ _ (by simp only [List.length_drop]; omega) (by simp only [List.length_drop]; omega), hx]
        | i + 1, hi =>
          simp only [List.getElem?_cons_succ] at hi
          have hlen : ((l.drop (skipM false l)).drop m).length = l.length - skipM false l - m := by simp only [List.length_drop]
          obtain ⟨a1, a2, a3, g, a4, a5⟩ := lexGo_from f _ _ _ ts' (by rw [hlen]; omega) hx i t hi
          rw [hlen] at a2
          have e : ((l.drop (skipM false l)).drop m).drop (t.pos - (p + skipM false l + m)) = l.drop (t.pos - p) := by
            rw [List.drop_drop, List.drop_drop]; congr 1; omega
          rw [e] at a4 a5
          refine ⟨by omega, by omega, ?_, g, a4, ?_⟩
          · intro u _ hu
            match i, hi, hu with
            | 0, hi, hu => simp at hu; subst hu; simp only; omega
            | i + 1, hi, hu => simp only [Nat.add_sub_cancel, List.getElem?_cons_succ] at hu; exact a3 u (by omega) (by simpa using hu)
          · rw [List.drop_succ_cons]
            exact lexGo_fewer _ _ _ _ _ _ (by omega) a5
theorem lexGo_kinds : ∀ (f : Nat) (l : List UInt8) (p n : Nat) (ts : List Tk), lexGo f l p n = .inr ts → ∀ t ∈ ts, t.k ≠ 0
  | 0, _, _, _, _, h => by simp only [lexGo] at h; cases h; simp
  | f + 1, l, p, n, ts, h => by
    simp only [lexGo] at h
    split at h
    · cases h; simp
    · split at h
      · cases h
      · split at h
        · cases h
        · rename_i ht
          split at h
          · cases h
          · rename_i hx
            cases h
            intro t htm
            rcases List.mem_cons.1 htm with rfl | htm
            · have := tokF_kind ht; simp only; omega
            · exact lexGo_kinds f _ _ _ _ hx t htm
end Go.Proofs.YtnpgjlhnlakgpaaDoor

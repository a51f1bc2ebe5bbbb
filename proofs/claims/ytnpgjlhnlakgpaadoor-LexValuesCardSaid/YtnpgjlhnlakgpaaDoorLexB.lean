/- Plain laws: each token of a text, shown, is that token again; tokens shown one behind the other with blanks between; literals. No program in sight. -/
import Derived.Test.YtnpgjlhnlakgpaaDoorLexA
namespace Go.Proofs.YtnpgjlhnlakgpaaDoor

/-- A token as a text. -/
def showF (k : Int) (s : ByteArray) (d : Dt) : List UInt8 :=
  if k ≠ 3 then s.data.toList
  else if d.i = -9223372036854775808 ∧ d.k = 2 then [57, 50, 50, 51, 51, 55, 50, 48, 51, 54, 56, 53, 52, 55, 55, 53, 56, 48, 56]
  else if d.i = -9223372036854775808 ∧ d.k = 3 then [57, 50, 50, 51, 51, 55, 50, 48, 51, 54, 56, 53, 52, 55, 55, 46, 53, 56, 48, 56]
  else printF d

theorem amtV_pos {u : Nat} (h : u ≤ 9223372036854775808) (hi : amtV u ≠ -9223372036854775808) : amtV u = (u : Int) ∧ u < 9223372036854775808 := by
  unfold amtV at *
  split at hi
  · exact absurd rfl hi
  · rename_i h1; rw [if_neg h1]; exact ⟨rfl, by omega⟩
theorem right_num {k i : Int} (hk : k = 2 ∨ k = 3) : rightD ⟨k, i, ⟨#[]⟩⟩ = true := by
  unfold rightD rightN
  rcases hk with rfl | rfl <;> simp [ByteArray.toList_eq]
/-- A number's amount, shown, is that number. -/
theorem again_num {k : Int} (hk : k = 2 ∨ k = 3) {u : Nat} (hu : u ≤ 9223372036854775808) : AgainOK (showF 3 ⟨#[]⟩ ⟨k, amtV u, ⟨#[]⟩⟩) 3 ⟨#[]⟩ ⟨k, amtV u, ⟨#[]⟩⟩ := by
  unfold showF
  rw [if_neg (by simp)]
  by_cases hi : amtV u = -9223372036854775808
  · rcases hk with rfl | rfl
    · rw [if_pos ⟨hi, rfl⟩, hi]
      exact again_int (by simp) (by decide) (by decide)
    · rw [if_neg (by simp), if_pos ⟨hi, rfl⟩, hi]
      exact again_dec (a := [57, 50, 50, 51, 51, 55, 50, 48, 51, 54, 56, 53, 52, 55, 55]) (f := [53, 56, 48, 56]) (by simp) (by decide) rfl (by decide) (by decide)
  · rw [if_neg (fun h => hi h.1), if_neg (fun h => hi h.1)]
    obtain ⟨e, hlt⟩ := amtV_pos hu hi
    unfold printF
    rw [if_neg (by rw [right_num hk]; decide)]
    rcases hk with rfl | rfl
    · simp only [show (2 : Int) ≠ 1 by decide, if_false, if_true]
      obtain ⟨h1, h2, h3⟩ := amt_dec u
      have hp : Lib.itoa (amtV u) = Lib.decDigits u := by
        rw [e]; unfold Lib.itoa; rw [if_neg (by omega)]; simp
      rw [hp]
      have := again_int h3 h2 (by omega)
      rwa [h1] at this
    · simp only [show (3 : Int) ≠ 1 by decide, show (3 : Int) ≠ 2 by decide, if_false, if_true]
      obtain ⟨h1, h2, h3⟩ := amt_dec (u / 10000)
      have h4 := @amt_four (Lib.decDigits (u / 10000)) (u % 10000) (by omega)
      have hp : decL (amtV u) = Lib.decDigits (u / 10000) ++ 46 :: four (u % 10000) := by
        rw [e]; unfold decL; rw [if_neg (by omega)]; simp
      rw [hp]
      have hs : amtF (Lib.decDigits (u / 10000) ++ four (u % 10000)) = u := by rw [h4.1, h1]; omega
      have := again_dec h3 h2 (f := four (u % 10000)) rfl h4.2 (by rw [hs]; omega)
      rwa [hs] at this
theorem numEnd_bound {k ds n l k' s d n'} (h : numEnd k ds n l = .ok k' s d n') : k' = 3 ∧ s = ⟨#[]⟩ ∧ ∃ u, u ≤ 9223372036854775808 ∧ d = ⟨k, amtV u, ⟨#[]⟩⟩ := by
  unfold numEnd at h
  split at h
  · cases h
  · rename_i hc
    cases h
    exact ⟨rfl, rfl, amtF ds, by omega, rfl⟩
theorem again_numF {l : List UInt8} {k s d n} (h : numF l = .ok k s d n) : k = 3 ∧ AgainOK (showF k s d) k s d := by
  simp only [numF] at h
  split at h
  · obtain ⟨rfl, rfl, u, hu, rfl⟩ := numEnd_bound h
    exact ⟨rfl, again_num (.inl rfl) hu⟩
  · split at h
    · cases h
    · obtain ⟨rfl, rfl, u, hu, rfl⟩ := numEnd_bound h
      exact ⟨rfl, again_num (.inr rfl) hu⟩
theorem txt_valid : ∀ (f : Nat) (l v : List UInt8) (n : Nat), txtGo f l = some (.inl (v, n)) → Lib.validD v = true
  | 0, l, v, n, h => by simp [txtGo] at h
  | f + 1, [], v, n, h => by simp [txtGo] at h
  | f + 1, c :: r, v, n, h => by
    rw [txtGo] at h
    split at h
    · split at h
      · cases hx : txtGo f r.tail with
        | none => rw [hx] at h; cases h
        | some x =>
          rw [hx] at h
          rcases x with ⟨v', n'⟩ | o
          · have := txt_valid f _ v' n' hx
            cases h
            rwa [Lib.validD_cons _ _ (by decide)]
          · cases h
      · cases h; rfl
    · split at h
      · cases h
      · rename_i hb
        have hne : c :: r ≠ [] := by simp
        have hb' : ¬ ((Lib.decodeL (c :: r)).1 = 65533 ∧ (Lib.decodeL (c :: r)).2 = 1) := by simpa [badL] using hb
        have hle := Lib.decodeL_le _ hne
        have hw := Lib.decodeL_width (c :: r)
        cases hx : txtGo f ((c :: r).drop (Lib.decodeL (c :: r)).2) with
        | none => rw [hx] at h; cases h
        | some x =>
          rw [hx] at h
          rcases x with ⟨v', n'⟩ | o
          · have ih := txt_valid f _ v' n' hx
            have hp := decode_prefix _ v' hne hb'
            have hlen : ((c :: r).take (Lib.decodeL (c :: r)).2).length = (Lib.decodeL (c :: r)).2 := by rw [List.length_take]; omega
            cases h
            rw [Lib.validD_step _ (by intro h0; have := congrArg List.length h0; rw [List.length_append, hlen] at this; simp at this; omega), hp, if_neg hb', List.drop_left' hlen]
            exact ih
          · cases h
theorem print_text_eq {s : ByteArray} (h : rightD ⟨4, 0, s⟩ = true) : printF ⟨4, 0, s⟩ = 39 :: (quoted s.data.toList ++ [39]) := by
  unfold printF
  rw [if_neg (by rw [h]; decide)]
  rfl
theorem right_text {v : List UInt8} (hv : Lib.validD v = true) (hl : v.length ≤ 1000) : rightD ⟨4, 0, ⟨v.toArray⟩⟩ = true := by
  unfold rightD
  rw [if_pos rfl]
  have e : ((⟨v.toArray⟩ : ByteArray).size) = v.length := rfl
  simp [e, hl, hv]
theorem again_textF {l : List UInt8} {k s d n} (h : textF l = .ok k s d n) : k = 3 ∧ AgainOK (showF k s d) k s d := by
  unfold textF at h
  split at h
  · cases h
  · cases h
  · rename_i v m hx
    have hv := txt_valid _ _ _ _ hx
    split at h
    · cases h
    · rename_i hl
      cases h
      refine ⟨rfl, ?_⟩
      unfold showF
      rw [if_neg (by simp), if_neg (by simp), if_neg (by simp), print_text_eq (right_text hv (by omega))]
      exact again_text hv (Nat.le_of_not_lt hl)
theorem right_bytes {v : List UInt8} (hl : v.length ≤ 1000) : rightD ⟨5, 0, ⟨v.toArray⟩⟩ = true := by
  unfold rightD rightN
  have e : ((⟨v.toArray⟩ : ByteArray).size) = v.length := rfl
  simp [e, hl]
theorem again_bytesF {l : List UInt8} {k s d n} (h : bytesF l = .ok k s d n) : k = 3 ∧ AgainOK (showF k s d) k s d := by
  unfold bytesF at h
  split at h
  · cases h
  · cases h
  · split at h
    · cases h
    · split at h
      · cases h
      · rename_i ds _ _ hl
        cases h
        refine ⟨rfl, ?_⟩
        unfold showF
        rw [if_neg (by simp), if_neg (by simp), if_neg (by simp)]
        have hp : printF ⟨5, 0, ⟨(pairsF ds).toArray⟩⟩ = 120 :: 39 :: (hexed (pairsF ds) ++ [39]) := by
          unfold printF
          rw [if_neg (by rw [right_bytes (by omega)]; decide)]
          rfl
        rw [hp]
        exact again_bytes (by omega)
theorem again_symF {l : List UInt8} {k s d n} (hne : l ≠ []) (h : symF l = .ok k s d n) : k = 4 ∧ AgainOK s.data.toList k s d := by
  unfold symF at h
  split at h
  · rename_i h2
    cases h
    exact ⟨rfl, again_sym2 h2⟩
  · split at h
    · rename_i h1
      cases h
      cases l with
      | nil => exact absurd rfl hne
      | cons c r =>
        refine ⟨rfl, ?_⟩
        exact again_sym1 (c := c) (by simpa using h1)
    · cases h
/-- Each token, shown, is that token. -/
theorem again_tok {l : List UInt8} {k s d n} (hne : l ≠ []) (h : tokF l = .ok k s d n) : AgainOK (showF k s d) k s d := by
  have hs : k ≠ 3 → showF k s d = s.data.toList := fun h => by unfold showF; rw [if_pos h]
  simp only [tokF] at h
  split at h
  · exact (again_bytesF h).2
  · split at h
    · rename_i hl
      obtain ⟨h1, h2⟩ := again_name hl hne h
      rw [hs (by omega)]; exact h2
    · split at h
      · exact (again_numF h).2
      · split at h
        · exact (again_textF h).2
        · obtain ⟨h1, h2⟩ := again_symF hne h
          rw [hs (by omega)]; exact h2
theorem again_all : ∀ (f : Nat) (l : List UInt8) (p n : Nat) (ts : List Tk), lexGo f l p n = .inr ts → ∀ t ∈ ts, AgainOK (showF t.k t.s t.d) t.k t.s t.d
  | 0, _, _, _, _, h => by simp only [lexGo] at h; cases h; simp
  | f + 1, l, p, n, ts, h => by
    simp only [lexGo] at h
    split at h
    · cases h; simp
    · rename_i hne
      split at h
      · cases h
      · split at h
        · cases h
        · rename_i ht
          split at h
          · cases h
          · rename_i hx
            cases h
            intro t htm
            rcases List.mem_cons.1 htm with rfl | htm
            · exact again_tok hne ht
            · exact again_all f _ _ _ _ hx t htm
theorem lexGo_count : ∀ (f : Nat) (l : List UInt8) (p n : Nat) (ts : List Tk), n ≤ 1000 → lexGo f l p n = .inr ts → n + ts.length ≤ 1000
  | 0, _, _, _, _, hn, h => by simp only [lexGo] at h; cases h; simpa using hn
  | f + 1, l, p, n, ts, hn, h => by
    simp only [lexGo] at h
    split at h
    · cases h; simpa using hn
    · split at h
      · cases h
      · rename_i h1
        split at h
        · cases h
        · split at h
          · cases h
          · rename_i hx
            cases h
            have := lexGo_count f _ _ _ _ (by omega) hx
            simp only [List.length_cons]; omega
/-- Blanks that can stand between two tokens. -/
def SepOK (sp : List UInt8) : Prop := (∃ c x, sp = c :: x ∧ (c = 32 ∨ c = 10)) ∧ ∀ r, skipM false (sp ++ r) = sp.length + skipM false r
def Tk.bare (t : Tk) : Tk := ⟨t.k, t.s, t.d, 0⟩
/-- Tokens shown one behind the other, blanks between them, and blanks at the end, are these tokens. -/
theorem lex_join (tl : List UInt8) (htl : skipM false tl = tl.length) : ∀ (l : List (Tk × List UInt8)) (f p n : Nat) (pre : List UInt8), (∀ x ∈ l, AgainOK (showF x.1.k x.1.s x.1.d) x.1.k x.1.s x.1.d ∧ SepOK x.2) → n + l.length ≤ 1000 →
    (∀ r, skipM false (pre ++ r) = pre.length + skipM false r) →
    (pre ++ ((l.flatMap fun x => showF x.1.k x.1.s x.1.d ++ x.2) ++ tl)).length < f →
    ∃ ts, lexGo f (pre ++ ((l.flatMap fun x => showF x.1.k x.1.s x.1.d ++ x.2) ++ tl)) p n = .inr ts ∧ ts.map Tk.bare = l.map fun x => x.1.bare
  | l, 0, _, _, _, _, _, _, h => by omega
  | [], f + 1, p, n, pre, _, _, hpre, _ => by
    refine ⟨[], ?_, rfl⟩
    have h1 := hpre tl
    simp only [List.flatMap_nil, List.nil_append] at h1 ⊢
    simp only [lexGo, h1, htl]
    rw [if_pos (by simp)]
  | (t, sp) :: l, f + 1, p, n, pre, hall, hn, hpre, hf => by
    obtain ⟨⟨hne, hag⟩, ⟨c, x, hc, hcb⟩, hsk⟩ := hall (t, sp) (by simp)
    simp only at hne hag hc hcb hsk
    simp only [List.flatMap_cons, List.append_assoc] at hf ⊢
    generalize hR : ((l.flatMap fun x => showF x.1.k x.1.s x.1.d ++ x.2) ++ tl) = R at *
    obtain ⟨a1, a2⟩ := hag (sp ++ R) (.inr ⟨c, x ++ R, by rw [hc]; rfl, hcb⟩)
    simp only [List.length_cons] at hn
    have hs1 : 1 ≤ (showF t.k t.s t.d).length := List.length_pos_iff.2 hne
    obtain ⟨ts, h1, h2⟩ := lex_join tl htl l f (p + pre.length + (showF t.k t.s t.d).length) (n + 1) sp (fun y hy => hall y (by simp [hy])) (by omega) hsk (by
      rw [hR]
      simp only [List.length_append] at hf ⊢
      omega)
    rw [hR] at h1
    refine ⟨⟨t.k, t.s, t.d, p + pre.length⟩ :: ts, ?_, by simp [h2, Tk.bare]⟩
    have hb : skipM false (pre ++ (showF t.k t.s t.d ++ (sp ++ R))) = pre.length := by rw [hpre, a1]; rfl
    simp only [lexGo, hb]
    rw [List.drop_left, if_neg (by simp [hne]), if_neg (by omega), a2]
    simp only
    rw [List.drop_left, h1]
end Go.Proofs.YtnpgjlhnlakgpaaDoor

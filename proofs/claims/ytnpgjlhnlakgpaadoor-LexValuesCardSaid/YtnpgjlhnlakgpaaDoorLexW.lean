/- Plain laws of the words of the language: a word between blanks stands in the list just if it is a word. No program in sight. -/
import Derived.Test.YtnpgjlhnlakgpaaDoorLexL
import Derived.Test.YtnpgjlhnlakgpaaDoorPrintF
namespace Go.Proofs.YtnpgjlhnlakgpaaDoor

theorem parts_ne : ∀ t : List UInt8, partsF t ≠ []
  | [] => by simp [partsF]
  | c :: r => by
    unfold partsF
    split
    · simp
    · split <;> simp
theorem parts_in (s : List UInt8) (hs : ∀ c ∈ s, c ≠ 32) : ∀ t : List UInt8, (s ++ [32] <+: t ++ [32] ↔ s = (partsF t).headD []) ∧ (32 :: (s ++ [32]) <:+: t ++ [32] ↔ s ∈ (partsF t).tail)
  | [] => by
    constructor
    · simp only [partsF, List.headD_cons, List.nil_append]
      constructor
      · intro h
        have := h.length_le
        simp at this
        exact this
      · rintro rfl; simp
    · simp only [partsF, List.tail_cons, List.nil_append]
      constructor
      · intro h
        have := h.length_le
        simp at this
      · intro h; simp at h
  | c :: r => by
    obtain ⟨h1, h2⟩ := parts_in s hs r
    obtain ⟨p, ps, hp⟩ : ∃ p ps, partsF r = p :: ps := by
      cases h : partsF r with
      | nil => exact absurd h (parts_ne r)
      | cons p ps => exact ⟨p, ps, rfl⟩
    rw [hp] at h1 h2
    simp only [List.headD_cons, List.tail_cons] at h1 h2
    by_cases hc : c = 32
    · subst hc
      have e : partsF (32 :: r) = [] :: p :: ps := by simp [partsF, hp]
      rw [e]
      constructor
      · simp only [List.headD_cons, List.cons_append]
        constructor
        · intro h
          cases s with
          | nil => rfl
          | cons x s =>
            rw [List.cons_append, List.cons_prefix_cons] at h
            exact absurd h.1 (hs x (by simp))
        · rintro rfl; simp
      · simp only [List.tail_cons, List.cons_append, List.infix_cons_iff, List.cons_prefix_cons, true_and, h1, h2, List.mem_cons]
    · have e : partsF (c :: r) = (c :: p) :: ps := by simp [partsF, hp, hc]
      rw [e]
      constructor
      · simp only [List.headD_cons, List.cons_append]
        cases s with
        | nil =>
          constructor
          · intro h
            rw [List.nil_append, List.cons_prefix_cons] at h
            exact absurd h.1.symm hc
          · intro h; cases h
        | cons x s =>
          have := parts_in s (fun y hy => hs y (by simp [hy])) r
          rw [List.cons_append, List.cons_prefix_cons, this.1, hp]
          simp
      · simp only [List.tail_cons, List.cons_append, List.infix_cons_iff, List.cons_prefix_cons, h2]
        constructor
        · rintro (⟨h, _⟩ | h)
          · exact absurd h.symm hc
          · exact h
        · exact .inr
/-- The list, a blank at each end. -/
def allT : List UInt8 := 32 :: (wordsT ++ [32])
theorem word_good : ∀ s ∈ wordL, s ≠ [] ∧ (∀ c ∈ s, c ≠ 32) ∧ s.length ≤ 20 := by decide +kernel
/-- A text stands there between blanks just if it is a word. -/
theorem word_iff (s : List UInt8) (hs : ∀ c ∈ s, c ≠ 32) : 32 :: (s ++ [32]) <:+: allT ↔ isWord s = true := by
  have := (parts_in s hs (32 :: wordsT)).2
  have e : (partsF (32 :: wordsT)).tail = wordL := by simp [partsF, wordL]
  rw [e] at this
  unfold isWord allT
  rw [List.contains_iff_mem]
  exact this
theorem infix_at (a l : List UInt8) : a <:+: l ↔ ∃ i, i + a.length ≤ l.length ∧ (l.drop i).take a.length = a := by
  constructor
  · rintro ⟨x, y, rfl⟩
    refine ⟨x.length, by simp, ?_⟩
    rw [List.append_assoc, List.drop_left, List.take_left]
  · rintro ⟨i, h1, h2⟩
    refine ⟨l.take i, (l.drop i).drop a.length, ?_⟩
    conv => lhs; rw [← h2]
    rw [h2]
    have : l.drop i = a ++ (l.drop i).drop a.length := by
      conv => lhs; rw [← List.take_append_drop a.length (l.drop i), h2]
    rw [List.append_assoc, ← this, List.take_append_drop]
end Go.Proofs.YtnpgjlhnlakgpaaDoor

/- Plain laws of runes: a rune's decoding hangs on its own bytes alone; no byte of a long rune is a quote. No program in sight. -/
import Derived.Lib.MapLaws
import Derived.Lib.ValidLaws
namespace Go.Proofs.YtnpgjlhnlakgpaaDoor
open Go.Lib

theorem getD_take_app (l t : List UInt8) (w i : Nat) (hi : i < w) (hw : w ≤ l.length) : (l.take w ++ t).getD i 0 = l.getD i 0 := by
  rw [List.getD_eq_getElem?_getD, List.getD_eq_getElem?_getD, List.getElem?_append_left (by rw [List.length_take]; omega), List.getElem?_take_of_lt hi]
/-- A rune that was decoded is decoded again from its own bytes, whatever stands behind them. -/
theorem decode_prefix (l t : List UInt8) (hne : l ≠ []) (hv : ¬ ((decodeL l).1 = 65533 ∧ (decodeL l).2 = 1)) : decodeL (l.take (decodeL l).2 ++ t) = decodeL l := by
  have hl : 0 < l.length := List.length_pos_iff.2 hne
  have hle := decodeL_le l hne
  have hg := fun i => getD_take_app l t (decodeL l).2 i
  have hn : (decodeL l).2 ≤ (l.take (decodeL l).2 ++ t).length := by rw [List.length_append, List.length_take]; omega
  generalize hX : l.take (decodeL l).2 ++ t = X at *
  rw [decodeL_N X]
  have k0 := (l.getD 0 0).toNat_lt
  rw [decodeL_N l] at *
  clear hX
  rcases decodeN_shape l.length (l.getD 0 0).toNat (l.getD 1 0).toNat (l.getD 2 0).toNat (l.getD 3 0).toNat with ⟨c, e⟩ | ⟨c1, c2, c3, cv, e⟩ | ⟨c1, c2, c3, c4, cv, cs, e⟩ | ⟨c1, c2, c3, c4, c5, cv, cw, e⟩ | e
  · rw [e] at hg hle hn ⊢
    dsimp only at hg hle hn
    rw [hg 0 (by omega) hle]
    unfold decodeN
    rw [if_pos c]
  · rw [e] at hg hle hn ⊢
    dsimp only at hg hle hn
    rw [hg 0 (by omega) hle, hg 1 (by omega) hle]
    unfold decodeN
    rw [if_neg (by omega), if_pos ⟨c1, by omega, c3⟩, if_pos (by omega)]
  · rw [e] at hg hle hn ⊢
    dsimp only at hg hle hn
    rw [hg 0 (by omega) hle, hg 1 (by omega) hle, hg 2 (by omega) hle]
    unfold decodeN
    rw [if_neg (by omega), if_neg (by omega), if_pos ⟨c1, ⟨by omega, c3⟩, by omega, c4⟩, if_pos (by omega)]
  · rw [e] at hg hle hn ⊢
    dsimp only at hg hle hn
    rw [hg 0 (by omega) hle, hg 1 (by omega) hle, hg 2 (by omega) hle, hg 3 (by omega) hle]
    unfold decodeN
    rw [if_neg (by omega), if_neg (by omega), if_neg (by omega), if_pos ⟨c1, ⟨by omega, c3⟩, ⟨by omega, c4⟩, by omega, c5⟩, if_pos (by omega)]
  · exact absurd (by rw [e]; exact ⟨rfl, rfl⟩) hv
/-- No byte of a rune is a quote but the quote's own. -/
theorem decode_noquote (l : List UInt8) (hne : l ≠ []) (h0 : l.headD 0 ≠ 39) (hv : ¬ ((decodeL l).1 = 65533 ∧ (decodeL l).2 = 1)) : ∀ b ∈ l.take (decodeL l).2, b ≠ 39 := by
  have hl : 0 < l.length := List.length_pos_iff.2 hne
  have hle := decodeL_le l hne
  have h39 : ∀ b : UInt8, b = 39 → b.toNat = 39 := fun b h => by rw [h]; rfl
  have hd : l.getD 0 0 ≠ 39 := by cases l with | nil => exact absurd rfl hne | cons => simpa using h0
  rw [decodeL_N l] at *
  rcases decodeN_shape l.length (l.getD 0 0).toNat (l.getD 1 0).toNat (l.getD 2 0).toNat (l.getD 3 0).toNat with ⟨c, e⟩ | ⟨c1, c2, c3, cv, e⟩ | ⟨c1, c2, c3, c4, cv, cs, e⟩ | ⟨c1, c2, c3, c4, c5, cv, cw, e⟩ | e
  · rw [e] at *
    simp only
    rw [takeA l hl]
    intro b hb; simp at hb; subst hb; simpa using hd
  · rw [e] at *
    simp only
    rw [takeB l (by omega)]
    intro b hb h
    have := h39 b h
    rcases List.mem_cons.1 hb with rfl | hb
    · exact hd h
    · simp only [List.mem_cons, List.not_mem_nil, or_false] at hb
      subst hb; omega
  · rw [e] at *
    simp only
    rw [takeC l (by omega)]
    intro b hb h
    have := h39 b h
    rcases List.mem_cons.1 hb with rfl | hb
    · exact hd h
    · simp only [List.mem_cons, List.not_mem_nil, or_false] at hb
      rcases hb with rfl | rfl <;> omega
  · rw [e] at *
    simp only
    rw [takeD l (by omega)]
    intro b hb h
    have := h39 b h
    rcases List.mem_cons.1 hb with rfl | hb
    · exact hd h
    · simp only [List.mem_cons, List.not_mem_nil, or_false] at hb
      rcases hb with rfl | rfl | rfl <;> omega
  · exact absurd (by rw [e]; exact ⟨rfl, rfl⟩) hv
end Go.Proofs.YtnpgjlhnlakgpaaDoor

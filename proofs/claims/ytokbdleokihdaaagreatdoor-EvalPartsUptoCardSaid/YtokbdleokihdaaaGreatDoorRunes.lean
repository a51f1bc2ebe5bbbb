/- Plain facts on the runes of a text: where a step of the decoder finds no rune, and how many there are. No program in sight. -/
import Derived.Lib.ValidU
import Derived.Laws.RangeAny
namespace Go.Proofs.YtokbdleokihdaaaGreatDoor

/-- At a place the decoder finds no rune. -/
def badAt (s : ByteArray) (pos : Nat) : Bool := decide ((Utf8.decode s pos).1 = 65533) && (decide (s.size < pos + 3) || !((s.extract pos (pos + 3)).toList == [239, 191, 189]))
/-- How many runes from a place on; none: some bytes are no rune. -/
def rgo (s : ByteArray) : Nat → Nat → Option Nat
  | 0, _ => some 0
  | f + 1, pos => if pos < s.size then (if badAt s pos then none else (rgo s f (pos + (Utf8.decode s pos).2)).map (· + 1)) else some 0
/-- How many steps a range takes from a place on. -/
def rcnt (s : ByteArray) : Nat → Nat → Nat
  | 0, _ => 0
  | f + 1, pos => if pos < s.size then rcnt s f (pos + (Utf8.decode s pos).2) + 1 else 0

theorem step_pos (s : ByteArray) (pos : Nat) : 1 ≤ (Utf8.decode s pos).2 := Lib.width_pos s pos
theorem rgo_end {s : ByteArray} {f pos : Nat} (h : ¬ pos < s.size) : rgo s f pos = some 0 := by
  cases f with
  | zero => rfl
  | succ f => simp [rgo, h]
theorem rcnt_end {s : ByteArray} {f pos : Nat} (h : ¬ pos < s.size) : rcnt s f pos = 0 := by
  cases f with
  | zero => rfl
  | succ f => simp [rcnt, h]
theorem rcnt_le (s : ByteArray) : ∀ f pos, rcnt s f pos ≤ f
  | 0, _ => Nat.le_refl _
  | f + 1, pos => by
    unfold rcnt
    split
    · have := rcnt_le s f (pos + (Utf8.decode s pos).2)
      omega
    · omega
theorem rgo_cnt (s : ByteArray) : ∀ f pos n, rgo s f pos = some n → rcnt s f pos = n
  | 0, _, n, h => by simpa [rgo, rcnt] using h
  | f + 1, pos, n, h => by
    unfold rgo at h
    unfold rcnt
    by_cases hp : pos < s.size
    · rw [if_pos hp] at h
      rw [if_pos hp]
      by_cases hb : badAt s pos = true
      · rw [if_pos hb] at h; cases h
      · rw [if_neg hb] at h
        cases hr : rgo s f (pos + (Utf8.decode s pos).2) with
        | none => rw [hr] at h; cases h
        | some m =>
          rw [hr] at h
          have := rgo_cnt s f _ m hr
          simp at h
          omega
    · rw [if_neg hp] at h
      rw [if_neg hp]
      simpa using h

theorem decodeN_bad (n b0 b1 b2 b3 : Nat) (h : (Lib.decodeN n b0 b1 b2 b3).1 = 65533) (h0 : b0 < 256) :
    ((Lib.decodeN n b0 b1 b2 b3).2 = 1 ∧ ¬ (2 < n ∧ b0 = 239 ∧ b1 = 191 ∧ b2 = 189)) ∨ ((Lib.decodeN n b0 b1 b2 b3).2 = 3 ∧ 2 < n ∧ b0 = 239 ∧ b1 = 191 ∧ b2 = 189) := by
  unfold Lib.decodeN at h ⊢
  by_cases c1 : b0 < 128
  · rw [if_pos c1] at h; simp only at h; omega
  rw [if_neg c1] at h ⊢
  by_cases c2 : b0 / 32 = 6 ∧ (1 < n ∧ b1 / 64 = 2)
  · rw [if_pos c2] at h ⊢
    split at h
    · simp only at h; omega
    · rename_i hc
      rw [if_neg hc]; left; exact ⟨rfl, by omega⟩
  rw [if_neg c2] at h ⊢
  by_cases c3 : b0 / 16 = 14 ∧ (1 < n ∧ b1 / 64 = 2) ∧ (2 < n ∧ b2 / 64 = 2)
  · rw [if_pos c3] at h ⊢
    split at h
    · rename_i hc
      rw [if_pos hc]; right; refine ⟨rfl, ?_⟩; simp only at h; omega
    · rename_i hc
      rw [if_neg hc]; left; exact ⟨rfl, by omega⟩
  rw [if_neg c3] at h ⊢
  by_cases c4 : b0 / 8 = 30 ∧ (1 < n ∧ b1 / 64 = 2) ∧ (2 < n ∧ b2 / 64 = 2) ∧ (3 < n ∧ b3 / 64 = 2)
  · rw [if_pos c4] at h ⊢
    split at h
    · simp only at h; omega
    · rename_i hc
      rw [if_neg hc]; left; exact ⟨rfl, by omega⟩
  rw [if_neg c4]
  left; exact ⟨rfl, by omega⟩

theorem get_lt (s : ByteArray) (i : Nat) : (s.get! i).toNat < 256 := (s.get! i).toNat_lt
theorem len_data (s : ByteArray) : s.data.toList.length = s.size := Array.length_toList
theorem get_data (s : ByteArray) (k : Nat) : s.get! k = s.data.toList.getD k 0 := by
  obtain ⟨⟨l⟩⟩ := s
  show (⟨l⟩ : Array UInt8)[k]! = l.getD k 0
  simp [getElem!_def, List.getD_eq_getElem?_getD]
  cases l[k]? <;> rfl
theorem ext3 (s : ByteArray) (pos : Nat) (h : pos + 3 ≤ s.size) : (s.extract pos (pos + 3)).toList = [s.get! pos, s.get! (pos + 1), s.get! (pos + 2)] := by
  rw [ByteArray.toList_eq, get_data, get_data, get_data]
  have hl := len_data s
  have hx : (s.extract pos (pos + 3)).data.toList = (s.data.toList.drop pos).take 3 := by
    rw [ByteArray.data_extract]; simp
  rw [hx]
  generalize s.data.toList = l at *
  have h1 : pos < l.length := by omega
  rw [List.drop_eq_getElem_cons h1, List.drop_eq_getElem_cons (show pos + 1 < l.length by omega), List.drop_eq_getElem_cons (show pos + 1 + 1 < l.length by omega)]
  simp only [List.take_succ_cons, List.take_zero, List.getD_eq_getElem?_getD]
  rw [List.getElem?_eq_getElem h1, List.getElem?_eq_getElem (show pos + 1 < l.length by omega), List.getElem?_eq_getElem (show pos + 2 < l.length by omega)]
  rfl

/-- A place is bad just if the decoder's step is the error of one byte. -/
theorem badAt_iff (s : ByteArray) (pos : Nat) : badAt s pos = true ↔ ((Utf8.decode s pos).1 = 65533 ∧ (Utf8.decode s pos).2 = 1) := by
  have hb := decodeN_bad (s.size - pos) (s.get! pos).toNat (s.get! (pos + 1)).toNat (s.get! (pos + 2)).toNat (s.get! (pos + 3)).toNat
  rw [← Lib.decode_at] at hb
  simp only [badAt, Bool.and_eq_true, Bool.or_eq_true, decide_eq_true_eq, Bool.not_eq_true']
  constructor
  · rintro ⟨h1, h2⟩
    refine ⟨h1, ?_⟩
    rcases hb h1 (get_lt _ _) with ⟨h3, _⟩ | ⟨_, h4, h5, h6, h7⟩
    · exact h3
    · exfalso
      rcases h2 with h2 | h2
      · omega
      · rw [ext3 s pos (by omega)] at h2
        have e0 : s.get! pos = 239 := UInt8.toNat_inj.1 h5
        have e1 : s.get! (pos + 1) = 191 := UInt8.toNat_inj.1 h6
        have e2 : s.get! (pos + 2) = 189 := UInt8.toNat_inj.1 h7
        rw [e0, e1, e2] at h2
        simp at h2
  · rintro ⟨h1, h2⟩
    refine ⟨h1, ?_⟩
    rcases hb h1 (get_lt _ _) with ⟨_, h4⟩ | ⟨h3, _⟩
    · by_cases h5 : s.size < pos + 3
      · exact Or.inl h5
      · right
        rw [ext3 s pos (by omega)]
        by_cases e0 : s.get! pos = 239
        · by_cases e1 : s.get! (pos + 1) = 191
          · by_cases e2 : s.get! (pos + 2) = 189
            · exact absurd ⟨by omega, by rw [e0]; rfl, by rw [e1]; rfl, by rw [e2]; rfl⟩ h4
            · simp [e2]
          · simp [e1]
        · simp [e0]
    · omega

theorem valid_from (s : ByteArray) : ∀ f pos, s.size - pos ≤ f → Lib.validGoD f (s.data.toList.drop pos) = (rgo s f pos).isSome
  | 0, pos, h => rfl
  | f + 1, pos, h => by
    unfold Lib.validGoD rgo
    by_cases hp : pos < s.size
    · have hne : s.data.toList.drop pos ≠ [] := by
        intro h0
        have := congrArg List.length h0
        rw [List.length_drop, len_data] at this
        simp at this
        omega
      have hd : Lib.decodeL (s.data.toList.drop pos) = Utf8.decode s pos := by
        unfold Lib.decodeL
        rw [Lib.decode_at, Lib.decode_at]
        have hg : ∀ i, (⟨(s.data.toList.drop pos).toArray⟩ : ByteArray).get! i = s.get! (pos + i) := fun i => by
          rw [get_data, get_data]
          simp [List.getD_eq_getElem?_getD]
        have hz : (⟨(s.data.toList.drop pos).toArray⟩ : ByteArray).size = s.size - pos := by
          rw [← len_data, ← len_data s]; simp
        rw [hg, hg, hg, hg, hz]
        simp
      rw [if_neg hne, if_pos hp, hd, List.drop_drop]
      by_cases hb : badAt s pos = true
      · rw [if_pos ((badAt_iff s pos).1 hb), if_pos hb]; rfl
      · rw [if_neg (fun h0 => hb ((badAt_iff s pos).2 h0)), if_neg hb]
        have := step_pos s pos
        rw [valid_from s f _ (by omega)]
        simp
    · have he : s.data.toList.drop pos = [] := by
        rw [List.drop_eq_nil_iff, len_data]; omega
      rw [if_pos he, if_neg hp]; rfl
end Go.Proofs.YtokbdleokihdaaaGreatDoor

/- Plain laws of literals: four decimal places; a text's quotes doubled; two hexadecimal digits a byte. -/
import Derived.Lib.ReplaceLaws
import Derived.Lib.ItoaNum
namespace Go.Proofs.YtokbdleokihdaaaGreatDoor
open Go.Lib

/-- Four decimal digits. -/
def four (r : Nat) : List UInt8 := [UInt8.ofNat (48 + r / 1000 % 10), UInt8.ofNat (48 + r / 100 % 10), UInt8.ofNat (48 + r / 10 % 10), UInt8.ofNat (48 + r % 10)]
theorem dec_step {u : Nat} (h : 10 ≤ u) : decDigits u = decDigits (u / 10) ++ [UInt8.ofNat (48 + u % 10)] := by
  rw [decDigits, dif_neg (by omega)]
theorem dec_pad {r : Nat} (h : r < 10000) : decDigits (10000 + r) = 49 :: four r := by
  rw [dec_step (by omega), dec_step (by omega), dec_step (by omega), dec_step (by omega), decDigits_one (by omega)]
  have e0 : (10000 + r) / 10 / 10 / 10 / 10 = 1 := by omega
  have e1 : (10000 + r) / 10 / 10 / 10 % 10 = r / 1000 % 10 := by omega
  have e2 : (10000 + r) / 10 / 10 % 10 = r / 100 % 10 := by omega
  have e3 : (10000 + r) / 10 % 10 = r / 10 % 10 := by omega
  have e4 : (10000 + r) % 10 = r % 10 := by omega
  rw [e0, e1, e2, e3, e4]
  rfl
/-- Zeros ahead, up to four digits. -/
def padF (l : List UInt8) : List UInt8 := List.replicate (4 - l.length) 48 ++ l
theorem pad_four {r : Nat} (h : r < 10000) : padF (decDigits r) = four r := by
  unfold padF four
  by_cases h1 : r < 10
  · rw [decDigits_one h1]
    have e1 : r / 1000 % 10 = 0 := by omega
    have e2 : r / 100 % 10 = 0 := by omega
    have e3 : r / 10 % 10 = 0 := by omega
    have e4 : r % 10 = r := by omega
    rw [e1, e2, e3, e4]; rfl
  · by_cases h2 : r < 100
    · rw [dec_step (by omega), decDigits_one (by omega)]
      have e1 : r / 1000 % 10 = 0 := by omega
      have e2 : r / 100 % 10 = 0 := by omega
      have e3 : r / 10 % 10 = r / 10 := by omega
      rw [e1, e2, e3]; rfl
    · by_cases h3 : r < 1000
      · rw [dec_step (by omega), dec_step (by omega), decDigits_one (by omega)]
        have e1 : r / 1000 % 10 = 0 := by omega
        have e2 : r / 100 % 10 = r / 10 / 10 := by omega
        have e3 : r / 10 % 10 = r / 10 % 10 := rfl
        rw [e1, e2]; rfl
      · rw [dec_step (by omega), dec_step (by omega), dec_step (by omega), decDigits_one (by omega)]
        have e1 : r / 1000 % 10 = r / 10 / 10 / 10 := by omega
        have e2 : r / 100 % 10 = r / 10 / 10 % 10 := by omega
        rw [e1, e2]; rfl
theorem dec_len {r : Nat} (h : r < 10000) : (decDigits r).length ≤ 4 := by
  have h1 := pad_four h
  have h2 : (padF (decDigits r)).length = 4 := by rw [h1]; rfl
  unfold padF at h2
  rw [List.length_append, List.length_replicate] at h2
  omega

/-- Each quote twice. -/
def quoted (l : List UInt8) : List UInt8 := l.flatMap fun b => if b = 39 then [39, 39] else [b]
theorem replaceK_one (c : UInt8) (new : List UInt8) : ∀ s : List UInt8, replaceK [c] new (count s [c]) s = s.flatMap fun b => if b = c then new else [b]
  | [] => by
    have : count ([] : List UInt8) [c] = 0 := rfl
    rw [this]; rfl
  | b :: l => by
    have ih := replaceK_one c new l
    by_cases h : b = c
    · subst h
      rw [count_cons_eq, Nat.add_comm]
      have hi : index (b :: l) [b] = ((0 : Nat) : Int) := by simp [index]
      rw [replaceK_hit _ _ _ _ _ hi]
      simp only [List.take_zero, List.nil_append, List.length_cons, List.length_nil, Nat.zero_add, List.drop_succ_cons, List.drop_zero, List.flatMap_cons, if_true, ih]
    · rw [count_cons_ne b c l h]
      simp only [List.flatMap_cons, if_neg h]
      cases hm : count l [c] with
      | zero =>
        rw [hm] at ih
        rw [← ih]
        rfl
      | succ m =>
        rw [hm] at ih
        obtain ⟨i, hi⟩ := index_of_count (s := l) (old := [c]) (by omega)
        have hi2 : index (b :: l) [c] = ((i + 1 : Nat) : Int) := by
          have hp : ([c].isPrefixOf (b :: l)) = false := by
            simp [List.isPrefixOf]
            exact fun e => h e.symm
          rw [index, hp, hi]
          simp
        rw [replaceK_hit _ _ _ _ _ hi] at ih
        rw [replaceK_hit _ _ _ _ _ hi2, ← ih]
        simp
theorem replaceAll_quote (s : List UInt8) : replaceAll s [39] [39, 39] = quoted s := by
  unfold replaceAll replace replaceNum quoted
  rw [if_neg (by decide), if_pos (.inl (by decide)), replaceK_one]
theorem quoted_snoc (l : List UInt8) (b : UInt8) : quoted (l ++ [b]) = quoted l ++ (if b = 39 then [39, 39] else [b]) := by
  simp [quoted]
theorem quoted_len (l : List UInt8) : (quoted l).length ≤ 2 * l.length := by
  induction l with
  | nil => simp [quoted]
  | cons b l ih =>
    unfold quoted at *
    rw [List.flatMap_cons, List.length_append]
    have : (if b = 39 then [39, 39] else [b] : List UInt8).length ≤ 2 := by split <;> simp
    rw [List.length_cons]
    omega

/-- A hexadecimal digit. -/
def hexd (n : Nat) : UInt8 := if n < 10 then UInt8.ofNat (48 + n) else UInt8.ofNat (87 + n)
def hexed (l : List UInt8) : List UInt8 := l.flatMap fun b => [hexd (b.toNat / 16), hexd (b.toNat % 16)]
theorem hexed_snoc (l : List UInt8) (b : UInt8) : hexed (l ++ [b]) = hexed l ++ [hexd (b.toNat / 16), hexd (b.toNat % 16)] := by
  simp [hexed]
theorem hexed_len (l : List UInt8) : (hexed l).length = 2 * l.length := by
  induction l with
  | nil => simp [hexed]
  | cons b l ih =>
    unfold hexed at *
    rw [List.flatMap_cons, List.length_append, ih]
    simp; omega
end Go.Proofs.YtokbdleokihdaaaGreatDoor

/- Names of a log's segments: plain. -/
import Derived.Test.YtnpgjlhnlakgpaaGreatDoorG07
import Derived.Lib.ItoaNum
import Derived.Lib.Repeat
import Derived.WideAt
import Derived.WideShapes
namespace Go.Proofs.YtnpgjlhnlakgpaaGreatDoor
open Go.Lib

/-- A number in so many decimal digits. -/
def digs : Nat → Nat → List UInt8
  | 0, _ => []
  | k + 1, n => digs k (n / 10) ++ [UInt8.ofNat (48 + n % 10)]
theorem digs_len : ∀ k n, (digs k n).length = k
  | 0, _ => rfl
  | k + 1, n => by simp [digs, digs_len k]
def preL : List UInt8 := [108, 111, 103, 46]
def nameL (n : Nat) : List UInt8 := preL ++ digs 12 n
/-- A segment's name. -/
def nameN (n : Nat) : ByteArray := ⟨(nameL n).toArray⟩
theorem nameN_data (n : Nat) : (nameN n).data.toList = nameL n := rfl
theorem nameL_len (n : Nat) : (nameL n).length = 16 := by simp [nameL, preL, digs_len]
theorem nameN_size (n : Nat) : (nameN n).size = 16 := by
  have := nameL_len n
  unfold nameN ByteArray.size
  simpa using this
theorem digs_zero : ∀ k, digs k 0 = List.replicate k 48
  | 0 => rfl
  | k + 1 => by
    simp only [digs, Nat.zero_div, digs_zero k, Nat.zero_mod, Nat.add_zero]
    rw [List.replicate_succ']
    rfl
theorem digs_dec : ∀ k n, n < 10 ^ k → 0 < k → digs k n = List.replicate (k - (decDigits n).length) 48 ++ decDigits n ∧ (decDigits n).length ≤ k ∧ 0 < (decDigits n).length
  | 0, _, _, h => by omega
  | k + 1, n, h, _ => by
    by_cases hn : n < 10
    · rw [decDigits_one hn]
      simp only [digs, List.length_singleton]
      rw [Nat.div_eq_of_lt hn, digs_zero, Nat.mod_eq_of_lt hn]
      exact ⟨rfl, by omega, by omega⟩
    · have h10 : n / 10 < 10 ^ k := by rw [Nat.pow_succ] at h; omega
      have hk : 0 < k := by
        rcases Nat.eq_zero_or_pos k with h0 | h0
        · subst h0; simp at h10; omega
        · exact h0
      obtain ⟨h1, h2, h3⟩ := digs_dec k (n / 10) h10 hk
      rw [decDigits, dif_neg hn]
      simp only [digs, List.length_append, List.length_singleton]
      rw [h1]
      refine ⟨?_, by omega, by omega⟩
      rw [show k + 1 - ((decDigits (n / 10)).length + 1) = k - (decDigits (n / 10)).length by omega, List.append_assoc]
theorem repeat48 : ∀ c, repeatL [48] c = List.replicate c 48
  | 0 => rfl
  | c + 1 => by simp [repeatL, repeat48 c, List.replicate_succ]
theorem u8lt {a b : Nat} (ha : a < 256) (hb : b < 256) : (UInt8.ofNat a < UInt8.ofNat b) ↔ a < b := by
  rw [UInt8.lt_iff_toNat_lt, UInt8.toNat_ofNat', UInt8.toNat_ofNat', Nat.mod_eq_of_lt (by omega), Nat.mod_eq_of_lt (by omega)]
theorem before_pre : ∀ (p a b : List UInt8), bytesBefore (p ++ a) (p ++ b) = bytesBefore a b
  | [], _, _ => rfl
  | c :: p, a, b => by
    have := before_pre p a b
    simp [bytesBefore, this]
theorem before_left : ∀ (a b x y : List UInt8), a.length = b.length → bytesBefore a b = true → bytesBefore (a ++ x) (b ++ y) = true
  | [], [], _, _, _, h => by simp [bytesBefore] at h
  | [], _ :: _, _, _, h, _ => by simp at h
  | _ :: _, [], _, _, h, _ => by simp at h
  | c :: a, d :: b, x, y, hl, h => by
    simp only [List.cons_append, bytesBefore, Bool.or_eq_true, decide_eq_true_eq, Bool.and_eq_true, beq_iff_eq] at h ⊢
    rcases h with h | ⟨h, h2⟩
    · exact .inl h
    · exact .inr ⟨h, before_left a b x y (by simpa using hl) h2⟩
theorem digs_lt : ∀ k a b, a < b → b < 10 ^ k → bytesBefore (digs k a) (digs k b) = true
  | 0, a, b, h, hb => by simp at hb; omega
  | k + 1, a, b, h, hb => by
    simp only [digs]
    rw [Nat.pow_succ] at hb
    by_cases hd : a / 10 = b / 10
    · rw [hd, before_pre]
      have : UInt8.ofNat (48 + a % 10) < UInt8.ofNat (48 + b % 10) := (u8lt (by omega) (by omega)).2 (by omega)
      simp only [bytesBefore, decide_eq_true this, Bool.true_or]
    · exact before_left _ _ _ _ (by rw [digs_len, digs_len]) (digs_lt k (a / 10) (b / 10) (by omega) (by omega))
theorem name_lt {a b : Nat} (h : a < b) (hb : b < 1000000000000) : bytesBefore (nameL a) (nameL b) = true := by
  unfold nameL
  rw [before_pre]
  exact digs_lt 12 a b h (by omega)
theorem name_inj {a b : Nat} (ha : a < 1000000000000) (hb : b < 1000000000000) (h : nameL a = nameL b) : a = b := by
  rcases Nat.lt_trichotomy a b with h1 | h1 | h1
  · have := name_lt h1 hb; rw [h, WideAt.bytes_irrefl] at this; cases this
  · exact h1
  · have := name_lt h1 ha; rw [h, WideAt.bytes_irrefl] at this; cases this
end Go.Proofs.YtnpgjlhnlakgpaaGreatDoor

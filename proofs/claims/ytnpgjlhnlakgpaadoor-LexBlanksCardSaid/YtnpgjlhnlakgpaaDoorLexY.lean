/- Plain laws of bytes' digits: the bytes so far, with a half one at the end. No program in sight. -/
import Derived.Test.YtnpgjlhnlakgpaaDoorLexA
import Derived.Lib.Bytealg
namespace Go.Proofs.YtnpgjlhnlakgpaaDoor

/-- The bytes of digits, the last one half if they are odd. -/
def hexB : List Nat → List UInt8
  | [] => []
  | [a] => [UInt8.ofNat (16 * a)]
  | a :: b :: r => UInt8.ofNat (16 * a + b) :: hexB r
theorem hexB_len : ∀ ds : List Nat, (hexB ds).length = (ds.length + 1) / 2
  | [] => rfl
  | [a] => by simp [hexB]
  | a :: b :: r => by
    have := hexB_len r
    simp only [hexB, List.length_cons, this]; omega
theorem hexB_even : ∀ (ds : List Nat) (d : Nat), ds.length % 2 = 0 → hexB (ds ++ [d]) = hexB ds ++ [UInt8.ofNat (16 * d)]
  | [], d, _ => rfl
  | [a], d, h => by simp at h
  | a :: b :: r, d, h => by
    have := hexB_even r d (by simp only [List.length_cons] at h; omega)
    simp only [List.cons_append, hexB, this]
theorem hexB_pairs : ∀ (ds : List Nat), ds.length % 2 = 0 → hexB ds = pairsF ds
  | [], _ => rfl
  | [a], h => by simp at h
  | a :: b :: r, h => by
    simp only [hexB, pairsF, hexB_pairs r (by simp only [List.length_cons] at h; omega)]
/-- The last digit, where they are odd; the byte that it is half of. -/
theorem hexB_odd : ∀ (ds : List Nat) (d : Nat), ds.length % 2 = 1 → (∀ x ∈ ds, x < 16) → d < 16 →
    ∃ a : Nat, a < 16 ∧ (hexB ds)[ds.length / 2]? = some (UInt8.ofNat (16 * a)) ∧ hexB (ds ++ [d]) = (hexB ds).set (ds.length / 2) (UInt8.ofNat (16 * a + d))
  | [], d, h, _, _ => by simp at h
  | [a], d, _, hx, _ => ⟨a, hx a (by simp), by simp [hexB], by simp [hexB]⟩
  | a :: b :: r, d, h, hx, hd => by
    obtain ⟨c, h1, h2, h3⟩ := hexB_odd r d (by simp only [List.length_cons] at h; omega) (fun x hxm => hx x (by simp [hxm])) hd
    have e : (a :: b :: r).length / 2 = r.length / 2 + 1 := by simp only [List.length_cons]; omega
    refine ⟨c, h1, ?_, ?_⟩
    · rw [e]; simpa [hexB] using h2
    · rw [e]; simp only [List.cons_append, hexB, h3, List.set_cons_succ]
theorem or_half : ∀ a : Fin 16, ∀ d : Fin 16, (16 * a.val) ||| d.val = 16 * a.val + d.val := by decide
theorem hex_idx : ∀ c : UInt8, (if Lib.indexByte [48, 49, 50, 51, 52, 53, 54, 55, 56, 57, 97, 98, 99, 100, 101, 102] (c ||| 32) < 0 ∨ c.toNat < 48 then none else some (Lib.indexByte [48, 49, 50, 51, 52, 53, 54, 55, 56, 57, 97, 98, 99, 100, 101, 102] (c ||| 32)).toNat) = hexv c := byte_all (by decide +kernel)
theorem hexv_lt : ∀ c : UInt8, ∀ d, hexv c = some d → d < 16 := by
  intro c
  have : ∀ c : UInt8, (hexv c).all (fun d => decide (d < 16)) = true := byte_all (by decide +kernel)
  intro d hd
  have := this c
  rw [hd] at this
  simpa using this
end Go.Proofs.YtnpgjlhnlakgpaaDoor

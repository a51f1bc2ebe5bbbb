/- The document's big numbers: their digits; the contract of big. -/
import Derived.Test.YtnpgjlhnlakgpaaDoorKeep
import Derived.Test.YtnpgjlhnlakgpaaDoorProg
import Derived.Test.YtnpgjlhnlakgpaaDoorG01
import Derived.WalkKit
namespace Go.Proofs.YtnpgjlhnlakgpaaDoor
open Go.RowKit

/-- The digits of a number, the lowest first, at most so many. -/
def digsF : Nat → Nat → List Nat
  | 0, _ => []
  | f + 1, n => if n = 0 then [] else n % 1000000 :: digsF f (n / 1000000)
theorem digsF_zero (f : Nat) : digsF f 0 = [] := by cases f <;> rfl
theorem digsF_len : ∀ f n, (digsF f n).length ≤ f
  | 0, _ => Nat.le_refl _
  | f + 1, n => by
    unfold digsF
    split
    · simp
    · simp; exact digsF_len f _
/-- Digits as the cells of a row. -/
def u64s (ds : List Nat) : List Value := ds.map fun d : Nat => Value.int .u64 (d : Int)
theorem u64info : (Tryd.prog.info? 98).map (fun i => (i.zero, i.size, i.bytes)) = some (some (.int .u64 0), 1, 8) := by kernel_rfl

theorem owns_down {w : World} {B B' : Nat} {e : TypeId} {k : Nat} {v : Value} {n : Nat} {xs : List Value} (h : w.ownsRow B e k v n xs) (hb : B' ≤ B) : w.ownsRow B' e k v n xs := by
  refine ⟨h.1, ?_⟩
  rcases h.2 with h | ⟨g, cap, cur, h1, h2, h3⟩
  · exact .inl h
  · exact .inr ⟨g, cap, cur, h1, Nat.le_trans hb h2, h3⟩
theorem owns_slice {w : World} {B : Nat} {e : TypeId} {k : Nat} {v : Value} {n : Nat} {xs : List Value} (h : w.ownsRow B e k v n xs) : ∃ p ln cp, v = .slice p ln cp := by
  rcases h.2 with ⟨rfl, _⟩ | ⟨g, cap, cur, rfl, _⟩
  · exact ⟨_, _, _, rfl⟩
  · exact ⟨_, _, _, rfl⟩
end Go.Proofs.YtnpgjlhnlakgpaaDoor

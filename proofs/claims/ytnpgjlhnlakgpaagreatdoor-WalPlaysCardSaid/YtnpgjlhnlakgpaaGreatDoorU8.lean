/- Rows of bytes that a call makes. -/
import Derived.Test.YtnpgjlhnlakgpaaGreatDoorProg
import Derived.Test.YtnpgjlhnlakgpaaGreatDoorPrintF
import Derived.WalkKit
import Derived.Lib.SlBytesConst
import Derived.ArgAppend
import Derived.Lib.ItoaMem
namespace Go.Proofs.YtnpgjlhnlakgpaaGreatDoor
open Go.RowKit

/-- Bytes as the cells of a row. -/
def u8s (l : List UInt8) : List Value := l.map fun b : UInt8 => Value.int .u8 (b.toNat : Int)
theorem u8info : (Tryz.prog.info? 5).map (fun i => (i.zero, i.size, i.bytes)) = some (some (.int .u8 0), 1, 1) := by kernel_rfl
theorem u8s_append (a b : List UInt8) : u8s (a ++ b) = u8s a ++ u8s b := by simp [u8s]
theorem news1 (w : World) (y1 : UInt8) (t : TypeId) (mk : Nat × Nat) : ∀ j u, (u8s [y1])[j]? = some u → (w.alloc (.cells #[.int .u8 (y1.toNat : Int)] t mk)).cell? ((⟨w.heap.size, 0, none⟩ : Addr).add j) = some u := by
  intro j u hu
  rw [Lib.add_plain, Nat.zero_add]
  have hh : (w.alloc (.cells #[.int .u8 (y1.toNat : Int)] t mk)).heap[w.heap.size]? = some (.cells #[.int .u8 (y1.toNat : Int)] t mk) := by
    show (w.heap.push _)[w.heap.size]? = _
    simp
  unfold World.cell?
  rw [hh]
  match j, hu with
  | 0, hu => simpa [u8s] using hu
theorem conv_own {w : World} {base n : Nat} {v : Value} {L : List UInt8} (h : w.ownsRow base 5 1 v n (u8s L)) (hn : n = L.length) (hL : 0 < L.length) :
    ∃ g c, v = .slice (some ⟨g, 0, none⟩) L.length c ∧ (convert 98 9 (.slice (some ⟨g, 0, none⟩) L.length c)).run Tryz.prog w = .ok (.string (bs L)) w := by
  subst hn
  rcases id h.2 with ⟨rfl, h0⟩ | ⟨g, cap, cur, rfl, hg, hh, hnc, hm, hs, ht⟩
  · omega
  · refine ⟨g, cap, rfl, ?_⟩
    refine run_convert_bytes_back w 98 9 5 ⟨g, 0, none⟩ cap L Tryz.underlying98 Tryz.underlying5 Tryz.underlying9 fun j hj => ?_
    rw [Lib.add_plain, Nat.zero_add]
    unfold World.cell?
    rw [hh]
    show cur[j]? = _
    have h1 : cur.toList[j]? = (u8s L)[j]? := by
      rw [← ht, List.getElem?_take_of_lt (by omega)]
    rw [← Array.getElem?_toList, h1]
    simp [u8s, hj]
theorem conv_all {w : World} {base n : Nat} {v : Value} {L : List UInt8} (h : w.ownsRow base 5 1 v n (u8s L)) (hn : n = L.length) :
    (convert 98 9 v).run Tryz.prog w = .ok (.string (bs L)) w := by
  subst hn
  rcases id h.2 with ⟨rfl, h0⟩ | ⟨g, cap, cur, rfl, hg, hh, hnc, hm, hs, ht⟩
  · obtain rfl : L = [] := List.eq_nil_of_length_eq_zero h0
    rw [run_convert_bytes_string w _ _ _ none 0 0 Tryz.underlying98 Tryz.underlying5 Tryz.underlying9]
    simp [Conv.bytesToString, bs]
    rfl
  · refine run_convert_bytes_back w 98 9 5 ⟨g, 0, none⟩ cap L Tryz.underlying98 Tryz.underlying5 Tryz.underlying9 fun j hj => ?_
    rw [Lib.add_plain, Nat.zero_add]
    unfold World.cell?
    rw [hh]
    show cur[j]? = _
    have h1 : cur.toList[j]? = (u8s L)[j]? := by
      rw [← ht, List.getElem?_take_of_lt (by omega)]
    rw [← Array.getElem?_toList, h1]
    simp [u8s, hj]
theorem owns_sl {w : World} {B : Nat} {e : TypeId} {k : Nat} {v : Value} {n : Nat} {xs : List Value} (h : w.ownsRow B e k v n xs) : ∃ p ln cp, v = .slice p ln cp := by
  rcases h.2 with ⟨rfl, _⟩ | ⟨g, cap, cur, rfl, _⟩
  · exact ⟨_, _, _, rfl⟩
  · exact ⟨_, _, _, rfl⟩
theorem owns_sl2 {w : World} {B : Nat} {e : TypeId} {k : Nat} {v : Value} {n : Nat} {xs : List Value} (h : w.ownsRow B e k v n xs) : ∃ p cp, v = .slice p n cp := by
  rcases h.2 with ⟨rfl, h0⟩ | ⟨g, cap, cur, rfl, _⟩
  · subst h0; exact ⟨_, _, rfl⟩
  · exact ⟨_, _, rfl⟩
end Go.Proofs.YtnpgjlhnlakgpaaGreatDoor

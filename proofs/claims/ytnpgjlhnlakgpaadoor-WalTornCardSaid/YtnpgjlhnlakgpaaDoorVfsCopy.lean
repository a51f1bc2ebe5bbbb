/- To copy the first bytes of a text into a slice of the call's own. -/
import Derived.Test.YtnpgjlhnlakgpaaDoorVfsFx
import Derived.Laws.CopyOwn
import Derived.Laws.IdiomStrings
import Derived.Lib.LazyBuf
namespace Go.Proofs.YtnpgjlhnlakgpaaDoor
open Go.RowKit Go.Maps

/-- Bytes as cells. -/
def u8sV (l : List UInt8) : List Value := l.map fun x => Value.int .u8 (x.toNat : Int)
section
variable {P : Program}
theorem run_copy_str (w : World) (dT sT ty elem : TypeId) (g n cap : Nat) (t : ByteArray) (cur : Array Value) (T : TypeId)
    (hu : P.underlying dT = some (.slice elem)) (hs : (P.info? elem).map (·.size) = some 1)
    (hg : w.heap[g]? = some (.cells cur T (0, 0))) (hn : cur.size = n) (hle : n ≤ t.size) :
    (Builtin.copy_ #[dT, sT] ty #[.slice (some ⟨g, 0, none⟩) n cap, .string t]).run P w = .ok (goInt n) (w.setRow g (u8sV (t.data.toList.take n)).toArray) := by
  have hlen : (u8sV (t.data.toList.take n)).length = n := by simp [u8sV]; exact Nat.min_eq_left hle
  have hst := run_storeCells_at P g 0 T (u8sV (t.data.toList.take n)) 0 cur w hg (by rw [hlen]; omega) (fun v hv => by
    obtain ⟨x, _, rfl⟩ := List.mem_map.1 hv
    rfl)
  have hmin : Nat.min t.size n = n := Nat.min_eq_right hle
  have htk : (t.data.toList.map fun x => Value.int .u8 (x.toNat : Int)).take n = u8sV (t.data.toList.take n) := by simp [u8sV, List.map_take]
  have hrow : (cur.toList.take (0 + 0) ++ u8sV (t.data.toList.take n) ++ cur.toList.drop (0 + 0 + (u8sV (t.data.toList.take n)).length)).toArray = (u8sV (t.data.toList.take n)).toArray := by
    rw [hlen]
    have : cur.toList.drop (0 + 0 + n) = [] := by rw [List.drop_eq_nil_iff]; simp; omega
    rw [this]; simp
  rw [hrow] at hst
  cases hq : P.info? elem with
  | none => simp [hq] at hs
  | some i =>
    simp [Builtin.copy_, run_underlying hu, Builtin.lenOf, Builtin.firstCells, sizeOf, typeInfo, hq, hmin, htk, hst]
theorem wpList_copy_str {w : World} {ops : Array Oper} {rest : List Oper} {o : Oper} {a : Act} {Q : Exit → Act → World → Prop} (hgd : o.guard = none) (d s : Operand) (dT sT : TypeId)
    (ho : o.op = .call { callee := .builtin .copy, args := #[d, s], argTypes := #[dT, sT] }) (elem : TypeId) (hu : P.underlying dT = some (.slice elem)) (hsz : (P.info? elem).map (·.size) = some 1)
    (g n cap : Nat) (hd : a.eval d = .slice (some ⟨g, 0, none⟩) n cap) (t : ByteArray) (hs : a.eval s = .string t)
    (cur : Array Value) (T : TypeId) (hg : w.heap[g]? = some (.cells cur T (0, 0))) (hn : cur.size = n) (hle : n ≤ t.size)
    (h : ∀ w', Hid (w'.heap[g]? = some (.cells (u8sV (t.data.toList.take n)).toArray T (0, 0))) → Below g w w' → Hid (w'.heap.size = w.heap.size) → Hid (∀ k, k ≠ g → w'.heap[k]? = w.heap[k]?) → wpList P ops Q rest (a.put o.dst (.int .i64 (n : Int))) w') :
    wpList P ops Q (o :: rest) a w := by
  refine wpList_plain hgd fun K' hK' => ?_
  have hrun := run_copy_str (P := P) w dT sT o.type elem g n cap t cur T hu hsz hg hn hle
  unfold Oper.wp
  simp [execOp, ho, resolve, invoke, builtin, hd, hs, hrun, Result.andThen]
  exact hK' _ _ (h _ (show _ = _ from setRow_heap w g _ _ T _ hg) (below_setRow (Below.refl _ _) (Nat.le_refl _) _) (show _ = _ by simp [World.setRow]) (show ∀ k, k ≠ g → _ from fun k hk => setRow_other w g k _ (fun e => hk (by first | exact e | exact e.symm))))
end
end Go.Proofs.YtnpgjlhnlakgpaaDoor

/- A map of files in a block: to look up, to store, to delete, at the operation. -/
import Derived.Test.YtnpgjlhnlakgpaaDoorVfsRefL
import Derived.Maps.RangeWalk
namespace Go.Proofs.YtnpgjlhnlakgpaaDoor
open Go.RowKit Go.Maps
open Go.WideElems (Fit rd rg pl rd_val elemAt)

/-- The file of no name. -/
def Fl.zero : Fl := ⟨⟨#[]⟩, ⟨#[]⟩, 0⟩
section
variable {P : Program} {k : TypeId} {w : World} {b n : Nat} {L : List Fl}
theorem own_len (h : w.ownsMap P k flElem b n (dm L)) : w.ownsMap P k flElem b L.length (dm L) := by
  obtain ⟨es, clock, hb, F, hs, hD⟩ := h
  refine ⟨es, clock, hb, F, ?_, hD⟩
  have h1 := congrArg Maps.size hD
  rw [dm_size] at h1
  simp only [Maps.size, length_sorted] at h1
  simp at h1
  omega
theorem look_hit {t e : TypeId} (c : Bool) (h : w.ownsMap P k flElem b n (dm L)) (K : Keyed P k) (ht : P.underlying t = some (.map k e)) (hz : (zeroValue e).run P w = .ok Fl.zero.val w) {key : Value} {kl : List UInt8} (hkey : keyOf P k key = some (.string kl)) {f : Fl} (hf : findF kl L = some f) :
    (Instr.lookup t (.map (some b)) key c).run P w = .ok (if c then .tuple #[f.val, .bool true] else f.val) w := by
  obtain ⟨es, clock, hb, F, _, hD⟩ := h
  rcases Maps.fit_look c K ht hz hb F hkey with ⟨hrun, _, hat⟩ | ⟨e0, y, _, _, hrun, hRv, hat, _⟩
  · have := hat .nil
    rw [← hD, dm_at, hf] at this
    cases this
  · have := hat .nil
    rw [← hD, dm_at, hf] at this
    obtain ⟨g, hg, rfl⟩ := flElem_inv hRv
    have hfg : f = g := Fl.datum_inj this
    subst hfg
    rw [hg] at hrun
    exact hrun
theorem look_miss {t e : TypeId} (c : Bool) (h : w.ownsMap P k flElem b n (dm L)) (K : Keyed P k) (ht : P.underlying t = some (.map k e)) (hz : (zeroValue e).run P w = .ok Fl.zero.val w) {key : Value} {kl : List UInt8} (hkey : keyOf P k key = some (.string kl)) (hf : findF kl L = none) :
    (Instr.lookup t (.map (some b)) key c).run P w = .ok (if c then .tuple #[Fl.zero.val, .bool false] else Fl.zero.val) w := by
  obtain ⟨es, clock, hb, F, _, hD⟩ := h
  rcases Maps.fit_look c K ht hz hb F hkey with ⟨hrun, _, hat⟩ | ⟨e0, y, _, _, hrun, hRv, hat, _⟩
  · exact hrun
  · have h1 := hat .nil
    have h2 := hat (.lit (.bool true))
    rw [← hD, dm_at, hf] at h1 h2
    rw [← h1] at h2
    cases h2
end
section
variable {P : Program} (w : World) {ops : Array Oper} {rest : List Oper} {o : Oper} {a : Act} {Q : Exit → Act → World → Prop}
theorem wpList_look_ok_hit (hg : o.guard = none) (m x : Operand) (t : TypeId) (hop : o.op = Op.lookup t m x true) (k e : TypeId) (K : Keyed P k) (ht : P.underlying t = some (.map k e)) (hz : (zeroValue e).run P w = .ok Fl.zero.val w)
    (b n : Nat) (L : List Fl) (hm : a.eval m = .map (some b)) (hown : w.ownsMap P k flElem b n (dm L)) (key : Value) (kl : List UInt8) (hx : a.eval x = key) (hkey : keyOf P k key = some (.string kl)) (f : Fl) (hf : findF kl L = some f)
    (hK : wpList P ops Q rest (a.put o.dst (.tuple #[.agg #[.string f.name, .string f.bytes, .int .i64 (f.safe : Int)], .bool true])) w) : wpList P ops Q (o :: rest) a w := by
  refine wpList_plain hg fun K' hK' => ?_
  have hrun := look_hit true hown K ht hz hkey hf
  unfold Oper.wp
  simp [execOp, hop, hm, hx, hrun, Result.andThen]
  exact hK' _ _ hK
theorem wpList_look_ok_miss (hg : o.guard = none) (m x : Operand) (t : TypeId) (hop : o.op = Op.lookup t m x true) (k e : TypeId) (K : Keyed P k) (ht : P.underlying t = some (.map k e)) (hz : (zeroValue e).run P w = .ok Fl.zero.val w)
    (b n : Nat) (L : List Fl) (hm : a.eval m = .map (some b)) (hown : w.ownsMap P k flElem b n (dm L)) (key : Value) (kl : List UInt8) (hx : a.eval x = key) (hkey : keyOf P k key = some (.string kl)) (hf : findF kl L = none)
    (hK : wpList P ops Q rest (a.put o.dst (.tuple #[.agg #[.string ⟨#[]⟩, .string ⟨#[]⟩, .int .i64 0], .bool false])) w) : wpList P ops Q (o :: rest) a w := by
  refine wpList_plain hg fun K' hK' => ?_
  have hrun := look_miss true hown K ht hz hkey hf
  unfold Oper.wp
  simp [execOp, hop, hm, hx, hrun, Result.andThen]
  exact hK' _ _ hK
theorem wpList_look_hit (hg : o.guard = none) (m x : Operand) (t : TypeId) (hop : o.op = Op.lookup t m x false) (k e : TypeId) (K : Keyed P k) (ht : P.underlying t = some (.map k e)) (hz : (zeroValue e).run P w = .ok Fl.zero.val w)
    (b n : Nat) (L : List Fl) (hm : a.eval m = .map (some b)) (hown : w.ownsMap P k flElem b n (dm L)) (key : Value) (kl : List UInt8) (hx : a.eval x = key) (hkey : keyOf P k key = some (.string kl)) (f : Fl) (hf : findF kl L = some f)
    (hK : wpList P ops Q rest (a.put o.dst (.agg #[.string f.name, .string f.bytes, .int .i64 (f.safe : Int)])) w) : wpList P ops Q (o :: rest) a w := by
  refine wpList_plain hg fun K' hK' => ?_
  have hrun := look_hit false hown K ht hz hkey hf
  unfold Oper.wp
  simp [execOp, hop, hm, hx, hrun, Result.andThen]
  exact hK' _ _ hK
theorem wpList_look_miss (hg : o.guard = none) (m x : Operand) (t : TypeId) (hop : o.op = Op.lookup t m x false) (k e : TypeId) (K : Keyed P k) (ht : P.underlying t = some (.map k e)) (hz : (zeroValue e).run P w = .ok Fl.zero.val w)
    (b n : Nat) (L : List Fl) (hm : a.eval m = .map (some b)) (hown : w.ownsMap P k flElem b n (dm L)) (key : Value) (kl : List UInt8) (hx : a.eval x = key) (hkey : keyOf P k key = some (.string kl)) (hf : findF kl L = none)
    (hK : wpList P ops Q rest (a.put o.dst (.agg #[.string ⟨#[]⟩, .string ⟨#[]⟩, .int .i64 0])) w) : wpList P ops Q (o :: rest) a w := by
  refine wpList_plain hg fun K' hK' => ?_
  have hrun := look_miss false hown K ht hz hkey hf
  unfold Oper.wp
  simp [execOp, hop, hm, hx, hrun, Result.andThen]
  exact hK' _ _ hK
theorem wpList_store_fl (hg : o.guard = none) (m x v : Operand) (t : TypeId) (hop : o.op = Op.mapUpdate t m x v) (k e : TypeId) (K : Keyed P k) (ht : P.underlying t = some (.map k e))
    (b n : Nat) (L : List Fl) (hm : a.eval m = .map (some b)) (hown : w.ownsMap P k flElem b n (dm L)) (hn : n < maxLen) (f : Fl) (hx : a.eval x = .string f.name) (hv : a.eval v = .agg #[.string f.name, .string f.bytes, .int .i64 (f.safe : Int)]) (hkey : keyOf P k (.string f.name) = some (.string f.name.data.toList))
    (hK : ∀ w', w'.ownsMap P k flElem b (putF f L).length (dm (putF f L)) → w.grownBy w' (some b) → wpList P ops Q rest (a.put o.dst undef) w') : wpList P ops Q (o :: rest) a w :=
  wpList_mapUpdate_own w hg m x v t hop k e K ht flElem b n (dm L) hm hown hn (.string f.name) f.val (.string f.name.data.toList) hx hv hkey f.datum [] (flElem_val f) fun w' h1 h2 =>
    hK w' (by rw [dm_put f L] at h1; exact own_len h1) h2
theorem wpList_delete_fl (hg : o.guard = none) (m x : Operand) (t k : TypeId) (hop : o.op = Op.call { callee := Callee.builtin Builtin.delete, args := #[m, x], argTypes := #[t, k] }) (e : TypeId) (K : Keyed P k) (ht : P.underlying t = some (.map k e))
    (b n : Nat) (L : List Fl) (hm : a.eval m = .map (some b)) (hown : w.ownsMap P k flElem b n (dm L)) (key : Value) (kl : List UInt8) (hx : a.eval x = key) (hkey : keyOf P k key = some (.string kl))
    (hK : ∀ w', w'.ownsMap P k flElem b (delF kl L).length (dm (delF kl L)) → w.grownBy w' (some b) → wpList P ops Q rest (a.put o.dst (.tuple #[])) w') : wpList P ops Q (o :: rest) a w :=
  wpList_delete_own w hg m x t k hop e K ht flElem b n (dm L) hm hown key (.string kl) hx hkey fun w' h1 h2 =>
    hK w' (by rw [dm_del kl L] at h1; exact own_len h1) h2.grown
end
end Go.Proofs.YtnpgjlhnlakgpaaDoor

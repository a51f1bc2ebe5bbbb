/- The boxes of eval.call: what the closure captures. The first loop of eval.call: where each Kid's subqueries begin. The closure of eval.call: the value of one Kid. The contract of eval.call: at CASE. The document's Subs: as many as there are subqueries. -/
import Derived.Test.YtokbdleokihdaaaGreatDoorG24
import Derived.Test.YtokbdleokihdaaaGreatDoorG23
import Derived.Outline
namespace Go.Proofs.YtokbdleokihdaaaGreatDoor
open Go.RowKit

def intVals (l : List Nat) : List Value := l.map fun n : Nat => .int .i64 (n : Int)
/-- The boxes: the expression's cells, the rows, the subqueries' values, and where each Kid's subqueries begin. -/
structure LB (W : World) (xs : Array Value) (ve vs v : Value) (fr : List Nat) (w' : World) : Prop where
  b : Below W.heap.size W w'
  n : W.heap.size + 4 ≤ w'.heap.size
  e : ∀ i, w'.cell? ⟨W.heap.size, i, none⟩ = xs[i]?
  env : w'.cell? ⟨W.heap.size + 1, 0, none⟩ = some ve
  subs : w'.cell? ⟨W.heap.size + 1 + 1, 0, none⟩ = some vs
  cell : w'.cell? ⟨W.heap.size + 1 + 1 + 1, 0, none⟩ = some v
  fz : w'.frozen? ⟨W.heap.size + 1 + 1 + 1, 0, none⟩ = false
  row : w'.ownsRow (W.heap.size + 4) 3 1 v fr.length (intVals fr)

theorem ownsRow_later {w w' : World} {B : Nat} {e : TypeId} {k : Nat} {v : Value} {n : Nat} {xs : List Value} (h : w.ownsRow B e k v n xs) (hb : Below w.heap.size w w') : w'.ownsRow B e k v n xs := by
  refine ⟨h.1, ?_⟩
  rcases h.2 with h | ⟨g, cap, cur, h1, h2, h3, h4⟩
  · exact .inl h
  · have hg : g < w.heap.size := (Array.getElem?_eq_some_iff.1 h3).1
    exact .inr ⟨g, cap, cur, h1, h2, by rw [hb.block g hg]; exact h3, h4⟩
theorem LB.below {W : World} {xs : Array Value} {ve vs v : Value} {fr : List Nat} {w1 w2 : World} (h : LB W xs ve vs v fr w1) (hb : Below w1.heap.size w1 w2) : LB W xs ve vs v fr w2 := by
  have hn := h.n
  refine ⟨h.b.trans (hb.mono (by omega)), by have := hb.size; omega, fun i => ?_, ?_, ?_, ?_, ?_, ownsRow_later h.row hb⟩
  · rw [hb.cell (p := ⟨W.heap.size, i, none⟩) (by show W.heap.size < _; omega)]; exact h.e i
  · rw [hb.cell (p := ⟨W.heap.size + 1, 0, none⟩) (by show W.heap.size + 1 < _; omega)]; exact h.env
  · rw [hb.cell (p := ⟨W.heap.size + 1 + 1, 0, none⟩) (by show W.heap.size + 1 + 1 < _; omega)]; exact h.subs
  · rw [hb.cell (p := ⟨W.heap.size + 1 + 1 + 1, 0, none⟩) (by show W.heap.size + 1 + 1 + 1 < _; omega)]; exact h.cell
  · rw [hb.frozen (p := ⟨W.heap.size + 1 + 1 + 1, 0, none⟩) (by show W.heap.size + 1 + 1 + 1 < _; omega)]; exact h.fz
theorem LB.alloc {W : World} {xs : Array Value} {ve vs v : Value} {fr : List Nat} {w1 : World} (h : LB W xs ve vs v fr w1) (o : Obj) : LB W xs ve vs v fr (w1.alloc o) := h.below ((Below.refl _ _).alloc (Nat.le_refl _) _)
theorem LB.grow {W : World} {xs : Array Value} {ve vs v v' : Value} {fr : List Nat} {a : Nat} {w1 w3 : World} (h : LB W xs ve vs v fr w1) (hg : w1.grownBy w3 v.ownBlock) (hr : w3.ownsRow (W.heap.size + 4) 3 1 v' (fr.length + 1) (intVals fr ++ [.int .i64 (a : Int)])) :
    LB W xs ve vs v' (fr ++ [a]) (w3.setCell ⟨W.heap.size + 1 + 1 + 1, 0, none⟩ v') ∧ (∀ b i u, b < w1.heap.size → W.heap.size + 1 + 1 + 1 ≠ b → some b ≠ v.ownBlock → w1.cell? ⟨b, i, none⟩ = some u → (w3.setCell ⟨W.heap.size + 1 + 1 + 1, 0, none⟩ v').cell? ⟨b, i, none⟩ = some u) := by
  have hn := h.n
  have hne : ∀ j, j < W.heap.size + 4 → some j ≠ v.ownBlock := fun j hj e => by have := h.row.lt j e.symm; omega
  have hb3 : Below W.heap.size W w3 := h.b.grown hg (by omega) (fun j hj => by have := (h.row.lt j hj).1; omega)
  have hc3 := hg.cell h.cell (hne _ (by show W.heap.size + 1 + 1 + 1 < _; omega))
  have hz : w1.heap.size ≤ w3.heap.size := hg.size
  refine ⟨⟨hb3.setCell (by show W.heap.size ≤ W.heap.size + 1 + 1 + 1; omega) _, by rw [World.size_setCell]; omega, fun i => ?_, ?_, ?_, ?_, ?_, ?_⟩, fun b i u hb hbn hbo hu => ?_⟩
  · rw [World.cell?_setCell_other (h := by simp)]
    cases hx : xs[i]? with
    | some u => exact hg.cell ((h.e i).trans hx) (hne _ (by show W.heap.size < _; omega))
    | none =>
      have := h.e i
      rw [hx] at this
      rw [← this]
      have hbl := hg.block W.heap.size (by omega) (hne _ (by omega))
      exact World.cell?_of_block hbl
  · rw [World.cell?_setCell_other (h := by simp)]; exact hg.cell h.env (hne _ (by show W.heap.size + 1 < _; omega))
  · rw [World.cell?_setCell_other (h := by simp)]; exact hg.cell h.subs (hne _ (by show W.heap.size + 1 + 1 < _; omega))
  · exact World.cell?_setCell_same _ _ _ hc3
  · rw [World.frozen?_setCell]
    rw [World.frozen?_of_block (w := w1) (hg.block (W.heap.size + 1 + 1 + 1) (by omega) (hne _ (by omega)))]
    exact h.fz
  · have := ownsRow_setCell_below hr (a := ⟨W.heap.size + 1 + 1 + 1, 0, none⟩) (by show W.heap.size + 1 + 1 + 1 < _; omega) v'
    rw [List.length_append]
    simpa [intVals] using this
  · rw [World.cell?_setCell_other (h := by intro e; injection e with e1; exact hbn e1)]
    exact hg.cell hu hbo
theorem new_past (W : World) (x : Array Value) (t : TypeId) (o : Obj) (i : Nat) : ((W.alloc (.cells x t)).alloc o).cell? ⟨W.heap.size, i, none⟩ = x[i]? := by
  rw [World.cell?_alloc_past _ _ _ (by show W.heap.size < _; rw [World.size_alloc]; omega), World.cell?_alloc_new]
theorem LB.app {W : World} {xs : Array Value} {ve vs v v' : Value} {fr : List Nat} {a : Nat} {wr w3 : World} {kx : Array Value} {t : TypeId} {o : Obj} (h : LB W xs ve vs v fr wr)
    (hr : w3.ownsRow (W.heap.size + 4) 3 1 v' (fr.length + 1) (intVals fr ++ [.int .i64 (a : Int)])) (hg : ((wr.alloc (.cells kx t)).alloc o).grownBy w3 v.ownBlock) :
    w3.cell? ⟨W.heap.size + 1 + 1 + 1, 0, none⟩ = some v ∧ w3.frozen? ⟨W.heap.size + 1 + 1 + 1, 0, none⟩ = false ∧ Hid (LB W xs ve vs v' (fr ++ [a]) (w3.setCell ⟨W.heap.size + 1 + 1 + 1, 0, none⟩ v')) ∧
    (∀ i u, kx[i]? = some u → (w3.setCell ⟨W.heap.size + 1 + 1 + 1, 0, none⟩ v').cell? ⟨wr.heap.size, i, none⟩ = some u) ∧ wr.heap.size < w3.heap.size := by
  have h2 := (h.alloc (.cells kx t)).alloc o
  have hn := h.n
  have hne : ∀ j, j < W.heap.size + 4 → some j ≠ v.ownBlock := fun j hj e => by have := h2.row.lt j e.symm; omega
  have hnb : some wr.heap.size ≠ v.ownBlock := fun e => by have := (h.row.lt _ e.symm).2; omega
  obtain ⟨g1, g2⟩ := h2.grow hg hr
  have hz := hg.size
  simp at hz
  refine ⟨hg.cell h2.cell (hne _ (by show W.heap.size + 1 + 1 + 1 < _; omega)), ?_, g1, fun i u hu => g2 wr.heap.size i u (by rw [World.size_alloc, World.size_alloc]; omega) (by omega) hnb ((new_past _ _ _ _ _).trans hu), by omega⟩
  rw [World.frozen?_of_block (hg.block (W.heap.size + 1 + 1 + 1) (by rw [World.size_alloc, World.size_alloc]; omega) (hne _ (by omega)))]
  exact h2.fz
end Go.Proofs.YtokbdleokihdaaaGreatDoor
namespace Go.Proofs.YtokbdleokihdaaaGreatDoor
open Go.RowKit

def froms (ks : List Ex) (j : Nat) : List Nat := (List.range j).map fun i => cntL (ks.take i)
theorem froms_succ (ks : List Ex) (j : Nat) : froms ks (j + 1) = froms ks j ++ [cntL (ks.take j)] := by simp [froms, List.range_succ]
theorem froms_length (ks : List Ex) (j : Nat) : (froms ks j).length = j := by simp [froms]
theorem boxes4 (w : World) (x y z u : Array Value) (t1 t2 t3 t4 : TypeId) :
    Below w.heap.size w ((((w.alloc (.cells x t1)).alloc (.cells y t2)).alloc (.cells z t3)).alloc (.cells u t4)) ∧ ((((w.alloc (.cells x t1)).alloc (.cells y t2)).alloc (.cells z t3)).alloc (.cells u t4)).heap.size = w.heap.size + 4 ∧
    (∀ i, ((((w.alloc (.cells x t1)).alloc (.cells y t2)).alloc (.cells z t3)).alloc (.cells u t4)).cell? ⟨w.heap.size, i, none⟩ = x[i]?) ∧ (∀ i, ((((w.alloc (.cells x t1)).alloc (.cells y t2)).alloc (.cells z t3)).alloc (.cells u t4)).cell? ⟨w.heap.size + 1, i, none⟩ = y[i]?) ∧
    (∀ i, ((((w.alloc (.cells x t1)).alloc (.cells y t2)).alloc (.cells z t3)).alloc (.cells u t4)).cell? ⟨w.heap.size + 1 + 1, i, none⟩ = z[i]?) ∧ (∀ i, ((((w.alloc (.cells x t1)).alloc (.cells y t2)).alloc (.cells z t3)).alloc (.cells u t4)).cell? ⟨w.heap.size + 1 + 1 + 1, i, none⟩ = u[i]?) ∧
    (∀ i, ((((w.alloc (.cells x t1)).alloc (.cells y t2)).alloc (.cells z t3)).alloc (.cells u t4)).frozen? ⟨w.heap.size + 1 + 1 + 1, i, none⟩ = false) := by
  obtain ⟨h1, h2, h3, h4, h5⟩ := boxes3 w x y z t1 t2 t3
  obtain ⟨k1, k2, k3⟩ := boxes1 (((w.alloc (.cells x t1)).alloc (.cells y t2)).alloc (.cells z t3)) u t4
  rw [h2] at k1 k2 k3
  refine ⟨h1.trans (k1.mono (by omega)), k2, fun i => ?_, fun i => ?_, fun i => ?_, k3, fun i => World.frozen?_alloc_at _ _ _ _ (by simp)⟩
  · rw [← h3 i]; exact k1.cell (p := ⟨w.heap.size, i, none⟩) (by simp)
  · rw [← h4 i]; exact k1.cell (p := ⟨w.heap.size + 1, i, none⟩) (by simp)
  · rw [← h5 i]; exact k1.cell (p := ⟨w.heap.size + 1 + 1, i, none⟩) (by simp)
theorem Intinfo' : (Tryz.prog.info? 3).map (fun i => (i.zero, i.size, i.bytes)) = some (some (.int .i64 0), 1, 8) := by kernel_rfl
theorem kid_at {w W : World} {b o : Nat} {ks : List Ex} (h : KCells w b o ks) (hW : Below w.heap.size w W) (hbk : b < w.heap.size) {i : Nat} {x : Ex} (hx : ks[i]? = some x) : ∀ j u, x.cells[j]? = some u → W.cell? ⟨b, o + i * 11 + j, none⟩ = some u := (h.below hW hbk) i x hx

theorem cell1n (W : World) (x : Value) (t : TypeId) (j : Nat) (u : Value) (hj : [x][j]? = some u) : (W.alloc (.cells #[x] t)).cell? ((⟨W.heap.size, 0, none⟩ : Addr).add j) = some u := by
  have hadd : (⟨W.heap.size, 0, none⟩ : Addr).add j = ⟨W.heap.size, j, none⟩ := by unfold Addr.add; split <;> simp_all
  rw [hadd, World.cell?_alloc_new]
  match j, hj with
  | 0, hj => exact hj
theorem cell1n2 (W : World) (u : Obj) (x : Value) (t : TypeId) (j : Nat) (v : Value) (hj : [x][j]? = some v) : ((W.alloc u).alloc (.cells #[x] t)).cell? ((⟨W.heap.size + 1, 0, none⟩ : Addr).add j) = some v := by
  have := cell1n (W.alloc u) x t j v hj
  rwa [World.size_alloc] at this

end Go.Proofs.YtokbdleokihdaaaGreatDoor
namespace Go.Proofs.YtokbdleokihdaaaGreatDoor
open Go.RowKit

/-- eval.value answers what an expression is worth, from a world on. -/
def VC (w : World) (env : List (List Dt)) (ve : Value) (x : Ex) : Prop :=
  x.right env = true → ∀ subs : List Dt, x.cnt ≤ subs.length → (∀ d ∈ subs, Vok d) → ∀ W vs, Below w.heap.size w W → DatS W vs subs →
    Calls Tryz.prog 17 #[x.v, ve, vs] W fun e w' => e = .returned (resV (x.val env subs)) ∧ Below W.heap.size W w'
/-- What the closure captures. -/
def caps (W : World) : Array Value := #[.pointer (some ⟨W.heap.size, 0, none⟩), .pointer (some ⟨W.heap.size + 1, 0, none⟩), .pointer (some ⟨W.heap.size + 1 + 1, 0, none⟩), .pointer (some ⟨W.heap.size + 1 + 1 + 1, 0, none⟩)]

theorem datS_drop {W : World} {pv : Option Addr} {cv : Nat} {subs : List Dt} {m : Nat} (h : DatS W (.slice pv subs.length cv) subs) (hm : m ≤ subs.length) :
    DatS W (.slice (if cv = m then pv else Option.map (fun x => x.add (m * 3)) pv) (subs.length - m) (cv - m)) (subs.drop m) := by
  obtain ⟨p', cap', he, h1, h2, h3, h4⟩ := h
  injection he with e1 e2 e3
  subst e1 e3
  refine ⟨_, _, by rw [List.length_drop], by rw [List.length_drop]; omega, by omega, ?_, fun d hd => h4 d (List.mem_of_mem_drop hd)⟩
  by_cases hd : subs.drop m = []
  · exact .inl hd
  · right
    have hlt : m < subs.length := by
      rcases Nat.lt_or_ge m subs.length with h | h
      · exact h
      · exact absurd (List.drop_eq_nil_of_le h) hd
    rw [if_neg (by omega)]
    rcases h3 with h3 | ⟨b, o, rfl, hb, hc⟩
    · rw [h3] at hlt; simp at hlt
    · refine ⟨b, o + m * 3, by simp [Addr.add], hb, fun j hj => ?_⟩
      rw [List.length_drop] at hj
      have hdn : dnth (subs.drop m) j = dnth subs (m + j) := by unfold dnth; simp [List.getD_eq_getElem?_getD, List.getElem?_drop]
      have := hc (m + j) (by omega)
      rw [hdn]
      rw [show o + m * 3 + j * 3 = o + (m + j) * 3 by omega]
      exact this

set_option maxRecDepth 100000 in
set_option maxHeartbeats 8000000 in
theorem kid_walk {w : World} {k t : Int} {nl : Bool} {l : Dt} {lev col op : Int} {p : Option Addr} {cap : Nat} {ps : Option Addr} {ns cs : Nat} {kids : List Ex} {pe : Option Addr} {ne ce : Nat} {vs v : Value} {W w0 : World} (_hcap : kids.length ≤ cap) (_hcap2 : cap ≤ 1048576)
    (hk : kids = [] ∨ ∃ b o, p = some ⟨b, o, none⟩ ∧ b < w.heap.size ∧ KCells w b o kids) (hks : ∀ x ∈ kids, ExAt w x) (hW : Below w.heap.size w W)
    (env : List (List Dt)) (subs : List Dt) (hr : rightL env kids = true) (hcnt : cntL kids ≤ subs.length) (hv : ∀ d ∈ subs, Vok d) (hS : DatS W vs subs) (hVC : ∀ x ∈ kids, VC w env (.slice pe ne ce) x)
    (hL : LB W #[.int .i64 k, .int .i64 t, .bool nl, .int .i64 l.k, .int .i64 l.i, .string l.s, .int .i64 lev, .int .i64 col, .int .i64 op, .slice p kids.length cap, .slice ps ns cs] (.slice pe ne ce) vs v (froms kids kids.length) w0) :
    Kid w0 45 (caps W) (valL env kids subs) := by
  intro i r hir W2 hW2
  have hLB := hL.below hW2
  have hil : i < kids.length := by have := (List.getElem?_eq_some_iff.1 hir).1; rwa [valL_length] at this
  have hne : kids ≠ [] := fun h => by rw [h] at hil; simp at hil
  obtain ⟨b, o, rfl, hbk, hc⟩ := hk.resolve_left hne
  obtain ⟨y, hy⟩ : ∃ y, kids[i] = y := ⟨_, rfl⟩
  have hyi : kids[i]? = some y := by rw [List.getElem?_eq_getElem hil, hy]
  have hmem : y ∈ kids := List.mem_of_getElem? hyi
  have hex := hks y hmem
  have hval : r = y.val env (subs.drop (cntL (kids.take i))) := by
    have := valL_get env kids subs i hil
    rw [hy] at this
    rw [← this]
    exact ((List.getElem?_eq_some_iff.1 hir).2).symm
  subst hval
  have hct := cntL_take kids i hil
  rw [hy] at hct
  have hcl := cntL_take_le kids (i + 1)
  have hfrom : (intVals (froms kids kids.length))[i]? = some (.int .i64 ((cntL (kids.take i) : Nat) : Int)) := by
    simp [intVals, froms, hil]
  have hVy := hVC y hmem ((rightL_iff env kids).1 hr y hmem) (subs.drop (cntL (kids.take i))) (by rw [List.length_drop]; omega) (fun d hd => hv d (List.mem_of_mem_drop hd))
  have hwW : Below w.heap.size w W2 := hW.trans (hLB.b.mono hW.size)
  have hS2 : DatS W2 vs subs := hS.later hLB.b
  obtain ⟨k', t', nl', l', lev', col', op', kv', sv', kids'⟩ := y
  obtain ⟨p', cap', ps', ns', cs', rfl, rfl⟩ := hex.slices
  obtain ⟨⟨c0, c1, c2, c3⟩, ⟨c4, c5, c6, c7⟩, c8, c9, c10⟩ := hc.at hwW hbk hyi
  obtain ⟨fp, fn, fc, rfl⟩ := owns_slice hLB.row
  have e9 := hLB.e 9
  have e1 := hLB.env
  have e2 := hLB.subs
  have e3 := hLB.cell
  simp only [List.getElem?_toArray, List.getElem?_cons_succ, List.getElem?_cons_zero] at e9
  unfold caps
  generalize cntL (kids.take i) = m at *
  obtain ⟨pv, cv, rfl, hs1, hs2, hs3, hs4⟩ := id hS2
  have hfn : fn = kids.length := by
    rcases hLB.row.2 with ⟨h1, h2⟩ | ⟨g, cp, cur, h1, _⟩
    · rw [froms_length] at h2; omega
    · injection h1 with _ h1 _; rw [h1, froms_length]
  subst hfn
  obtain ⟨g, rfl⟩ : ∃ g, fp = some ⟨g, 0, none⟩ := by
    rcases hLB.row.2 with ⟨h1, h2⟩ | ⟨g, cp, cur, h1, _⟩
    · rw [froms_length] at h2; omega
    · injection h1 with h1 _ _; exact ⟨g, h1⟩
  have e4 : W2.cell? ⟨g, i, none⟩ = some (.int .i64 (m : Int)) := by
    have hrow := hLB.row
    rw [froms_length] at hrow
    rw [hrow.cellAt i (by omega)]; exact hfrom
  have HV := Lib.hid hVy
  have HS2 := Lib.hid hS2
  have HWW := Lib.hid hwW
  have hnn : m ≤ subs.length := by omega
  clear hLB hL hW2 hir hfrom hVy hS2 hwW hc hk hks hS hv hex hyi hVC hW hy hs3 hs4
  have HSH := Lib.hid (datS_drop HS2.out hnn)
  clear hs1 hs2 hct hcl hcnt hr
  go_enter Tryz.func45, Tryz.ntmps45
  go_wp2_with fail
  have g0 := after_cell c0 (World.block_lt_of_cell? _ _ c0)
  have g1 := after_cell c1 (World.block_lt_of_cell? _ _ c1)
  have g2 := after_cell c2 (World.block_lt_of_cell? _ _ c2)
  have g3 := after_cell c3 (World.block_lt_of_cell? _ _ c3)
  have g4 := after_cell c4 (World.block_lt_of_cell? _ _ c4)
  have g5 := after_cell c5 (World.block_lt_of_cell? _ _ c5)
  have g6 := after_cell c6 (World.block_lt_of_cell? _ _ c6)
  have g7 := after_cell c7 (World.block_lt_of_cell? _ _ c7)
  have g8 := after_cell c8 (World.block_lt_of_cell? _ _ c8)
  have g9 := after_cell c9 (World.block_lt_of_cell? _ _ c9)
  have g10 := after_cell c10 (World.block_lt_of_cell? _ _ c10)
  have g11 := after_cell e9 (World.block_lt_of_cell? _ _ e9)
  have g12 := after_cell e1 (World.block_lt_of_cell? _ _ e1)
  have g13 := after_cell e2 (World.block_lt_of_cell? _ _ e2)
  have g14 := after_cell e3 (World.block_lt_of_cell? _ _ e3)
  have g15 := after_cell e4 (World.block_lt_of_cell? _ _ e4)
  have HR := Lib.hid (fun u : GW (After W2) => HV.out u.w _ (HWW.out.trans (u.h.mono HWW.out.size)) (HSH.out.later u.h))
  have hgn := GW.ne (Inv := After W2) (Below.refl _ _)
  clear c0 c1 c2 c3 c4 c5 c6 c7 c8 c9 c10 e9 e1 e2 e3 e4
  refine wp_region_grow (After W2) (by kernel_rfl) (by kernel_rfl) (Below.refl _ _).drew ?_
  repeat (go_big_quiet_step (first | (go_at_call 17; refine (HR.out _).mono ?_; rintro e w1 ⟨rfl, hb⟩; exact ⟨rfl, below_next _ hb⟩) | fail))
  refine wpQuiet_nil ?_
  intro _ hw'
  obtain ⟨⟨w4, h4⟩, hw''⟩ := hw'
  subst hw''
  have HB4 := Lib.hid h4
  clear h4 HR hgn g0 g1 g2 g3 g4 g5 g6 g7 g8 g9 g10 g11 g12 g13 g14 g15
  go_wp2_with fail
  all_goals
    go_ret
    exact ⟨rfl, HB4.out⟩
end Go.Proofs.YtokbdleokihdaaaGreatDoor
namespace Go.Proofs.YtokbdleokihdaaaGreatDoor
open Go.RowKit

set_option maxRecDepth 100000 in
set_option maxHeartbeats 16000000 in
theorem call_case {w : World} (k t : Int) (nl : Bool) (l : Dt) (lev col : Int) (p : Option Addr) (cap : Nat) (ps : Option Addr) (ns cs : Nat) (kids : List Ex) (pe : Option Addr) (ne ce : Nat) (pv : Option Addr) (nv cv : Nat) (W : World) (hcap : kids.length ≤ cap) (hcap2 : cap ≤ 1048576)
    (hk : kids = [] ∨ ∃ b o, p = some ⟨b, o, none⟩ ∧ b < w.heap.size ∧ KCells w b o kids) (hks : ∀ x ∈ kids, ExAt w x) (hcnt : cntL kids ≤ 1000000000) (hW : Below w.heap.size w W) (hT : Tabs w)
    (rs : List (Dt × Int)) (hrl : rs.length = kids.length) (hV : ∀ r ∈ rs, Vok r.1)
    (hKid : ∀ w0 v, LB W #[.int .i64 k, .int .i64 t, .bool nl, .int .i64 l.k, .int .i64 l.i, .string l.s, .int .i64 lev, .int .i64 col, .int .i64 16, .slice p kids.length cap, .slice ps ns cs] (.slice pe ne ce) (.slice pv nv cv) v (froms kids kids.length) w0 → Kid w0 45 (caps W) rs) :
    Calls Tryz.prog 31 #[.agg #[.int .i64 k, .int .i64 t, .bool nl, .int .i64 l.k, .int .i64 l.i, .string l.s, .int .i64 lev, .int .i64 col, .int .i64 16, .slice p kids.length cap, .slice ps ns cs], .slice pe ne ce, .slice pv nv cv] W fun e w' => e = .returned (resV (caseF rs)) ∧ Below W.heap.size W w' := by
  obtain ⟨i0, hi, hz0, hz1, hz2⟩ := info_parts Intinfo'
  obtain ⟨B1, B2, B3, B4, B5, B6, B7⟩ := boxes4 W #[.int .i64 k, .int .i64 t, .bool nl, .int .i64 l.k, .int .i64 l.i, .string l.s, .int .i64 lev, .int .i64 col, .int .i64 16, .slice p kids.length cap, .slice ps ns cs] #[.slice pe ne ce] #[.slice pv nv cv] #[.slice none 0 0] 30 23 25 79
  have HL0 := Lib.hid (show LB W #[.int .i64 k, .int .i64 t, .bool nl, .int .i64 l.k, .int .i64 l.i, .string l.s, .int .i64 lev, .int .i64 col, .int .i64 16, .slice p kids.length cap, .slice ps ns cs] (.slice pe ne ce) (.slice pv nv cv) (.slice none 0 0) (froms kids 0) _ from
    ⟨B1, by omega, B3, B4 0, B5 0, B6 0, B7 0, World.ownsRow_nil _ _ _ _⟩)
  have HK := Lib.hid hk
  have HKS := Lib.hid hks
  have HW := Lib.hid hW
  have HC := Lib.hid hcnt
  have HKD := Lib.hid hKid
  have HT := Lib.hid (hT.below hW)
  have HV := Lib.hid hV
  clear B1 B2 B3 B4 B5 B6 B7 hk hks hW hcnt hKid hT hV
  generalize hlen : kids.length = n at *
  have HL := Lib.hid hlen
  clear hlen
  go_enter Tryz.func31, Tryz.ntmps31
  go_wp2_with fail
  go_loopw [8, 27] (fun av iv wr => ∃ (j : Nat) (v : Value), j ≤ n ∧ iv = .int .i64 (j : Int) ∧ av = .int .i64 ((cntL (kids.take j) : Nat) : Int) ∧
      LB W #[.int .i64 k, .int .i64 t, .bool nl, .int .i64 l.k, .int .i64 l.i, .string l.s, .int .i64 lev, .int .i64 col, .int .i64 16, .slice p n cap, .slice ps ns cs] (.slice pe ne ce) (.slice pv nv cv) v (froms kids j) wr) (fun _ iv _ => n - (intOf iv).toNat)
  case atStart => exact ⟨0, _, Nat.zero_le _, rfl, by simp [cntL], HL0.out⟩
  case round =>
    obtain ⟨j, v, hj, rfl, rfl, hlb⟩ := hrel
    have HLB := Lib.hid hlb
    have hzr := hlb.n
    have hz3 : W.heap.size + 1 + 1 + 1 < wr.heap.size := by omega
    have k3 := hlb.cell
    have f3 := hlb.fz
    have hWr := hlb.b.size
    have hww := HW.out.size
    have HRW := Lib.hid hlb.row
    obtain ⟨fp, fn, fc, hfv⟩ := owns_slice hlb.row
    subst hfv
    clear hlb
    by_cases hlt : j < n
    · have hjl : j < kids.length := by rw [HL.out]; exact hlt
      have hne : kids ≠ [] := fun h => by rw [h] at hjl; simp at hjl
      obtain ⟨b, o, rfl, hbk, hc⟩ := HK.out.resolve_left hne
      obtain ⟨y, hy⟩ : ∃ y, kids[j] = y := ⟨_, rfl⟩
      have hyj : kids[j]? = some y := by rw [List.getElem?_eq_getElem hjl, hy]
      have hmem : y ∈ kids := List.mem_of_getElem? hyj
      have hex := HKS.out y hmem
      have hct := cntL_take kids j hjl
      rw [hy] at hct
      have hcl := cntL_take_le kids (j + 1)
      have hcc := HC.out
      have HCT := Lib.hid hct
      have hc1 : y.cnt ≤ 1000000000 := by omega
      have hs1 : cntL (kids.take j) + y.cnt ≤ 1000000000 := by omega
      have HY := Lib.hid (evmany_any hex hc1)
      have HFS := Lib.hid (froms_succ kids j)
      have hfl := froms_length kids j
      clear hct hcl hcc
      generalize cntL (kids.take j) = m at *
      generalize hcy : y.cnt = cy at *
      obtain ⟨k', t', nl', l', lev', col', op', kv', sv', kids'⟩ := y
      obtain ⟨p', cap', ps', ns', cs', rfl, rfl⟩ := hex.slices
      obtain ⟨⟨c0, c1, c2, c3⟩, ⟨c4, c5, c6, c7⟩, c8, c9, c10⟩ := hc.at (HW.out.trans (HLB.out.b.mono HW.out.size)) hbk hyj
      clear hc hex
      simp only [Ex.v] at HY
      go_wp2_with (at_builtin; refine wpList_append_own _ rfl _ _ 79 rfl (W.heap.size + 4) 3 i0 (.int .i64 0) 1 8 Tryz.underlying79 hi hz0 hz1 hz2 rfl (by decide) _ _ _ rfl ((HRW.out.alloc _).alloc _) ⟨wr.heap.size + 1, 0, none⟩ 1 1 [.int .i64 (m : Int)] rfl rfl (cell1n2 _ _ _ _) (by simp [Value.oneCell']) (by unfold maxLen; omega) (by omega) (by simp; omega) ?_)
      intro v' w3 hown' hg3 _
      obtain ⟨p3, n3, c3', rfl⟩ := owns_slice hown'
      obtain ⟨q3, g3, HN, hq, hz3'⟩ := HLB.out.app (a := m) (by rw [hfl]; exact hown') hg3
      have d0 := hq 0 _ rfl
      have d1 := hq 1 _ rfl
      have d2 := hq 2 _ rfl
      have d3 := hq 3 _ rfl
      have d4 := hq 4 _ rfl
      have d5 := hq 5 _ rfl
      have d6 := hq 6 _ rfl
      have d7 := hq 7 _ rfl
      have d8 := hq 8 _ rfl
      have d9 := hq 9 _ rfl
      have d10 := hq 10 _ rfl
      clear hown' hg3 hq c0 c1 c2 c3 c4 c5 c6 c7 c8 c9 c10 k3 f3
      have hB3 := HN.out.b
      have HBW := Lib.hid (HW.out.trans (hB3.mono hww))
      clear hB3
      go_wp2_with (first | (go_at_call 15; refine (HY.out _ HBW.out).mono ?_; rintro e w2 ⟨rfl, hb2⟩; have HB2 := Lib.hid hb2; clear hb2) | fail)
      go_roundw
      case rel => exact ⟨j + 1, _, by omega, by go_num, by rw [HCT.out]; go_num, by rw [HFS.out]; exact HN.out.below HB2.out⟩
      case measure => simp [intOf]; omega
    · obtain rfl : j = n := by omega
      have HLB2 := Lib.hid (show LB W #[.int .i64 k, .int .i64 t, .bool nl, .int .i64 l.k, .int .i64 l.i, .string l.s, .int .i64 lev, .int .i64 col, .int .i64 16, .slice p j cap, .slice ps ns cs] (.slice pe ne ce) (.slice pv nv cv) _ (froms kids j) wr from HLB.out)
      have HKID := Lib.hid (HKD.out _ _ HLB2.out)
      have e8 := HLB2.out.e 8
      have e9 := HLB2.out.e 9
      have HB := Lib.hid HLB2.out.b
      simp only [List.getElem?_toArray, List.getElem?_cons_succ, List.getElem?_cons_zero] at e8 e9
      have hnm : j ≤ 1048576 := by omega
      clear HLB HLB2 HKD k3 f3 HRW
      have HCS := Lib.hid (evcases_any (caps W) rs wr HV.out (by omega) HKID.out)
      rw [hrl] at HCS
      unfold caps at HCS
      go_wp2_with (first | (go_at_call 48; refine HCS.out.mono ?_; rintro e w2 ⟨rfl, hb2⟩; have HB2 := Lib.hid (HB.out.trans (hb2.mono hWr)); clear hb2) | fail)
      go_ret
      exact ⟨rfl, HB2.out⟩
end Go.Proofs.YtokbdleokihdaaaGreatDoor
namespace Go.Proofs.YtokbdleokihdaaaGreatDoor
open Go.RowKit

theorem Exprinfo : (Tryz.prog.info? 30).map (fun i => (i.zero, i.size, i.bytes)) = some (some (.agg #[.int .i64 0, .int .i64 0, .bool false, .int .i64 0, .int .i64 0, .string ⟨#[]⟩, .int .i64 0, .int .i64 0, .int .i64 0, .slice none 0 0, .slice none 0 0]), 11, 128) := by kernel_rfl
/-- A new block is a row of one's own. -/
theorem ownsRow_new (w : World) (B : Nat) (hB : B ≤ w.heap.size) (e : TypeId) (k n : Nat) (xs : Array Value) (h : xs.size = n * k) (hm : n ≤ maxLen) : (w.alloc (.cells xs e)).ownsRow B e k (.slice (some ⟨w.heap.size, 0, none⟩) n n) n xs.toList := by
  refine ⟨by simpa using h, .inr ⟨w.heap.size, n, xs, rfl, hB, ?_, Nat.le_refl _, hm, h, ?_⟩⟩
  · unfold World.alloc; simp
  · rw [List.take_of_length_le (by simp [h])]

/-- A row of expressions of one's own. -/
def ExRow (W w' : World) (v : Value) (n : Nat) : Prop := ∃ g cap xs, v = .slice (some ⟨g, 0, none⟩) n cap ∧ w'.ownsRow W.heap.size 30 11 v n xs ∧ ∀ u ∈ xs, u.oneCell' = true

set_option maxRecDepth 100000 in
set_option maxHeartbeats 4000000 in
theorem refsubs_any {w : World} {x : Ex} (hx : ExAt w x) : x.cnt ≤ 1000000000 → ∀ W, Below w.heap.size w W →
    Calls Tryz.prog 6 #[x.v] W fun e w' => ∃ v, e = .returned v ∧ ExRow W w' v x.cnt ∧ Below W.heap.size W w' := by
  obtain ⟨i0, hi, hz0, hz1, hz2⟩ := info_parts Exprinfo
  induction hx with
  | @mk k t nl l lev col op kids p cap ps ns cs h1 h2 hk hl hks ih =>
    intro hcnt W hW
    have HB := Lib.hid (boxes2 W #[.int .i64 k, .int .i64 t, .bool nl, .int .i64 l.k, .int .i64 l.i, .string l.s, .int .i64 lev, .int .i64 col, .int .i64 op, .slice p kids.length cap, .slice ps ns cs] #[] 30 30)
    have HB2 := Lib.hid (boxes2 W #[.int .i64 k, .int .i64 t, .bool nl, .int .i64 l.k, .int .i64 l.i, .string l.s, .int .i64 lev, .int .i64 col, .int .i64 op, .slice p kids.length cap, .slice ps ns cs] #[.int .i64 k, .int .i64 t, .bool nl, .int .i64 l.k, .int .i64 l.i, .string l.s, .int .i64 lev, .int .i64 col, .int .i64 op, .slice p kids.length cap, .slice ps ns cs] 30 30)
    by_cases h3 : k = 3
    · subst h3
      rw [cnt_kid rfl] at hcnt ⊢
      have HC := Lib.hid hcnt
      have HK := Lib.hid hk
      have HI := Lib.hid ih
      have HKS := Lib.hid hks
      have HW := Lib.hid hW
      have hL : kids.length ≤ 9223372036854775807 := by omega
      have HN := Lib.hid (ownsRow_new (W.alloc (.cells #[.int .i64 3, .int .i64 t, .bool nl, .int .i64 l.k, .int .i64 l.i, .string l.s, .int .i64 lev, .int .i64 col, .int .i64 op, .slice p kids.length cap, .slice ps ns cs] 30)) W.heap.size (by simp) 30 11 0 #[] rfl (Nat.zero_le _))
      rw [World.size_alloc] at HN
      clear hk ih hks hW hcnt h1 h2 hl
      generalize hlen : kids.length = n at *
      have HL := Lib.hid hlen
      clear hlen
      simp only [Ex.v]
      go_enter Tryz.func6, Tryz.ntmps6
      go_wp2_with fail
      go_loopw [3, 19] (fun lv iv wr => ∃ (j g cp : Nat) (xs : List Value), j ≤ n ∧ iv = .int .i64 (j : Int) ∧ lv = .slice (some ⟨g, 0, none⟩) (cntL (kids.take j)) cp ∧ wr.ownsRow W.heap.size 30 11 lv (cntL (kids.take j)) xs ∧ (∀ u ∈ xs, u.oneCell' = true) ∧ Below W.heap.size W wr) (fun _ iv _ => n - (intOf iv).toNat)
      case atStart => exact ⟨0, _, _, _, Nat.zero_le _, rfl, rfl, HN.out, by simp, HB.out.1⟩
      case round =>
        obtain ⟨j, g, cp, xs, hj, rfl, rfl, hrow, hone, hbl⟩ := hrel
        have HONE := Lib.hid hone
        have HBl := Lib.hid hbl
        have HRW := Lib.hid hrow
        have hWr := hbl.size
        have hww := HW.out.size
        clear hbl hrow hone HN HB HB2
        by_cases hlt : j < n
        · have hjl : j < kids.length := by rw [HL.out]; exact hlt
          have hne : kids ≠ [] := fun h => by rw [h] at hjl; simp at hjl
          obtain ⟨b, o, rfl, hbk, hc⟩ := HK.out.resolve_left hne
          obtain ⟨y, hy⟩ : ∃ y, kids[j] = y := ⟨_, rfl⟩
          have hyj : kids[j]? = some y := by rw [List.getElem?_eq_getElem hjl, hy]
          have hmem : y ∈ kids := List.mem_of_getElem? hyj
          have hex := HKS.out y hmem
          have hif := HI.out y hmem
          have hct := cntL_take kids j hjl
          rw [hy] at hct
          have hcl := cntL_take_le kids (j + 1)
          have hcc := HC.out
          have HCT := Lib.hid hct
          have hc1 : y.cnt ≤ 1000000000 := by omega
          have hs1 : cntL (kids.take j) + y.cnt ≤ 1000000000 := by omega
          have HY := Lib.hid (hif hc1)
          clear hif hct hcl hcc
          generalize cntL (kids.take j) = m at *
          generalize hcy : y.cnt = cy at *
          obtain ⟨k', t', nl', l', lev', col', op', kv', sv', kids'⟩ := y
          obtain ⟨p', cap', ps', ns', cs', rfl, rfl⟩ := hex.slices
          obtain ⟨⟨c0, c1, c2, c3⟩, ⟨c4, c5, c6, c7⟩, c8, c9, c10⟩ := hc.at (HW.out.trans (HBl.out.mono HW.out.size)) hbk hyj
          clear hc hex
          simp only [Ex.v] at HY
          go_wp2_with (first
            | (go_at_call 6; refine (HY.out _ (HW.out.trans ((HBl.out.alloc (by omega) _).mono (by omega)))).mono ?_; rintro e w2 ⟨v2, rfl, ⟨g2, cp2, xs2, rfl, hr2, ho2⟩, hb2⟩; have HO2 := Lib.hid ho2; have HR := Lib.hid ((HBl.out.alloc (by omega) _).trans (hb2.mono (by simp; omega))); have HRW2 := Lib.hid (ownsRow_later (HRW.out.alloc _) hb2); have HN2 := Lib.hid hr2; have hl2 := hr2.1; have hsz2 := HR.out.size; clear hb2 hr2 ho2)
            | (at_builtin; refine wpList_append_own _ rfl _ _ 22 rfl W.heap.size 30 i0 (.agg #[.int .i64 0, .int .i64 0, .bool false, .int .i64 0, .int .i64 0, .string ⟨#[]⟩, .int .i64 0, .int .i64 0, .int .i64 0, .slice none 0 0, .slice none 0 0]) 11 128 Tryz.underlying22 hi hz0 hz1 hz2 rfl (by decide) _ _ _ rfl HRW2.out ⟨g2, 0, none⟩ cy cp2 xs2 rfl hl2 (HN2.out.cells rfl) HO2.out (by unfold maxLen; omega) (by omega) (by omega) ?_)
            | fail)
          intro v' w3 hown' hg3 hnil
          have HO3 := Lib.hid hown'
          have HG3 := Lib.hid hg3
          obtain ⟨g3, cp3, rfl⟩ : ∃ g3 cp3, v' = .slice (some ⟨g3, 0, none⟩) (m + cy) cp3 := by
            rcases hown'.2 with ⟨h, _⟩ | ⟨g3, cp3, cur, h, _⟩
            · exact absurd h hnil
            · exact ⟨g3, cp3, h⟩
          clear hown' hg3 hnil
          go_wp2_with fail
          go_roundw
          case rel =>
            refine ⟨j + 1, g3, cp3, xs ++ xs2, by omega, by go_num, by rw [HCT.out], by rw [HCT.out]; exact HO3.out, fun u hu => ?_, ?_⟩
            · rcases List.mem_append.1 hu with hu | hu
              · exact HONE.out u hu
              · exact HO2.out u hu
            · exact HR.out.grown HG3.out (by omega) (fun j hj => (HRW.out.lt j hj).1)
          case measure => simp [intOf]; omega
        · obtain rfl : j = n := by omega
          have hE : cntL (kids.take j) = cntL kids := by rw [List.take_of_length_le (by rw [HL.out]; omega)]
          rw [hE] at HRW ⊢
          go_wp2_with fail
          go_ret
          exact ⟨_, rfl, ⟨g, cp, xs, rfl, HRW.out, HONE.out⟩, HBl.out⟩
    · by_cases h4 : 4 ≤ k
      · have hE : (Ex.node k t nl l lev col op (.slice p kids.length cap) (.slice ps ns cs) kids).cnt = 1 := by rw [Ex.cnt, if_neg h3, if_pos h4]
        have HN := Lib.hid (ownsRow_new (W.alloc (.cells #[.int .i64 k, .int .i64 t, .bool nl, .int .i64 l.k, .int .i64 l.i, .string l.s, .int .i64 lev, .int .i64 col, .int .i64 op, .slice p kids.length cap, .slice ps ns cs] 30)) W.heap.size (by simp) 30 11 1 #[.int .i64 k, .int .i64 t, .bool nl, .int .i64 l.k, .int .i64 l.i, .string l.s, .int .i64 lev, .int .i64 col, .int .i64 op, .slice p kids.length cap, .slice ps ns cs] rfl (by decide))
        rw [World.size_alloc] at HN
        rw [hE]
        simp only [Ex.v]
        go_enter Tryz.func6, Tryz.ntmps6
        clear hE ih hk hks
        go_wp2_with fail
        go_ret
        exact ⟨_, rfl, ⟨_, _, _, rfl, HN.out, by simp [Value.oneCell']⟩, HB2.out.1⟩
      · have hE : (Ex.node k t nl l lev col op (.slice p kids.length cap) (.slice ps ns cs) kids).cnt = 0 := by rw [Ex.cnt, if_neg h3, if_neg h4]
        have HN := Lib.hid (ownsRow_new (W.alloc (.cells #[.int .i64 k, .int .i64 t, .bool nl, .int .i64 l.k, .int .i64 l.i, .string l.s, .int .i64 lev, .int .i64 col, .int .i64 op, .slice p kids.length cap, .slice ps ns cs] 30)) W.heap.size (by simp) 30 11 0 #[] rfl (Nat.zero_le _))
        rw [World.size_alloc] at HN
        rw [hE]
        have b3 : (k == 3) = false := by simpa using h3
        simp only [Ex.v]
        go_enter Tryz.func6, Tryz.ntmps6
        clear hE ih hk hks
        go_wp2_with fail
        go_ret
        exact ⟨_, rfl, ⟨_, _, _, rfl, HN.out, by simp⟩, HB.out.1⟩
end Go.Proofs.YtokbdleokihdaaaGreatDoor

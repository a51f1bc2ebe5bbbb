/- The disks of VfsPlays and their references in memory, each in blocks of its own. -/
import Derived.Test.YtcjhkonjlhpmhaaVfsStands
import Derived.Maps.AppendAt
namespace Go.Proofs.Ytcjhkonjlhpmhaa
open Go.RowKit Go.Maps

/-- A disk and its reference: their blocks, and what they hold. -/
structure Pr where
  b : Nat
  m : Nat
  r : Nat
  g : Nat
  d : Dk
def Pr.has (p : Pr) (x : Nat) : Prop := x = p.b ∨ x = p.m ∨ x = p.r ∨ x = p.g
def Pr.far (p q : Pr) : Prop := ∀ x, p.has x → ¬ q.has x
abbrev ptr (b : Nat) : Value := .pointer (some ⟨b, 0, none⟩)
structure St (w : World) (B ga gr ca cr : Nat) (ps : List Pr) : Prop where
  ra : w.ownsRow B 26 1 (.slice (some ⟨ga, 0, none⟩) ps.length ca) ps.length (ps.map fun p => ptr p.b)
  rr : w.ownsRow B 57 1 (.slice (some ⟨gr, 0, none⟩) ps.length cr) ps.length (ps.map fun p => ptr p.r)
  ne : ga ≠ gr
  both : ∀ p ∈ ps, Both w p.b p.m p.r p.g p.d
  lo : ∀ p ∈ ps, B ≤ p.b ∧ B ≤ p.m ∧ B ≤ p.r ∧ B ≤ p.g
  off : ∀ p ∈ ps, ¬ p.has ga ∧ ¬ p.has gr
  dis : ps.Pairwise Pr.far
section
variable {w w' : World} {B ga gr ca cr : Nat} {ps : List Pr}
theorem Both.of {b m r g : Nat} {d : Dk} (h : Both w b m r g d) (h1 : w'.heap[b]? = w.heap[b]?) (h2 : w'.heap[m]? = w.heap[m]?) (h3 : w'.heap[r]? = w.heap[r]?) (h4 : w'.heap[g]? = w.heap[g]?) : Both w' b m r g d :=
  ⟨h.D.of_blocks h1 (.inr h2), h.R.of h3 h4, h.br, h.bg, h.mr, h.mg⟩
theorem St.lta (h : St w B ga gr ca cr ps) : B ≤ ga ∧ ga < w.heap.size := h.ra.lt ga rfl
theorem St.ltr (h : St w B ga gr ca cr ps) : B ≤ gr ∧ gr < w.heap.size := h.rr.lt gr rfl
/-- All stays where all blocks stay. -/
theorem St.of (h : St w B ga gr ca cr ps) (hb : ∀ x, x < w.heap.size → w'.heap[x]? = w.heap[x]?) : St w' B ga gr ca cr ps :=
  ⟨row_block_kept h.ra fun k hk => hb k (h.ra.lt k hk).2, row_block_kept h.rr fun k hk => hb k (h.rr.lt k hk).2, h.ne,
    fun p hp => (h.both p hp).of (hb _ (h.both p hp).lt.1) (hb _ (h.both p hp).lt.2.1) (hb _ (h.both p hp).lt.2.2.1) (hb _ (h.both p hp).lt.2.2.2), h.lo, h.off, h.dis⟩
theorem St.below (h : St w B ga gr ca cr ps) (hb : Below w.heap.size w w') : St w' B ga gr ca cr ps := h.of hb.block
theorem far_at {k j : Nat} {p q : Pr} (h : ps.Pairwise Pr.far) (hk : ps[k]? = some p) (hj : ps[j]? = some q) (hne : k ≠ j) : p.far q := by
  obtain ⟨hk1, rfl⟩ := List.getElem?_eq_some_iff.1 hk
  obtain ⟨hj1, rfl⟩ := List.getElem?_eq_some_iff.1 hj
  rcases Nat.lt_or_gt_of_ne hne with hlt | hlt
  · exact List.pairwise_iff_getElem.1 h k j hk1 hj1 hlt
  · intro x hx hy
    exact List.pairwise_iff_getElem.1 h j k hj1 hk1 hlt x hy hx
/-- A call of one of them. -/
theorem St.step (h : St w B ga gr ca cr ps) {k : Nat} {p : Pr} (hk : ps[k]? = some p) {d' : Dk} (ho : SOut w w' p.b p.m p.r p.g d') :
    ∃ g', St w' B ga gr ca cr (ps.set k ⟨p.b, p.m, p.r, g', d'⟩) := by
  obtain ⟨g', hb, hg, hk4⟩ := ho
  have hpm : p ∈ ps := List.mem_of_getElem? hk
  have hkl : k < ps.length := (List.getElem?_eq_some_iff.1 hk).1
  have hpk : ps[k] = p := (List.getElem?_eq_some_iff.1 hk).2
  have hka := h.lta
  have hkr := h.ltr
  have hoff := h.off p hpm
  have hlo := h.lo p hpm
  have hpl := (h.both p hpm).lt
  have keep : ∀ x, x < w.heap.size → ¬ p.has x → w'.heap[x]? = w.heap[x]? := fun x hx hn => hk4.block x hx (fun e => hn (.inl e)) (fun e => hn (.inr (.inl e))) (fun e => hn (.inr (.inr (.inl e)))) (fun e => hn (.inr (.inr (.inr e))))
  have hmap1 : (ps.set k ⟨p.b, p.m, p.r, g', d'⟩).map (fun p => ptr p.b) = ps.map fun p => ptr p.b := by
    rw [List.map_set]
    exact List.set_getElem?_self' (by rw [List.getElem?_map, hk]; rfl)
  have hmap2 : (ps.set k ⟨p.b, p.m, p.r, g', d'⟩).map (fun p => ptr p.r) = ps.map fun p => ptr p.r := by
    rw [List.map_set]
    exact List.set_getElem?_self' (by rw [List.getElem?_map, hk]; rfl)
  have hlen : (ps.set k ⟨p.b, p.m, p.r, g', d'⟩).length = ps.length := List.length_set
  have hmem : ∀ q ∈ ps.set k ⟨p.b, p.m, p.r, g', d'⟩, q = ⟨p.b, p.m, p.r, g', d'⟩ ∨ ∃ j, j ≠ k ∧ ps[j]? = some q := fun q hq => by
    obtain ⟨j, hj⟩ := List.mem_iff_getElem?.1 hq
    rw [List.getElem?_set] at hj
    by_cases hjk : k = j
    · rw [if_pos hjk, if_pos hkl] at hj
      exact .inl (Option.some.inj hj).symm
    · rw [if_neg hjk] at hj
      exact .inr ⟨j, fun e => hjk e.symm, hj⟩
  -- the new block g' is p's own, or new
  have hnew : ∀ x, (⟨p.b, p.m, p.r, g', d'⟩ : Pr).has x → p.has x ∨ w.heap.size ≤ x := fun x hx => by
    rcases hx with rfl | rfl | rfl | rfl
    · exact .inl (.inl rfl)
    · exact .inl (.inr (.inl rfl))
    · exact .inl (.inr (.inr (.inl rfl)))
    · rcases hg with e | e | e
      · exact .inl (.inr (.inr (.inr e)))
      · exact .inl (.inr (.inr (.inl e)))
      · exact .inr e
  have hlt : ∀ q ∈ ps, ∀ x, q.has x → x < w.heap.size := fun q hq x hx => by
    have := (h.both q hq).lt
    rcases hx with rfl | rfl | rfl | rfl <;> omega
  refine ⟨g', ?_, ?_, h.ne, ?_, ?_, ?_, ?_⟩
  · rw [hmap1, hlen]
    exact row_block_kept h.ra fun x hx => keep x (h.ra.lt x hx).2 (by obtain rfl : ga = x := Option.some.inj hx; exact hoff.1)
  · rw [hmap2, hlen]
    exact row_block_kept h.rr fun x hx => keep x (h.rr.lt x hx).2 (by obtain rfl : gr = x := Option.some.inj hx; exact hoff.2)
  · intro q hq
    rcases hmem q hq with rfl | ⟨j, hj, hq⟩
    · exact hb
    · have hqm := List.mem_of_getElem? hq
      have hf := far_at h.dis hq hk hj
      have hql := (h.both q hqm).lt
      exact (h.both q hqm).of (keep _ hql.1 (hf _ (.inl rfl))) (keep _ hql.2.1 (hf _ (.inr (.inl rfl)))) (keep _ hql.2.2.1 (hf _ (.inr (.inr (.inl rfl))))) (keep _ hql.2.2.2 (hf _ (.inr (.inr (.inr rfl)))))
  · intro q hq
    rcases hmem q hq with rfl | ⟨j, hj, hq⟩
    · exact ⟨hlo.1, hlo.2.1, hlo.2.2.1, by show B ≤ g'; rcases hg with rfl | rfl | e <;> omega⟩
    · exact h.lo q (List.mem_of_getElem? hq)
  · intro q hq
    rcases hmem q hq with rfl | ⟨j, hj, hq⟩
    · refine ⟨fun e => ?_, fun e => ?_⟩
      · rcases hnew _ e with e | e
        · exact hoff.1 e
        · omega
      · rcases hnew _ e with e | e
        · exact hoff.2 e
        · omega
    · exact h.off q (List.mem_of_getElem? hq)
  · rw [List.pairwise_iff_getElem]
    intro i j hi hj hij
    rw [hlen] at hi hj
    have hpi := List.getElem?_eq_getElem hi
    have hpj := List.getElem?_eq_getElem hj
    rw [List.getElem_set, List.getElem_set]
    by_cases hki : k = i
    · rw [if_pos hki, if_neg (by omega)]
      intro x hx hy
      rcases hnew x hx with e | e
      · exact far_at h.dis hk hpj (by omega) x e hy
      · have := hlt _ (List.mem_of_getElem? hpj) x hy; omega
    · by_cases hkj : k = j
      · rw [if_neg hki, if_pos hkj]
        intro x hx hy
        rcases hnew x hy with e | e
        · exact far_at h.dis hpi hk (by omega) x hx e
        · have := hlt _ (List.mem_of_getElem? hpi) x hx; omega
      · rw [if_neg hki, if_neg hkj]
        exact far_at h.dis hpi hpj (by omega)
/-- A clone more. -/
theorem St.push {w1 w1' w2 w3 w3' w4 : World} (h : St w B ga gr ca cr ps) {z z1 z3 g3 ga2 ca2 gr2 cr2 : Nat} {d : Dk}
    (hb1 : Below w.heap.size w w1) (hD : DAt w1 z z1 d) (hz : w.heap.size ≤ z) (hz1 : w.heap.size ≤ z1) (hb1' : Below w1.heap.size w1 w1')
    (hr2 : w2.ownsRow B 26 1 (.slice (some ⟨ga2, 0, none⟩) (ps.length + 1) ca2) (ps.length + 1) ((ps.map fun p => ptr p.b) ++ [ptr z])) (hg2 : w1'.grownBy w2 (some ga)) (ha2 : ga2 = ga ∨ ga2 = w1'.heap.size)
    (hb3 : Below w2.heap.size w2 w3) (hR : RAt w3 z3 g3 d) (hz3 : w2.heap.size ≤ z3) (hg3 : w2.heap.size ≤ g3) (hb3' : Below w3.heap.size w3 w3')
    (hr4 : w4.ownsRow B 57 1 (.slice (some ⟨gr2, 0, none⟩) (ps.length + 1) cr2) (ps.length + 1) ((ps.map fun p => ptr p.r) ++ [ptr z3])) (hg4 : w3'.grownBy w4 (some gr)) (ha4 : gr2 = gr ∨ gr2 = w3'.heap.size) :
    St w4 B ga2 gr2 ca2 cr2 (ps ++ [⟨z, z1, z3, g3, d⟩]) := by
  have s1 := hb1.size
  have s1' := hb1'.size
  have s2 := hg2.size
  have s3 := hb3.size
  have s3' := hb3'.size
  have s4 := hg4.size
  have hka := h.lta
  have hkr := h.ltr
  have hzl := hD.lt
  have hzl1 := hD.ltm
  have hrl := hR.lt
  have hrg := hR.ltg
  have hne := hD.ne
  have up2 : ∀ x, x < w1.heap.size → x ≠ ga → w2.heap[x]? = w1.heap[x]? := fun x hx hn => (hg2.block x (by omega) (fun e => hn (Option.some.inj e))).trans (hb1'.block x hx)
  have up4 : ∀ x, x < w3.heap.size → x ≠ gr → w4.heap[x]? = w3.heap[x]? := fun x hx hn => (hg4.block x (by omega) (fun e => hn (Option.some.inj e))).trans (hb3'.block x hx)
  have up : ∀ x, x < w1.heap.size → x ≠ ga → x ≠ gr → w4.heap[x]? = w1.heap[x]? := fun x hx h1 h2 => (up4 x (by omega) h2).trans ((hb3.block x (by omega)).trans (up2 x hx h1))
  have hlt : ∀ q ∈ ps, ∀ x, q.has x → x < w.heap.size ∧ x ≠ ga ∧ x ≠ gr := fun q hq x hx => by
    have h1 := (h.both q hq).lt
    have h2 := h.off q hq
    refine ⟨by rcases hx with rfl | rfl | rfl | rfl <;> omega, fun e => h2.1 (e ▸ hx), fun e => h2.2 (e ▸ hx)⟩
  have hlow : ∀ x, (⟨z, z1, z3, g3, d⟩ : Pr).has x → w.heap.size ≤ x := fun x hx => by
    rcases hx with e | e | e | e <;> simp only at e <;> omega
  have hgr2 : ga2 < w4.heap.size := Nat.lt_of_lt_of_le (hr2.lt ga2 rfl).2 (by omega)
  have hnd : z ≠ z3 ∧ z ≠ g3 ∧ z1 ≠ z3 ∧ z1 ≠ g3 := by omega
  have hga2 : ga2 ≠ gr2 := by
    have := h.ne
    have h2 := (hr2.lt ga2 rfl).2
    rcases ha2 with e | e <;> rcases ha4 with e' | e' <;> omega
  refine ⟨?_, ?_, hga2, ?_, ?_, ?_, ?_⟩
  · have h2 := (hr2.lt ga2 rfl).2
    have := row_block_kept (w' := w4) hr2 fun x hx => by
      obtain rfl : ga2 = x := Option.some.inj hx
      have hn : ga2 ≠ gr := by
        have := h.ne
        rcases ha2 with e | e <;> omega
      exact (up4 ga2 (by omega) hn).trans (hb3.block ga2 h2)
    simpa using this
  · simpa using hr4
  · intro q hq
    rcases List.mem_append.1 hq with hq | hq
    · have hx := hlt q hq
      have hb : ∀ x, q.has x → w4.heap[x]? = w.heap[x]? := fun x hx' => (up x (by have := (hx x hx').1; omega) (hx x hx').2.1 (hx x hx').2.2).trans (hb1.block x (hx x hx').1)
      exact (h.both q hq).of (hb _ (.inl rfl)) (hb _ (.inr (.inl rfl))) (hb _ (.inr (.inr (.inl rfl)))) (hb _ (.inr (.inr (.inr rfl))))
    · obtain rfl := List.mem_singleton.1 hq
      refine ⟨hD.of_blocks (up z hzl (by omega) (by omega)) (.inr (up z1 hzl1 (by omega) (by omega))), hR.of (up4 z3 hrl (by omega)) (up4 g3 hrg.1 (by omega)), hnd.1, hnd.2.1, hnd.2.2.1, hnd.2.2.2⟩
  · intro q hq
    rcases List.mem_append.1 hq with hq | hq
    · exact h.lo q hq
    · obtain rfl := List.mem_singleton.1 hq
      exact ⟨by show B ≤ z; omega, by show B ≤ z1; omega, by show B ≤ z3; omega, by show B ≤ g3; omega⟩
  · intro q hq
    have h2 := (hr2.lt ga2 rfl).2
    rcases List.mem_append.1 hq with hq | hq
    · have hx := hlt q hq
      refine ⟨fun e => ?_, fun e => ?_⟩
      · have := hx _ e; rcases ha2 with e | e <;> omega
      · have := hx _ e; rcases ha4 with e | e <;> omega
    · obtain rfl := List.mem_singleton.1 hq
      refine ⟨fun e => ?_, fun e => ?_⟩
      · rcases e with e | e | e | e <;> simp only at e <;> rcases ha2 with e2 | e2 <;> omega
      · rcases e with e | e | e | e <;> simp only at e <;> rcases ha4 with e2 | e2 <;> omega
  · rw [List.pairwise_append]
    refine ⟨h.dis, List.pairwise_singleton _ _, fun q hq p hp => ?_⟩
    obtain rfl := List.mem_singleton.1 hp
    intro x hx hy
    have := (hlt q hq x hx).1
    have := hlow x hy
    omega
end
section
variable {P : Program}
/-- append of one pointer, and where the new row lies. -/
theorem wpList_app_at {w : World} {ops : Array Oper} {rest : List Oper} {o : Oper} {a : Act} {Q : Exit → Act → World → Prop} (hgd : o.guard = none) (s x : Operand) (t : TypeId)
    (ho : o.op = .call { callee := .builtin .append, args := #[s, x], argTypes := #[t, t] })
    (base : Nat) (e : TypeId) (i : TypeInfo) (ht : P.underlying t = some (.slice e)) (hi : P.info? e = some i) (hz : i.zero = some (.pointer none)) (hsize : i.size = 1) (hby : i.bytes = 8)
    (g n c : Nat) (xs : List Value) (hs : a.eval s = .slice (some ⟨g, 0, none⟩) n c) (hown : w.ownsRow base e 1 (.slice (some ⟨g, 0, none⟩) n c) n xs) (ad : Addr) (u : Value) (hx : a.eval x = .slice (some ad) 1 1) (hu : w.cell? ad = some u) (h1 : u.oneCell' = true)
    (hsm : n ≤ 1000) (hbase : base ≤ w.heap.size)
    (h : ∀ g' c' w', w'.ownsRow base e 1 (.slice (some ⟨g', 0, none⟩) (n + 1) c') (n + 1) (xs ++ [u]) → w.grownBy w' (some g) → (g' = g ∨ g' = w.heap.size) → wpList P ops Q rest (a.put o.dst (.slice (some ⟨g', 0, none⟩) (n + 1) c')) w') : wpList P ops Q (o :: rest) a w := by
  refine wpList_plain hgd fun K hK => ?_
  obtain ⟨v', w', hr, h2, h3, -, h5⟩ := run_append_own_at (P := P) (w := w) base t o.type e i (.pointer none) 1 8 ht hi hz hsize hby (by simp [Value.cells]) (by omega) _ n xs hown ad 1 1 [u] rfl (fun j v hj => by
    match j, hj with
    | 0, hj => rw [Option.some.inj hj] at hu; simpa [Addr.add] using hu
    | j + 1, hj => simp at hj) (fun v hv => by rw [List.mem_singleton.1 hv]; exact h1) (by unfold maxLen; omega) (by omega) hbase
  obtain ⟨g', c', hv, -, -⟩ := World.ownsRow.form h2 (by omega)
  subst hv
  have hg : g' = g ∨ g' = w.heap.size := by
    rcases h5 with e | e
    · exact .inl (Option.some.inj e)
    · exact .inr (Option.some.inj e)
  unfold Oper.wp
  simp [execOp, ho, resolve, invoke, builtin, hs, hx, hr, Result.andThen]
  exact hK _ _ (h g' c' w' h2 h3 hg)
end
theorem ptrinfo : (Try.prog.info? 26).map (fun i => (i.zero, i.size, i.bytes)) = some (some (.pointer none), 1, 8) := by kernel_rfl
theorem ptrinfo2 : (Try.prog.info? 57).map (fun i => (i.zero, i.size, i.bytes)) = some (some (.pointer none), 1, 8) := by kernel_rfl
end Go.Proofs.Ytcjhkonjlhpmhaa

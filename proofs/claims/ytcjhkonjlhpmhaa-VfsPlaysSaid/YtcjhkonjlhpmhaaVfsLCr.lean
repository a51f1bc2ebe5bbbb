/- The contract of the law's crash: the lists that are handed in stay. -/
import Derived.Test.YtcjhkonjlhpmhaaVfsR9
import Derived.Test.YtcjhkonjlhpmhaaVfsCrash
namespace Go.Proofs.Ytcjhkonjlhpmhaa
open Go.RowKit Go.Maps Go.Lib

def intCells (xs : List Int) : List Value := xs.map fun x => Value.int .i64 x
theorem IntsAt.of_row {w : World} {B b m n : Nat} {v : Value} {e : TypeId} {xs : List Int} (h : w.ownsRow B e 1 v n (intCells xs)) (hn : n = xs.length) (hb : b < B) (hm : m < B) (hl : xs.length ≤ 9223372036854775807) : IntsAt b m w v xs := by
  subst hn
  rcases h.2 with ⟨rfl, h0⟩ | ⟨g, cap, cur, rfl, hB, _⟩
  · have : xs = [] := List.length_eq_zero_iff.1 h0
    subst this
    exact ⟨none, 0, rfl, hl, .inl rfl⟩
  · refine ⟨_, cap, rfl, hl, .inr ⟨g, 0, rfl, by omega, by omega, fun j hj => ?_⟩⟩
    have h9 := h.cells (g := g) rfl j (.int .i64 (xs.getD j 0)) (by simp [intCells, List.getD_eq_getElem?_getD, hj])
    have hadd : (⟨g, 0, none⟩ : Addr).add j = ⟨g, 0 + j, none⟩ := by unfold Addr.add; split <;> simp_all
    rwa [hadd] at h9
/-- The first numbers of a slice. -/
theorem IntsAt.first {b m n c : Nat} {w : World} {p : Option Addr} {xs ys : List Int} (h : IntsAt b m w (.slice p n c) (xs ++ ys)) (k : Nat) (hk : k = xs.length) : IntsAt b m w (.slice p k c) xs := by
  subst hk
  obtain ⟨p', c', hv, hl, h2⟩ := h
  injection hv with h3 h4 h5
  subst h3 h5
  rw [List.length_append] at hl
  refine ⟨p, c, rfl, by omega, ?_⟩
  by_cases hx : xs = []
  · exact .inl hx
  · obtain ⟨g, o, rfl, h6, h7, hc⟩ := h2.resolve_left (fun e => hx (List.append_eq_nil_iff.1 e).1)
    refine .inr ⟨g, o, rfl, h6, h7, fun j hj => ?_⟩
    rw [hc j (by rw [List.length_append]; omega)]
    simp [List.getD_eq_getElem?_getD, List.getElem?_append_left hj]
theorem IntsAt.at {b m n c : Nat} {w : World} {p : Option Addr} {xs : List Int} (h : IntsAt b m w (.slice p n c) xs) {j : Nat} (hj : j < xs.length) : ∃ g o, p = some ⟨g, o, none⟩ ∧ n = xs.length ∧ w.cell? ⟨g, o + j, none⟩ = some (.int .i64 (xs.getD j 0)) := by
  obtain ⟨p', c', hv, hl, h2⟩ := h
  injection hv with h3 h4 h5
  subst h3 h5
  obtain ⟨g, o, rfl, h6, h7, hc⟩ := h2.resolve_left (fun e => by rw [e] at hj; simp at hj)
  exact ⟨g, o, rfl, h4, hc j hj⟩

section
variable {P : Program}
/-- append behind a row of the call's own, of whatever slice of numbers. -/
theorem run_app_ints {w : World} (base : Nat) (t ty e : TypeId) (i : TypeInfo) (ht : P.underlying t = some (.slice e)) (hi : P.info? e = some i) (hz : i.zero = some (.int .i64 0)) (hsize : i.size = 1) (hby : i.bytes = 8)
    (v : Value) (n : Nat) (xs : List Value) (hown : w.ownsRow base e 1 v n xs) {b m : Nat} {p : Option Addr} {k c : Nat} {ys : List Int} (hy : IntsAt b m w (.slice p k c) ys)
    (h63 : n + ys.length ≤ maxLen) (hbytes : (n + ys.length) * 8 ≤ 140737488355328) (hbase : base ≤ w.heap.size) :
    ∃ v' w', (Builtin.append_ #[t, t] ty #[v, .slice p k c]).run P w = .ok v' w' ∧ w'.ownsRow base e 1 v' (n + ys.length) (xs ++ intCells ys) ∧ w.grownBy w' v.ownBlock := by
  obtain ⟨p', c', hv, hl, h2⟩ := hy
  injection hv with h3 h4 h5
  subst h3 h4 h5
  cases p with
  | none =>
    have hy0 : ys = [] := by
      rcases h2 with h2 | ⟨g, o, h2, _⟩
      · exact h2
      · cases h2
    subst hy0
    refine ⟨v, w, ?_, by simpa [intCells] using hown, ⟨rfl, rfl, rfl, Nat.le_refl _, fun _ _ _ => rfl⟩⟩
    rcases hown.2 with ⟨rfl, rfl⟩ | ⟨g, cap, cur, rfl, _, _, hnc, _⟩
    · simp [Builtin.append_, run_underlying ht, sizeOf, typeInfo, hi, Builtin.lenOf, Builtin.firstCells]
    · simp [Builtin.append_, run_underlying ht, sizeOf, typeInfo, hi, Builtin.lenOf, Builtin.firstCells, hnc, storeCells]
  | some a =>
    have hcell : ∀ j u, (intCells ys)[j]? = some u → w.cell? (a.add j) = some u := fun j u hj => by
      have hjl : j < ys.length := by
        have := (List.getElem?_eq_some_iff.1 hj).1
        simpa [intCells] using this
      obtain ⟨g, o, h6, _, _, hc⟩ := h2.resolve_left (fun e => by rw [e] at hjl; simp at hjl)
      cases h6
      have hadd : (⟨g, o, none⟩ : Addr).add j = ⟨g, o + j, none⟩ := by unfold Addr.add; split <;> simp_all
      rw [hadd, hc j hjl]
      rw [← hj]
      simp [intCells, List.getD_eq_getElem?_getD, hjl]
    obtain ⟨v', w', h7, h8, h9, _⟩ := run_append_own (P := P) (w := w) base t ty e i (.int .i64 0) 1 8 ht hi hz hsize hby (by simp [Value.cells]) (by omega) v n xs hown a ys.length c (intCells ys) (by simp [intCells]) hcell
      (fun u hu => by obtain ⟨x, _, rfl⟩ := List.mem_map.1 hu; rfl) h63 hbytes hbase
    exact ⟨v', w', h7, h8, h9⟩
theorem wpList_app_ints {w : World} {ops : Array Oper} {rest : List Oper} {o : Oper} {a : Act} {Q : Exit → Act → World → Prop} (hgd : o.guard = none) (s x : Operand) (t : TypeId)
    (ho : o.op = .call { callee := .builtin .append, args := #[s, x], argTypes := #[t, t] })
    (base : Nat) (e : TypeId) (i : TypeInfo) (ht : P.underlying t = some (.slice e)) (hi : P.info? e = some i) (hz : i.zero = some (.int .i64 0)) (hsize : i.size = 1) (hby : i.bytes = 8)
    (v : Value) (n : Nat) (xs : List Value) (hs : a.eval s = v) (hown : w.ownsRow base e 1 v n xs) {b m : Nat} (p : Option Addr) (k c : Nat) (ys : List Int) (hx : a.eval x = .slice p k c) (hy : IntsAt b m w (.slice p k c) ys)
    (h63 : n + ys.length ≤ maxLen) (hbytes : (n + ys.length) * 8 ≤ 140737488355328) (hbase : base ≤ w.heap.size)
    (h : ∀ v' w', w'.ownsRow base e 1 v' (n + ys.length) (xs ++ intCells ys) → w.grownBy w' v.ownBlock → wpList P ops Q rest (a.put o.dst v') w') : wpList P ops Q (o :: rest) a w := by
  refine wpList_plain hgd fun K hK => ?_
  obtain ⟨v', w', hr, h2, h3⟩ := run_app_ints (P := P) (w := w) base t o.type e i ht hi hz hsize hby v n xs hown hy h63 hbytes hbase
  unfold Oper.wp
  simp [execOp, ho, resolve, invoke, builtin, hs, hx, hr, Result.andThen]
  exact hK _ _ (h v' w' h2 h3)
end
theorem intinfo : (Try.prog.info? 3).map (fun i => (i.zero, i.size, i.bytes)) = some (some (.int .i64 0), 1, 8) := by kernel_rfl

theorem owns_cap {w : World} {B : Nat} {e : TypeId} {k : Nat} {p : Option Addr} {ln c n : Nat} {xs : List Value} (h : w.ownsRow B e k (.slice p ln c) n xs) : n ≤ c := by
  rcases h.2 with ⟨hv, hn⟩ | ⟨g, cap, cur, hv, _, _, hc, _⟩
  · injection hv with _ h3 h4; omega
  · injection hv with _ h3 h4; omega
/-- Behind two appends: a list of the call's own, with one number more. -/
structure TwoRows (b m : Nat) (w : World) (kv tv : Value) (keep turn : List Int) : Prop where
  k : IntsAt b m w kv (keep ++ [-77])
  t : IntsAt b m w tv (turn ++ [-78])
set_option maxRecDepth 100000 in
set_option maxHeartbeats 16000000 in
theorem lawcrash_any {d : Dk} {w : World} {b m : Nat} (h : DAt w b m d) (hok : d.Ok) {kv tv : Value} {keep turn : List Int} (hk : IntsAt b m w kv keep) (ht : IntsAt b m w tv turn)
    (hkb : ∀ x ∈ keep, x ≤ 9223372036854775807) (htb : ∀ x ∈ turn, x ≤ 9223372036854775807) (hk8 : keep.length * 8 ≤ 140737488351232) (ht8 : turn.length * 8 ≤ 140737488351232) :
    Calls Try.prog 54 #[.pointer (some ⟨b, 0, none⟩), .agg #[kv, tv]] w fun e w' => e = .returned (.bool true) ∧ DAt w' b m (d.crash keep turn) ∧ Kp b m w w' := by
  obtain ⟨i0, hi, hz0, hz1, hz2⟩ := info_parts intinfo
  have hbw := h.lt
  have hmw := h.ltm
  have HOK := Lib.hid hok
  have HKB := Lib.hid hkb
  have HTB := Lib.hid htb
  have hB0 := (Below.refl w.heap.size w).alloc (Nat.le_refl _) (.cells #[kv, tv] 24)
  have hx0 : (w.alloc (.cells #[kv, tv] 24)).cell? ⟨w.heap.size, 0, none⟩ = some kv := by rw [World.cell?_alloc_new]; rfl
  have hx1 : (w.alloc (.cells #[kv, tv] 24)).cell? ⟨w.heap.size, 1, none⟩ = some tv := by rw [World.cell?_alloc_new]; rfl
  have hzz : w.heap.size < (w.alloc (.cells #[kv, tv] 24)).heap.size := by simp
  have HK0 := Lib.hid (hk.kept (Kp.of_below (b := b) (m := m) hB0))
  have HT0 := Lib.hid (ht.kept (Kp.of_below (b := b) (m := m) hB0))
  have HD0 := Lib.hid (show DAt _ b m d from h.below hB0)
  have HB0 := Lib.hid hB0
  obtain ⟨kp, kn, kc, rfl⟩ := hk.slice
  obtain ⟨tp, tn, tc, rfl⟩ := ht.slice
  have hkn : kn = keep.length := by obtain ⟨p, c, e, _⟩ := hk; injection e
  have htn : tn = turn.length := by obtain ⟨p, c, e, _⟩ := ht; injection e
  subst hkn htn
  clear h hok hk ht hkb htb hB0
  go_enter Try.func54, Try.ntmps54
  go_upto_region 1 with fail
  generalize w.alloc (.cells #[.slice kp keep.length kc, .slice tp turn.length tc] 24) = w0 at *
  have hl1 : (w0.alloc (.cells #[] 3)).ownsRow w0.heap.size 3 1 (.slice (some ⟨w0.heap.size, 0, none⟩) 0 0) 0 [] := World.ownsRow_lit w0 #[] 0 (Nat.le_refl _) (by unfold maxLen; omega) rfl
  have HL1 := Lib.hid hl1
  have HK1 := Lib.hid (HK0.out.kept (Kp.of_below (b := b) (m := m) ((Below.refl w0.heap.size w0).alloc (Nat.le_refl _) (.cells #[] 3))))
  clear hl1
  have hS := fun (b m : Nat) (xs : List Int) (c : Int) (w : World) (B n : Nat) (v : Value) (h : w.ownsRow B 3 1 v n (intCells xs ++ [.int .i64 c])) (hn : n = (xs ++ [c]).length) (hb : b < B) (hm : m < B) (hl : (xs ++ [c]).length ≤ 9223372036854775807) =>
    IntsAt.of_row (b := b) (m := m) (xs := xs ++ [c]) (by rw [show intCells (xs ++ [c]) = intCells xs ++ [.int .i64 c] by simp [intCells]]; exact h) hn hb hm hl
  have HS := Lib.hid hS
  clear hS
  go_upto_region 2 with (first
    | (at_builtin; refine wpList_app_ints (o := ⟨some 15, _, _, _, _, _⟩) rfl _ _ 22 rfl w0.heap.size 3 i0 Try.underlying22 hi hz0 hz1 hz2 _ _ _ rfl HL1.out kp keep.length kc keep rfl HK1.out (by unfold maxLen; omega) (by omega) (by simp) ?_; intro v1 w1 hown1 hg1; have HO1 := Lib.hid hown1; have HG1 := Lib.hid hg1; (have hz1' : w0.heap.size < w1.heap.size := by (have h9 := hg1.size; simp at h9; omega)); obtain ⟨v1p, v1n, v1c, hv1⟩ := owns_slice hown1; subst hv1; clear hown1 hg1; go_frame)
    | (at_builtin; refine wpList_append_own (o := ⟨some 17, _, _, _, _, _⟩) _ rfl _ _ 22 rfl w0.heap.size 3 i0 (.int .i64 0) 1 8 Try.underlying22 hi hz0 hz1 hz2 rfl (by decide) _ _ _ rfl (HO1.out.alloc _) ⟨w1.heap.size, 0, none⟩ 1 1 [.int .i64 (-77)] rfl rfl (cell_one_new _ _ _) (by simp [Value.oneCell']) (by unfold maxLen; omega) (by omega) (by simp; omega) ?_; intro v2 w2 hown2 hg2 _; have HO2 := Lib.hid hown2; have HG2 := Lib.hid hg2; obtain ⟨v2p, v2n, v2c, hv2⟩ := owns_slice hown2; subst hv2; clear hown2 hg2; go_frame)
    | fail)
  have hA := HL1.out.lt w0.heap.size rfl
  have hB1 : Below w0.heap.size w0 w1 := ((Below.refl w0.heap.size w0).alloc (Nat.le_refl _) _).grown HG1.out (by simp) (fun j hj => by have h9 : w0.heap.size = j := Option.some.inj hj; omega)
  have hB2 : Below w0.heap.size w0 w2 := (hB1.alloc (by omega) _).grown HG2.out (by simp; omega) (fun j hj => (HO1.out.lt j hj).1)
  have hz2' : w1.heap.size < w2.heap.size := by
    have h9 := HG2.out.size
    simp at h9
    omega
  have hzw2 : w.heap.size < w2.heap.size := by omega
  have HR2 := Lib.hid (HS.out b m keep (-77) w2 w0.heap.size _ _ (by simpa using HO2.out) (by simp) (by omega) (by omega) (by simp; omega))
  have HT2 := Lib.hid (HT0.out.kept (Kp.of_below (b := b) (m := m) hB2))
  have hx2 : w2.cell? ⟨w.heap.size, 1, none⟩ = some (.slice tp turn.length tc) := by rw [hB2.cell (p := ⟨w.heap.size, 1, none⟩) hzz]; exact hx1
  have hy2 : w2.cell? ⟨w.heap.size, 0, none⟩ = some (.slice kp keep.length kc) := by rw [hB2.cell (p := ⟨w.heap.size, 0, none⟩) hzz]; exact hx0
  have HB2 := Lib.hid hB2
  have hn2 : v2n = keep.length + 1 := by obtain ⟨p, c, e, _⟩ := HR2.out; injection e with _ e _; simpa using e
  subst hn2
  have hc2 := owns_cap HO2.out
  clear hA hB1 hB2 hx0 hx1 HG1 HO1 HG2 HO2 HL1 HK1 HT0
  have hl2 : (w2.alloc (.cells #[] 3)).ownsRow w2.heap.size 3 1 (.slice (some ⟨w2.heap.size, 0, none⟩) 0 0) 0 [] := World.ownsRow_lit w2 #[] 0 (Nat.le_refl _) (by unfold maxLen; omega) rfl
  have HL2 := Lib.hid hl2
  have HK2 := Lib.hid (HT2.out.kept (Kp.of_below (b := b) (m := m) ((Below.refl w2.heap.size w2).alloc (Nat.le_refl _) (.cells #[] 3))))
  clear hl2
  go_upto_region 3 with (first
    | (at_builtin; refine wpList_app_ints (o := ⟨some 21, _, _, _, _, _⟩) rfl _ _ 22 rfl w2.heap.size 3 i0 Try.underlying22 hi hz0 hz1 hz2 _ _ _ rfl HL2.out tp turn.length tc turn rfl HK2.out (by unfold maxLen; omega) (by omega) (by simp) ?_; intro v3 w3 hown1 hg1; have HO1 := Lib.hid hown1; have HG1 := Lib.hid hg1; (have hz3' : w2.heap.size < w3.heap.size := by (have h9 := hg1.size; simp at h9; omega)); obtain ⟨v3p, v3n, v3c, hv1⟩ := owns_slice hown1; subst hv1; clear hown1 hg1; go_frame)
    | (at_builtin; refine wpList_append_own (o := ⟨some 23, _, _, _, _, _⟩) _ rfl _ _ 22 rfl w2.heap.size 3 i0 (.int .i64 0) 1 8 Try.underlying22 hi hz0 hz1 hz2 rfl (by decide) _ _ _ rfl (HO1.out.alloc _) ⟨w3.heap.size, 0, none⟩ 1 1 [.int .i64 (-78)] rfl rfl (cell_one_new _ _ _) (by simp [Value.oneCell']) (by unfold maxLen; omega) (by omega) (by simp; omega) ?_; intro v4 w4 hown2 hg2 _; have HO2 := Lib.hid hown2; have HG2 := Lib.hid hg2; obtain ⟨v4p, v4n, v4c, hv2⟩ := owns_slice hown2; subst hv2; clear hown2 hg2; go_frame)
    | fail)
  have hB1 : Below w2.heap.size w2 w3 := ((Below.refl w2.heap.size w2).alloc (Nat.le_refl _) _).grown HG1.out (by simp) (fun j hj => by have h9 : w2.heap.size = j := Option.some.inj hj; omega)
  have hB2 : Below w2.heap.size w2 w4 := (hB1.alloc (by omega) _).grown HG2.out (by simp; omega) (fun j hj => (HO1.out.lt j hj).1)
  have hz4' : w3.heap.size < w4.heap.size := by
    have h9 := HG2.out.size
    simp at h9
    omega
  have HR4 := Lib.hid (HS.out b m turn (-78) w4 w2.heap.size _ _ (by simpa using HO2.out) (by simp) (by omega) (by omega) (by simp; omega))
  have HQ4 := Lib.hid (HR2.out.kept (Kp.of_below (b := b) (m := m) hB2))
  have HK4 := Lib.hid (HK0.out.kept (Kp.of_below (b := b) (m := m) (HB2.out.trans (hB2.mono (by omega)))))
  have HT4 := Lib.hid (HT2.out.kept (Kp.of_below (b := b) (m := m) hB2))
  have hx4 : w4.cell? ⟨w.heap.size, 1, none⟩ = some (.slice tp turn.length tc) := by rw [hB2.cell (p := ⟨w.heap.size, 1, none⟩) (by show w.heap.size < _; omega)]; exact hx2
  have hy4 : w4.cell? ⟨w.heap.size, 0, none⟩ = some (.slice kp keep.length kc) := by rw [hB2.cell (p := ⟨w.heap.size, 0, none⟩) (by show w.heap.size < _; omega)]; exact hy2
  have HB4 := Lib.hid (HB0.out.trans ((HB2.out.trans (hB2.mono (by omega))).mono (by omega)))
  have HD4 := Lib.hid (show DAt w4 b m d from HD0.out.below (HB2.out.trans (hB2.mono (by omega))))
  have hn4 : v4n = turn.length + 1 := by obtain ⟨p, c, e, _⟩ := HR4.out; injection e with _ e _; simpa using e
  subst hn4
  have hz4 : w.heap.size < w4.heap.size := by omega
  have hc4 := owns_cap HO2.out
  clear hB1 hB2 hx2 hy2 HG1 HO1 HG2 HO2 HL2 HK2 HR2 HT2 HD0 HB0 HB2 HK0 hzz hz1' hz2' hz3' hz4'
  obtain ⟨g2, o2, rfl, -, -⟩ := HQ4.out.at (j := 0) (by simp)
  obtain ⟨g4, o4, rfl, -, -⟩ := HR4.out.at (j := 0) (by simp)
  have hcap2 : keep.length ≤ v2c := by omega
  have hcap4 : turn.length ≤ v4c := by omega
  have hi2 : (keep.length : Int) ≤ (v2c : Int) := by omega
  have hi4 : (turn.length : Int) ≤ (v4c : Int) := by omega
  have hp2 : (0 : Int) ≤ (keep.length : Int) := by omega
  have hp4 : (0 : Int) ≤ (turn.length : Int) := by omega
  go_still_tail 12, (by kernel_rfl)
  change wpList _ _ _ _ _ w4.drew
  have HQ5 := Lib.hid (HQ4.out.kept (Kp.of_below (b := b) (m := m) (Below.refl w4.heap.size w4).drew))
  have HR5 := Lib.hid (HR4.out.kept (Kp.of_below (b := b) (m := m) (Below.refl w4.heap.size w4).drew))
  have HK5 := Lib.hid (HK4.out.kept (Kp.of_below (b := b) (m := m) (Below.refl w4.heap.size w4).drew))
  have HT5 := Lib.hid (HT4.out.kept (Kp.of_below (b := b) (m := m) (Below.refl w4.heap.size w4).drew))
  have HD5 := Lib.hid (show DAt w4.drew b m d from HD4.out.drew)
  have HB5 := Lib.hid HB4.out.drew
  have hz5 : w.heap.size < w4.drew.heap.size := hz4
  have hx5 : w4.drew.cell? ⟨w.heap.size, 1, none⟩ = some (.slice tp turn.length tc) := hx4
  have hy5 : w4.drew.cell? ⟨w.heap.size, 0, none⟩ = some (.slice kp keep.length kc) := hy4
  clear HQ4 HR4 HK4 HT4 HD4 HB4 hz4 hx4 hy4
  generalize w4.drew = w5 at *
  have HCR := Lib.hid (crash_any HD5.out HOK.out (HQ5.out.first keep.length rfl) (HR5.out.first turn.length rfl) HKB.out HTB.out)
  go_wp2_with fail
  refine HCR.out.mono ?_
  rintro e w6 ⟨rfl, hd6, hk6⟩
  have HD6 := Lib.hid hd6
  have HQ6 := Lib.hid (HQ5.out.kept hk6)
  have HR6 := Lib.hid (HR5.out.kept hk6)
  have HK6 := Lib.hid (HK5.out.kept hk6)
  have HT6 := Lib.hid (HT5.out.kept hk6)
  have hx6 : w6.cell? ⟨w.heap.size, 1, none⟩ = some (.slice tp turn.length tc) := by rw [hk6.cell hz5 (by omega) (by omega)]; exact hx5
  have hy6 : w6.cell? ⟨w.heap.size, 0, none⟩ = some (.slice kp keep.length kc) := by rw [hk6.cell hz5 (by omega) (by omega)]; exact hy5
  have HKP := Lib.hid ((Kp.of_below (b := b) (m := m) HB5.out).trans hk6)
  obtain ⟨g2', o2', hp, -, hq2⟩ := HQ6.out.at (j := keep.length) (by simp)
  cases hp
  obtain ⟨g4', o4', hp, -, hq4⟩ := HR6.out.at (j := turn.length) (by simp)
  cases hp
  have hg77 : (keep ++ [-77]).getD keep.length 0 = -77 := by simp [List.getD_eq_getElem?_getD]
  have hg78 : (turn ++ [-78]).getD turn.length 0 = -78 := by simp [List.getD_eq_getElem?_getD]
  rw [hg77] at hq2
  rw [hg78] at hq4
  have hn2 : (keep.length : Int) < ((keep.length + 1 : Nat) : Int) := by omega
  have hn4 : (turn.length : Int) < ((turn.length + 1 : Nat) : Int) := by omega
  clear hd6 hk6 HQ5 HR5 HK5 HT5 HD5 HB5 hx5 hy5 HCR hg77 hg78 HS hi2 hi4 hz5
  go_wp2_with fail
  go_loopw [7, 56] (fun okv iv wr => ∃ i : Nat, i ≤ keep.length ∧ iv = .int .i64 (i : Int) ∧ okv = .bool true ∧ w6 = wr) (fun _ iv _ => keep.length - (intOf iv).toNat)
  case atStart => exact ⟨0, Nat.zero_le _, rfl, rfl, rfl⟩
  case round =>
    obtain ⟨i, hi, rfl, rfl, rfl⟩ := hrel
    by_cases hlt : i < keep.length
    · obtain ⟨gs, os, hp, -, hs⟩ := HK6.out.at hlt
      obtain ⟨gr, or, hp2, -, hr⟩ := HQ6.out.at (j := i) (by simp; omega)
      cases hp2
      subst hp
      have hgd : (keep ++ [-77] : List Int).getD i 0 = keep.getD i 0 := by simp [List.getD_eq_getElem?_getD, List.getElem?_append_left hlt]
      rw [hgd] at hr
      clear hgd
      generalize keep.getD i 0 = x at *
      have hi1 : (i : Int) < ((keep.length + 1 : Nat) : Int) := by omega
      go_wp2_with fail
      go_roundw
      case rel => exact ⟨i + 1, by omega, by go_num, rfl, trivial⟩
      case measure => simp [intOf]; omega
    · obtain rfl : i = keep.length := by omega
      go_wp2_with fail
      go_loopw [7, 74] (fun okv iv wr => ∃ i : Nat, i ≤ turn.length ∧ iv = .int .i64 (i : Int) ∧ okv = .bool true ∧ w6 = wr) (fun _ iv _ => turn.length - (intOf iv).toNat)
      case atStart => exact ⟨0, Nat.zero_le _, rfl, rfl, rfl⟩
      case round =>
        obtain ⟨i2, hi2, rfl, rfl, rfl⟩ := hrel
        by_cases hlt2 : i2 < turn.length
        · obtain ⟨gs, os, hp, -, hs⟩ := HT6.out.at hlt2
          obtain ⟨gr, or, hp2, -, hr⟩ := HR6.out.at (j := i2) (by simp; omega)
          cases hp2
          subst hp
          have hgd : (turn ++ [-78] : List Int).getD i2 0 = turn.getD i2 0 := by simp [List.getD_eq_getElem?_getD, List.getElem?_append_left hlt2]
          rw [hgd] at hr
          clear hgd
          generalize turn.getD i2 0 = x at *
          have hi1 : (i2 : Int) < ((turn.length + 1 : Nat) : Int) := by omega
          go_wp2_with fail
          go_roundw
          case rel => exact ⟨i2 + 1, by omega, by go_num, rfl, trivial⟩
          case measure => simp [intOf]; omega
        · obtain rfl : i2 = turn.length := by omega
          go_wp2_with fail
          go_ret
          exact ⟨rfl, HD6.out, HKP.out⟩
end Go.Proofs.Ytcjhkonjlhpmhaa

/- The contract of eval.value, by induction. The contract of eval.Value. Every value of an expression that may be is one that may be. What the laws of expressions make: literals, operators; blocks of cells. Plain laws of EvalLazy: what its expressions are worth. Plain laws of EvalParts: an operator on expressions is the operator on their values. -/
import Derived.Test.YtokbdleokihdaaaGreatDoorG25
import Derived.Test.YtokbdleokihdaaaGreatDoorG26
import Derived.Test.YtokbdleokihdaaaGreatDoorG24
import Derived.Test.YtokbdleokihdaaaGreatDoorG08
namespace Go.Proofs.YtokbdleokihdaaaGreatDoor
open Go.RowKit

theorem shortF_other {op : Int} (h1 : ¬ op = 13) (h2 : ¬ op = 14) (d : Dt) : shortF op d = false := by
  have b13 : (op == 13) = false := by simpa using h1
  have b14 : (op == 14) = false := by simpa using h2
  unfold shortF
  rw [b13, b14]; rfl
theorem strict_other {op : Int} (h1 : ¬ op = 13) (h2 : ¬ op = 14) : ∀ (rs : List (Dt × Int)) (acc : List Dt), strictF op acc rs = applyF op acc rs
  | [], acc => by rw [strictF, applyF]
  | r :: rest, acc => by
    rw [strictF, applyF]
    split
    · rfl
    · rw [if_neg (by rw [shortF_other h1 h2]; simp)]
      exact strict_other h1 h2 rest _
theorem cnt_le_cntL : ∀ (ks : List Ex) (x : Ex), x ∈ ks → x.cnt ≤ cntL ks
  | y :: ks, x, h => by
    unfold cntL
    rcases List.mem_cons.1 h with rfl | h
    · omega
    · have := cnt_le_cntL ks x h; omega
theorem many_le (op : Int) : manyF op ≤ 2 := by unfold manyF; split; decide; split <;> decide

set_option maxRecDepth 100000 in
set_option maxHeartbeats 4000000 in
theorem value_all {w : World} {x : Ex} (hx : ExAt w x) (env : List (List Dt)) (pe : Option Addr) (ne ce : Nat) (hE : EnvS w (.slice pe ne ce) env) (hT : Tabs w) (henv : ∀ r ∈ env, ∀ d ∈ r, In64d d) : x.cnt ≤ 1000000000 → VC w env (.slice pe ne ce) x := by
  induction hx with
  | @mk k t nl l lev col op kids p cap ps ns cs h1 h2 hk hl hks ih =>
    intro hcnt hr subs hsub hv W vs hW hS
    obtain ⟨pv, cv, rfl, hs1, hs2, hs3, hs4⟩ := id hS
    obtain ⟨hb0, hbz, hbc⟩ := box11 W #[.int .i64 k, .int .i64 t, .bool nl, .int .i64 l.k, .int .i64 l.i, .string l.s, .int .i64 lev, .int .i64 col, .int .i64 op, .slice p kids.length cap, .slice ps ns cs] 30
    have HB := Lib.hid hb0
    by_cases hk1 : k = 1
    · subst hk1
      have HV := Lib.hid (show resV ((Ex.node 1 t nl l lev col op (.slice p kids.length cap) (.slice ps ns cs) kids).val env subs) = .iface 27 (.agg #[.int .i64 l.k, .int .i64 l.i, .string l.s]) by rw [Ex.val, if_pos rfl]; rfl)
      simp only [Ex.v]
      clear hk hks ih hW hb0 hbc hr hcnt hsub hv hs3 hs4 hS hE henv
      go_enter Tryz.func17, Tryz.ntmps17
      go_wp2_with fail
      go_ret
      exact ⟨congrArg Ending.returned HV.out.symm, HB.out⟩
    · by_cases hk2 : k = 2
      · subst hk2
        have hco : colOk env lev col = true := by rw [Ex.right, if_neg (by decide), if_pos rfl] at hr; exact hr
        have HV := Lib.hid (show resV ((Ex.node 2 t nl l lev col op (.slice p kids.length cap) (.slice ps ns cs) kids).val env subs) = .iface 27 (dnth (env.getD lev.toNat []) col.toNat).v by rw [Ex.val, if_neg (by decide), if_pos rfl]; rfl)
        unfold colOk at hco
        simp only [Bool.and_eq_true, decide_eq_true_eq] at hco
        obtain ⟨⟨⟨⟨a1, a2⟩, a3⟩, a4⟩, -⟩ := hco
        obtain ⟨eb, eo, rp, ce', rc, hev, heb, hrow, hrd⟩ := hE.row hW a1 a2
        obtain ⟨db, dof, dc, hdv, hdb, d0, d1, d2⟩ := hrd.at a3 a4
        obtain ⟨rfl, rfl, rfl⟩ : pe = some ⟨eb, eo, none⟩ ∧ ne = env.length ∧ ce = ce' := by injection hev with a b c; exact ⟨a, b, c⟩
        obtain ⟨rfl, rfl⟩ : rp = some ⟨db, dof, none⟩ ∧ rc = dc := by injection hdv with a _ b; exact ⟨a, b⟩
        have e0 := (HB.out.cell (p := ⟨eb, eo + lev.toNat, none⟩) heb).trans hrow
        have e1 := (HB.out.cell (p := ⟨db, dof + col.toNat * 3, none⟩) hdb).trans d0
        have e2 := (HB.out.cell (p := ⟨db, dof + col.toNat * 3 + 1, none⟩) hdb).trans d1
        have e3 := (HB.out.cell (p := ⟨db, dof + col.toNat * 3 + 2, none⟩) hdb).trans d2
        have c6 := hbc 6
        have c7 := hbc 7
        simp only [List.getElem?_toArray, List.getElem?_cons_succ, List.getElem?_cons_zero] at c6 c7
        generalize dnth (env.getD lev.toNat []) col.toNat = dd at *
        obtain ⟨dk, di, dss⟩ := dd
        generalize (env.getD lev.toNat []) = rw at *
        simp only [Ex.v]
        clear hk hks ih hW hb0 hbc hr hcnt hsub hv hs3 hs4 hS hE henv hrow hrd d0 d1 d2
        go_enter Tryz.func17, Tryz.ntmps17
        go_wp2_with fail
        generalize (W.alloc (.cells #[.int .i64 2, .int .i64 t, .bool nl, .int .i64 l.k, .int .i64 l.i, .string l.s, .int .i64 lev, .int .i64 col, .int .i64 op, .slice p kids.length cap, .slice ps ns cs] 30)) = W0 at *
        go_quiet (fail)
        go_wp2_with fail
        go_ret
        exact ⟨congrArg Ending.returned HV.out.symm, HB.out.trans ((below_drewN _).mono (by omega))⟩
      · by_cases hk3 : k = 3
        · subst hk3
          have hr2 : (rightL env kids && kidsOk op kids.length) = true := by rw [Ex.right, if_neg (by decide), if_neg (by decide), if_pos rfl] at hr; exact hr
          rw [Bool.and_eq_true] at hr2
          obtain ⟨hrl, hko⟩ := hr2
          rw [cnt_kid rfl] at hcnt hsub
          have hVC : ∀ y ∈ kids, VC w env (.slice pe ne ce) y := fun y hy => ih y hy (Nat.le_trans (cnt_le_cntL kids y hy) hcnt)
          have hVok : ∀ r ∈ valL env kids subs, Vok r.1 := valL_mem env (P := fun r => Vok r.1) kids subs fun y hy n =>
            vok_val (hks y hy) env henv ((rightL_iff env kids).1 hrl y hy) _ (fun d hd => hv d (List.mem_of_mem_drop hd))
          have hval : (Ex.node 3 t nl l lev col op (.slice p kids.length cap) (.slice ps ns cs) kids).val env subs = callF op (valL env kids subs) := by rw [Ex.val, if_neg (by decide), if_neg (by decide), if_pos rfl]
          have hW1 := hW.trans (HB.out.mono hW.size)
          have hS1 := hS.later HB.out
          obtain ⟨W1, hW1e⟩ : ∃ W1, W1 = (W.alloc (.cells #[.int .i64 3, .int .i64 t, .bool nl, .int .i64 l.k, .int .i64 l.i, .string l.s, .int .i64 lev, .int .i64 col, .int .i64 op, .slice p kids.length cap, .slice ps ns cs] 30)) := ⟨_, rfl⟩
          rw [← hW1e] at hW1 hS1
          have hKid := fun w0 v hL => kid_walk (w := w) (k := 3) (t := t) (nl := nl) (l := l) (lev := lev) (col := col) (op := op) (p := p) (cap := cap) (ps := ps) (ns := ns) (cs := cs) (kids := kids) (pe := pe) (ne := ne) (ce := ce) (vs := .slice pv subs.length cv) (v := v) (W := W1) (w0 := w0) h1 h2 hk hks hW1 env subs hrl hsub hv hS1 hVC hL
          have hlen := valL_length env kids subs
          have HC : Hid (Calls Tryz.prog 31 #[.agg #[.int .i64 3, .int .i64 t, .bool nl, .int .i64 l.k, .int .i64 l.i, .string l.s, .int .i64 lev, .int .i64 col, .int .i64 op, .slice p kids.length cap, .slice ps ns cs], .slice pe ne ce, .slice pv subs.length cv] W1 fun e w' => e = .returned (resV (callF op (valL env kids subs))) ∧ Below W1.heap.size W1 w') := by
            show Calls _ _ _ _ _
            by_cases o16 : op = 16
            · subst o16
              exact call_case 3 t nl l lev col p cap ps ns cs kids pe ne ce pv _ cv W1 h1 h2 hk hks hcnt hW1 hT _ hlen hVok hKid
            · by_cases o17 : op = 17
              · subst o17
                exact call_coal 3 t nl l lev col p cap ps ns cs kids pe ne ce pv _ cv W1 h1 h2 hk hks hcnt hW1 hT _ hlen hVok hKid
              · have hcf : callF op (valL env kids subs) = strictF op [] (valL env kids subs) := by rw [callF, if_neg o16, if_neg o17]
                rw [hcf]
                unfold kidsOk at hko
                rw [if_neg o16, if_neg o17, Bool.and_eq_true, decide_eq_true_eq, decide_eq_true_eq] at hko
                obtain ⟨hn0, hnm⟩ := hko
                have hm2 := many_le op
                by_cases o13 : op = 13
                · subst o13
                  have hn2 : (valL env kids subs).length = 2 := by rw [hlen]; have : manyF 13 = 2 := rfl; omega
                  match hrs : valL env kids subs, hn2 with
                  | [r0, r1], _ =>
                    rw [hrs] at hlen hVok hKid
                    exact call_and 3 t nl l lev col p cap ps ns cs kids pe ne ce pv _ cv W1 h1 h2 hk hks hcnt hW1 hT _ hlen hVok r0 r1 rfl hKid
                · by_cases o14 : op = 14
                  · subst o14
                    have hn2 : (valL env kids subs).length = 2 := by rw [hlen]; have : manyF 14 = 2 := rfl; omega
                    match hrs : valL env kids subs, hn2 with
                    | [r0, r1], _ =>
                      rw [hrs] at hlen hVok hKid
                      exact call_or 3 t nl l lev col p cap ps ns cs kids pe ne ce pv _ cv W1 h1 h2 hk hks hcnt hW1 hT _ hlen hVok r0 r1 rfl hKid
                  · rw [strict_other o13 o14]
                    exact call_oth 3 t nl l lev col op p cap ps ns cs kids pe ne ce pv _ cv W1 h1 h2 hk hks hcnt hW1 hT _ hlen hVok o13 o14 o16 o17 (by omega) hn0 hKid
          subst hW1e
          have HV := Lib.hid (congrArg resV hval)
          simp only [Ex.v]
          have hzz : W.heap.size ≤ (W.alloc (.cells #[.int .i64 3, .int .i64 t, .bool nl, .int .i64 l.k, .int .i64 l.i, .string l.s, .int .i64 lev, .int .i64 col, .int .i64 op, .slice p kids.length cap, .slice ps ns cs] 30)).heap.size := by omega
          clear hk hks ih hb0 hbc hr hcnt hsub hv hs3 hs4 hS hVC hVok hval hKid hlen hrl hko hW1 hS1
          go_enter Tryz.func17, Tryz.ntmps17
          go_wp2_with (first | (go_at_call 31; refine HC.out.mono ?_; rintro e w2 ⟨rfl, hb2⟩; have HB2 := Lib.hid (HB.out.trans (hb2.mono hzz)); clear hb2) | fail)
          go_ret
          exact ⟨congrArg Ending.returned HV.out.symm, HB2.out⟩
        · have h4 : 4 ≤ k := by
            rw [Ex.right, if_neg hk1, if_neg hk2, if_neg hk3, Bool.and_eq_true, decide_eq_true_eq] at hr
            exact hr.1
          have HV := Lib.hid (show resV ((Ex.node k t nl l lev col op (.slice p kids.length cap) (.slice ps ns cs) kids).val env subs) = .iface 27 (dnth subs 0).v by rw [Ex.val, if_neg hk1, if_neg hk2, if_neg hk3, if_pos h4]; rfl)
          have hn1 : 1 ≤ subs.length := by rw [Ex.cnt, if_neg hk3, if_pos h4] at hsub; exact hsub
          have hne : subs ≠ [] := fun h => by rw [h] at hn1; simp at hn1
          obtain ⟨db, dof, rfl, hdb, hdc⟩ := hs3.resolve_left hne
          obtain ⟨d0, d1, d2⟩ := hdc 0 (by omega)
          have e1 := (HB.out.cell (p := ⟨db, dof + 0 * 3, none⟩) hdb).trans d0
          have e2 := (HB.out.cell (p := ⟨db, dof + 0 * 3 + 1, none⟩) hdb).trans d1
          have e3 := (HB.out.cell (p := ⟨db, dof + 0 * 3 + 2, none⟩) hdb).trans d2
          simp only [Nat.zero_mul, Nat.add_zero] at e1 e2 e3
          have b1 : (k == 1) = false := by simpa using hk1
          have b2 : (k == 2) = false := by simpa using hk2
          have b3 : (k == 3) = false := by simpa using hk3
          have hpos : (0 : Int) < (subs.length : Int) := by omega
          generalize dnth subs 0 = dd at *
          obtain ⟨dk, di, dss⟩ := dd
          simp only [Ex.v]
          clear hk hks ih hb0 hbc hr hcnt hsub hv hs4 hS hE henv hdc d0 d1 d2 hk1 hk2 hk3 hW
          go_enter Tryz.func17, Tryz.ntmps17
          go_wp2_with fail
          go_ret
          exact ⟨congrArg Ending.returned HV.out.symm, HB.out⟩
end Go.Proofs.YtokbdleokihdaaaGreatDoor
namespace Go.Proofs.YtokbdleokihdaaaGreatDoor
open Go.RowKit

/-- What Value answers. -/
def valueF (x : Ex) (env : List (List Dt)) (subs : List Dt) : Dt × Int :=
  if x.right env = true ∧ x.cnt = subs.length ∧ (∀ d ∈ subs, rightD d = true) then (if (x.val env subs).2 = 0 then ((x.val env subs).1, 0) else (Dt.zero, (x.val env subs).2)) else (Dt.zero, 1)
/-- Two boxes: an expression's cells, and a result. -/
structure VB (W : World) (xs : Array Value) (w' : World) : Prop where
  b : Below W.heap.size W w'
  n : W.heap.size + 2 ≤ w'.heap.size
  e : ∀ i, w'.cell? ⟨W.heap.size, i, none⟩ = xs[i]?
  r : w'.cell? ⟨W.heap.size + 1, 0, none⟩ = some (.int .i64 0) ∧ w'.cell? ⟨W.heap.size + 1, 1, none⟩ = some (.int .i64 0) ∧ w'.cell? ⟨W.heap.size + 1, 2, none⟩ = some (.string ⟨#[]⟩)
  f : ∀ i, w'.frozen? ⟨W.heap.size + 1, i, none⟩ = false
theorem VB.below {W : World} {xs : Array Value} {w1 w2 : World} (h : VB W xs w1) (hb : Below w1.heap.size w1 w2) : VB W xs w2 := by
  have hn := h.n
  have hc : ∀ i, w2.cell? ⟨W.heap.size + 1, i, none⟩ = w1.cell? ⟨W.heap.size + 1, i, none⟩ := fun i => hb.cell (p := ⟨W.heap.size + 1, i, none⟩) (by show W.heap.size + 1 < _; omega)
  refine ⟨h.b.trans (hb.mono (by omega)), by have := hb.size; omega, fun i => ?_, by rw [hc, hc, hc]; exact h.r, fun i => ?_⟩
  · rw [hb.cell (p := ⟨W.heap.size, i, none⟩) (by show W.heap.size < _; omega)]; exact h.e i
  · rw [hb.frozen (p := ⟨W.heap.size + 1, i, none⟩) (by show W.heap.size + 1 < _; omega)]; exact h.f i
theorem VB.n1 {W : World} {xs : Array Value} {w' : World} (h : VB W xs w') : W.heap.size + 1 < w'.heap.size := by have := h.n; omega
theorem VB.cells {W w' : World} {a0 a1 a2 a3 a4 a5 a6 a7 a8 a9 a10 : Value} (h : VB W #[a0, a1, a2, a3, a4, a5, a6, a7, a8, a9, a10] w') :
    (w'.cell? ⟨W.heap.size, 0, none⟩ = some a0 ∧ w'.cell? ⟨W.heap.size, 1, none⟩ = some a1 ∧ w'.cell? ⟨W.heap.size, 2, none⟩ = some a2 ∧ w'.cell? ⟨W.heap.size, 3, none⟩ = some a3) ∧
    (w'.cell? ⟨W.heap.size, 4, none⟩ = some a4 ∧ w'.cell? ⟨W.heap.size, 5, none⟩ = some a5 ∧ w'.cell? ⟨W.heap.size, 6, none⟩ = some a6 ∧ w'.cell? ⟨W.heap.size, 7, none⟩ = some a7) ∧
    w'.cell? ⟨W.heap.size, 8, none⟩ = some a8 ∧ w'.cell? ⟨W.heap.size, 9, none⟩ = some a9 ∧ w'.cell? ⟨W.heap.size, 10, none⟩ = some a10 := by
  refine ⟨⟨?_, ?_, ?_, ?_⟩, ⟨?_, ?_, ?_, ?_⟩, ?_, ?_, ?_⟩ <;> rw [h.e] <;> rfl
theorem VB.new (W : World) (xs : Array Value) (t u : TypeId) : VB W xs ((W.alloc (.cells xs t)).alloc (.cells #[.int .i64 0, .int .i64 0, .string ⟨#[]⟩] u)) := by
  obtain ⟨h1, h2, h3, h4⟩ := boxes2 W xs #[.int .i64 0, .int .i64 0, .string ⟨#[]⟩] t u
  exact ⟨h1, by omega, h3, ⟨by rw [h4]; rfl, by rw [h4]; rfl, by rw [h4]; rfl⟩, fun i => World.frozen?_alloc_at _ _ _ _ (by simp)⟩

set_option maxRecDepth 100000 in
set_option maxHeartbeats 8000000 in
theorem evValue_any {w : World} {x : Ex} (hx : ExAt w x) (env : List (List Dt)) (ve : Value) (hE : EnvS w ve env) (hT : Tabs w) (henv : ∀ r ∈ env, ∀ d ∈ r, In64d d) (hcnt : x.cnt ≤ 1000000000) (subs : List Dt) (vs : Value) (W : World) (hW : Below w.heap.size w W) (hS : DatS W vs subs) :
    Calls Tryz.prog 7 #[x.v, ve, vs] W fun e w' => e = .returned (.tuple #[(valueF x env subs).1.v, .int .i64 (valueF x env subs).2]) ∧ Below W.heap.size W w' := by
  have HR := Lib.hid (evright_any hx env ve hE hT)
  have HM := Lib.hid (evmany_any hx hcnt)
  have HT := Lib.hid (hT.below hW)
  have HW := Lib.hid hW
  have HS := Lib.hid hS
  obtain ⟨pv, cv, rfl, hs1, hs2, hs3, hs4⟩ := id hS
  obtain ⟨pe, ce, rfl, he1, he2, he3⟩ := id hE
  have HU := Lib.hid (fun hr hc (hv : ∀ d ∈ subs, Vok d) => value_all hx env pe env.length ce hE hT henv hcnt hr subs hc hv)
  obtain ⟨k, t, nl, l, lev, col, op, kv, sv, kids⟩ := x
  obtain ⟨p, cap, ps, ns, cs, rfl, rfl⟩ := hx.slices
  have HVB := Lib.hid (VB.new W #[.int .i64 k, .int .i64 t, .bool nl, .int .i64 l.k, .int .i64 l.i, .string l.s, .int .i64 lev, .int .i64 col, .int .i64 op, .slice p kids.length cap, .slice ps ns cs] 30 27)
  have hww := hW.size
  simp only [Ex.v] at HR HM HU ⊢
  obtain ⟨F, hF⟩ : ∃ F, F = valueF (.node k t nl l lev col op (.slice p kids.length cap) (.slice ps ns cs) kids) env subs := ⟨_, rfl⟩
  have HF := Lib.hid hF
  rw [← hF]
  unfold valueF at hF
  obtain ⟨R, hR⟩ : ∃ R, R = (Ex.node k t nl l lev col op (.slice p kids.length cap) (.slice ps ns cs) kids).right env := ⟨_, rfl⟩
  obtain ⟨C, hC⟩ : ∃ C, C = (Ex.node k t nl l lev col op (.slice p kids.length cap) (.slice ps ns cs) kids).cnt := ⟨_, rfl⟩
  obtain ⟨V, hV⟩ : ∃ V, V = (Ex.node k t nl l lev col op (.slice p kids.length cap) (.slice ps ns cs) kids).val env subs := ⟨_, rfl⟩
  rw [← hR] at HR hF HU
  rw [← hC] at HM hF HU hcnt
  rw [← hV] at hF HU
  clear hx hE hT hW hS henv hR hC hV HF
  cases R
  · have HF0 := Lib.hid (show F = (Dt.zero, 1) by rw [hF, if_neg (fun h => absurd h.1 (by decide))])
    clear HU
    go_enter Tryz.func7, Tryz.ntmps7
    go_wp2_with (first | (go_at_call 14; refine (HR.out _ (HW.out.trans (HVB.out.b.mono HW.out.size))).mono ?_; rintro e w2 ⟨rfl, hb2⟩; have VB2 := Lib.hid (HVB.out.below hb2); have hz2 := VB2.out.n; obtain ⟨⟨a0, a1, a2, a3⟩, ⟨a4, a5, a6, a7⟩, a8, a9, a10⟩ := VB2.out.cells; obtain ⟨r0, r1, r2⟩ := VB2.out.r; have f0 := VB2.out.f 0; have f1 := VB2.out.f 1; have f2 := VB2.out.f 2; clear hb2) | fail)
    refine bodyPost_ret (v := .tuple #[.agg #[.int .i64 0, .int .i64 0, .string ⟨#[]⟩], .int .i64 1]) (by simp [results, Tryz.results7, go_sem, r0, r1, r2]) rfl ⟨by rw [HF0.out]; rfl, ?_⟩
    exact ((VB2.out.b.setCell (p := ⟨W.heap.size + 1, 0, none⟩) (Nat.le_succ _) _).setCell (p := ⟨W.heap.size + 1, 1, none⟩) (Nat.le_succ _) _).setCell (p := ⟨W.heap.size + 1, 2, none⟩) (Nat.le_succ _) _
  · by_cases hc : C = subs.length
    · subst hc
      go_enter Tryz.func7, Tryz.ntmps7
      go_wp2_with (first | (go_at_call 14; refine (HR.out _ (HW.out.trans (HVB.out.b.mono HW.out.size))).mono ?_; rintro e w2 ⟨rfl, hb2⟩; have VB2 := Lib.hid (HVB.out.below hb2); have hz2 := VB2.out.n; obtain ⟨⟨a0, a1, a2, a3⟩, ⟨a4, a5, a6, a7⟩, a8, a9, a10⟩ := VB2.out.cells; obtain ⟨r0, r1, r2⟩ := VB2.out.r; have f0 := VB2.out.f 0; have f1 := VB2.out.f 1; have f2 := VB2.out.f 2; clear hb2) | (go_at_call 15; refine (HM.out _ (HW.out.trans (VB2.out.b.mono HW.out.size))).mono ?_; rintro e w3 ⟨rfl, hb3⟩; have VB3 := Lib.hid (VB2.out.below hb3); have hz3 := VB3.out.n; obtain ⟨s0, s1, s2⟩ := VB3.out.r; have g0 := VB3.out.f 0; have g1 := VB3.out.f 1; have g2 := VB3.out.f 2; clear hb3) | fail)
      go_loopw [26] (fun iv wr => ∃ i : Nat, i ≤ subs.length ∧ iv = .int .i64 (i : Int) ∧ VB W #[.int .i64 k, .int .i64 t, .bool nl, .int .i64 l.k, .int .i64 l.i, .string l.s, .int .i64 lev, .int .i64 col, .int .i64 op, .slice p kids.length cap, .slice ps ns cs] wr ∧ ∀ j, j < i → rightD (dnth subs j) = true) (fun iv _ => subs.length - (intOf iv).toNat)
      case atStart => exact ⟨0, Nat.zero_le _, rfl, VB3.out, fun j hj => absurd hj (Nat.not_lt_zero _)⟩
      case round =>
        obtain ⟨i, hi, rfl, hvb, hall⟩ := hrel
        have VBr := Lib.hid hvb
        have HALL := Lib.hid hall
        have hzr := hvb.n
        obtain ⟨r0, r1, r2⟩ := hvb.r
        have f0 := hvb.f 0
        have f1 := hvb.f 1
        have f2 := hvb.f 2
        obtain ⟨⟨a0, a1, a2, a3⟩, ⟨a4, a5, a6, a7⟩, a8, a9, a10⟩ := hvb.cells
        clear hvb hall s0 s1 s2 g0 g1 g2 hz2 hz3
        by_cases hlt : i < subs.length
        · have hne : subs ≠ [] := fun h => by rw [h] at hlt; simp at hlt
          obtain ⟨db, dof, rfl, hdb, hdc⟩ := hs3.resolve_left hne
          obtain ⟨d0, d1, d2⟩ := hdc i hlt
          have e1 := (VBr.out.b.cell (p := ⟨db, dof + i * 3, none⟩) hdb).trans d0
          have e2 := (VBr.out.b.cell (p := ⟨db, dof + i * 3 + 1, none⟩) hdb).trans d1
          have e3 := (VBr.out.b.cell (p := ⟨db, dof + i * 3 + 2, none⟩) hdb).trans d2
          have hmem : dnth subs i ∈ subs := by unfold dnth; rw [List.getD_eq_getElem?_getD, List.getElem?_eq_getElem hlt]; exact List.getElem_mem hlt
          have HST := Lib.hid (show rightD (dnth subs i) = true → ∀ j, j < i + 1 → rightD (dnth subs j) = true from fun h j hj => by
            rcases Nat.lt_succ_iff_lt_or_eq.1 hj with hj | rfl
            · exact HALL.out j hj
            · exact h)
          have HNO := Lib.hid (show rightD (dnth subs i) = false → F = (Dt.zero, 1) from fun h => by
            rw [hF, if_neg (fun h2 => by rw [h2.2.2 _ hmem] at h; exact absurd h (by decide))])
          clear d0 d1 d2 hmem hdc
          generalize dnth subs i = dd at *
          obtain ⟨dk, di, dss⟩ := dd
          cases hrd : rightD ⟨dk, di, dss⟩
          · have HF0 := Lib.hid (HNO.out hrd)
            go_wp2_with (first | (go_at_call 16; refine (right_any _ _ _ _ (HT.out.below ((VBr.out.b.alloc (by omega) _)))).mono ?_; rintro e w5 ⟨rfl, hb5⟩; have VB5 := Lib.hid ((VBr.out.below ((Below.refl _ _).alloc (Nat.le_refl _) _)).below hb5); have hz5 := VB5.out.n; have hz6 := VB5.out.n1; obtain ⟨q0, q1, q2⟩ := VB5.out.r; have k0 := VB5.out.f 0; have k1 := VB5.out.f 1; have k2 := VB5.out.f 2; clear hb5) | fail)
            refine bodyPost_ret (v := .tuple #[.agg #[.int .i64 0, .int .i64 0, .string ⟨#[]⟩], .int .i64 1]) (by simp [results, Tryz.results7, go_sem, q0, q1, q2]) rfl ⟨by rw [HF0.out]; rfl, ?_⟩
            exact ((VB5.out.b.setCell (p := ⟨W.heap.size + 1, 0, none⟩) (Nat.le_succ _) _).setCell (p := ⟨W.heap.size + 1, 1, none⟩) (Nat.le_succ _) _).setCell (p := ⟨W.heap.size + 1, 2, none⟩) (Nat.le_succ _) _
          · go_wp2_with (first | (go_at_call 16; refine (right_any _ _ _ _ (HT.out.below ((VBr.out.b.alloc (by omega) _)))).mono ?_; rintro e w5 ⟨rfl, hb5⟩; have VB5 := Lib.hid ((VBr.out.below ((Below.refl _ _).alloc (Nat.le_refl _) _)).below hb5); have hz5 := VB5.out.n; have hz6 := VB5.out.n1; obtain ⟨q0, q1, q2⟩ := VB5.out.r; have k0 := VB5.out.f 0; have k1 := VB5.out.f 1; have k2 := VB5.out.f 2; clear hb5) | fail)
            go_roundw
            case rel => exact ⟨i + 1, by omega, by go_num, VB5.out, HST.out hrd⟩
            case measure => simp [intOf]; omega
        · obtain rfl : i = subs.length := by omega
          have hrs : ∀ d ∈ subs, rightD d = true := fun d hd => by
            obtain ⟨j, hj, rfl⟩ := List.mem_iff_getElem.1 hd
            have := HALL.out j hj
            unfold dnth at this
            rwa [List.getD_eq_getElem?_getD, List.getElem?_eq_getElem hj] at this
          rw [if_pos ⟨by simp, by simp, hrs⟩] at hF
          have HVV := Lib.hid (HU.out (by simp) (Nat.le_refl _) (fun d hd => vok_right (hrs d hd) (hs4 d hd)))
          obtain ⟨⟨dk, di, dss⟩, er⟩ := V
          clear HU HALL hrs
          by_cases he : er = 0
          · subst he
            rw [resV_ok] at HVV
            have HF0 := Lib.hid (show F = (⟨dk, di, dss⟩, 0) by rw [hF, if_pos rfl])
            go_wp2_with (first | (go_at_call 17; refine (HVV.out _ _ (HW.out.trans (VBr.out.b.mono HW.out.size)) (HS.out.later VBr.out.b)).mono ?_; rintro e w5 ⟨rfl, hb5⟩; have VB5 := Lib.hid (VBr.out.below hb5); have hz5 := VB5.out.n; have hz6 := VB5.out.n1; obtain ⟨q0, q1, q2⟩ := VB5.out.r; have k0 := VB5.out.f 0; have k1 := VB5.out.f 1; have k2 := VB5.out.f 2; clear hb5) | fail)
            refine bodyPost_ret (v := .tuple #[.agg #[.int .i64 dk, .int .i64 di, .string dss], .int .i64 0]) (by simp [results, Tryz.results7, go_sem, q0, q1, q2, World.cell?_alloc_past, hz6]) rfl ⟨by rw [HF0.out], ?_⟩
            have hn5 := VB5.out.n
            exact (((VB5.out.b.setCell (p := ⟨W.heap.size + 1, 0, none⟩) (Nat.le_succ _) _).setCell (p := ⟨W.heap.size + 1, 1, none⟩) (Nat.le_succ _) _).setCell (p := ⟨W.heap.size + 1, 2, none⟩) (Nat.le_succ _) _).alloc (Nat.le_trans VB5.out.b.size (by simp)) _
          · rw [resV_err (r := (⟨dk, di, dss⟩, er)) he] at HVV
            have HF0 := Lib.hid (show F = (Dt.zero, er) by rw [hF, if_neg he])
            go_wp2_with (first | (go_at_call 17; refine (HVV.out _ _ (HW.out.trans (VBr.out.b.mono HW.out.size)) (HS.out.later VBr.out.b)).mono ?_; rintro e w5 ⟨rfl, hb5⟩; have VB5 := Lib.hid (VBr.out.below hb5); have hz5 := VB5.out.n; have hz6 := VB5.out.n1; obtain ⟨q0, q1, q2⟩ := VB5.out.r; have k0 := VB5.out.f 0; have k1 := VB5.out.f 1; have k2 := VB5.out.f 2; clear hb5) | fail)
            refine bodyPost_ret (v := .tuple #[.agg #[.int .i64 0, .int .i64 0, .string ⟨#[]⟩], .int .i64 er]) (by simp [results, Tryz.results7, go_sem, q0, q1, q2]) rfl ⟨by rw [HF0.out]; rfl, ?_⟩
            have hn5 := VB5.out.n
            exact ((VB5.out.b.setCell (p := ⟨W.heap.size + 1, 0, none⟩) (Nat.le_succ _) _).setCell (p := ⟨W.heap.size + 1, 1, none⟩) (Nat.le_succ _) _).setCell (p := ⟨W.heap.size + 1, 2, none⟩) (Nat.le_succ _) _
    · have HF0 := Lib.hid (show F = (Dt.zero, 1) by rw [hF, if_neg (fun h => hc h.2.1)])
      have bc : ((C : Int) == (subs.length : Int)) = false := by simp; omega
      clear HU
      go_enter Tryz.func7, Tryz.ntmps7
      go_wp2_with (first | (go_at_call 14; refine (HR.out _ (HW.out.trans (HVB.out.b.mono HW.out.size))).mono ?_; rintro e w2 ⟨rfl, hb2⟩; have VB2 := Lib.hid (HVB.out.below hb2); have hz2 := VB2.out.n; obtain ⟨⟨a0, a1, a2, a3⟩, ⟨a4, a5, a6, a7⟩, a8, a9, a10⟩ := VB2.out.cells; obtain ⟨r0, r1, r2⟩ := VB2.out.r; have f0 := VB2.out.f 0; have f1 := VB2.out.f 1; have f2 := VB2.out.f 2; clear hb2) | (go_at_call 15; refine (HM.out _ (HW.out.trans (VB2.out.b.mono HW.out.size))).mono ?_; rintro e w3 ⟨rfl, hb3⟩; have VB3 := Lib.hid (VB2.out.below hb3); have hz3 := VB3.out.n; obtain ⟨s0, s1, s2⟩ := VB3.out.r; have g0 := VB3.out.f 0; have g1 := VB3.out.f 1; have g2 := VB3.out.f 2; clear hb3) | fail)
      refine bodyPost_ret (v := .tuple #[.agg #[.int .i64 0, .int .i64 0, .string ⟨#[]⟩], .int .i64 1]) (by simp [results, Tryz.results7, go_sem, s0, s1, s2]) rfl ⟨by rw [HF0.out]; rfl, ?_⟩
      exact ((VB3.out.b.setCell (p := ⟨W.heap.size + 1, 0, none⟩) (Nat.le_succ _) _).setCell (p := ⟨W.heap.size + 1, 1, none⟩) (Nat.le_succ _) _).setCell (p := ⟨W.heap.size + 1, 2, none⟩) (Nat.le_succ _) _
end Go.Proofs.YtokbdleokihdaaaGreatDoor
namespace Go.Proofs.YtokbdleokihdaaaGreatDoor
open Go.RowKit

theorem rightD_zero : rightD Dt.zero = true := by simp [rightD, rightN, Dt.zero]
theorem right_truthD (b : Bool) : rightD (truthD b) = true := by cases b <;> simp [rightD, rightN, truthD]
theorem rightD_num {k i : Int} (hk : k = 2 ∨ k = 3) : rightD ⟨k, i, ⟨#[]⟩⟩ = true := by
  rcases hk with rfl | rfl <;> simp [rightD, rightN]
theorem right_numA (ds : List Dt) (r : Dt × Bool) (h : ds.all (isOf [2, 3]) = true → ds.any (fun d => d.k == 0) = false → r.2 = true → rightD r.1 = true) : rightD (numA ds r).1 = true := by
  unfold numA
  split
  · rename_i h1
    split
    · exact rightD_zero
    · rename_i h2
      split
      · rename_i h3
        exact h h1 (Bool.eq_false_iff.2 h2) h3
      · exact rightD_zero
  · exact rightD_zero
theorem right_app1 (op : Int) {d : Dt} (hr : rightD d = true) : rightD (app1 op d).1 = true := by
  have one : ∀ {p : Dt → Bool}, ([d] : List Dt).all p = true → p d = true := fun h => by simpa using h
  have non : ([d] : List Dt).any (fun d => d.k == 0) = false → (d.k == 0) = false := fun h => by simpa using h
  have hneg : d.k = 2 ∨ d.k = 3 → rightD (negR d).1 = true := fun h => rightD_num h
  unfold app1
  split
  · exact right_numA _ _ fun h1 h2 _ => hneg (isNum (one h1) (non h2))
  · split
    · unfold notR
      split
      · unfold notF
        split
        · exact rightD_zero
        · exact right_truthD _
      · exact rightD_zero
    · split
      · exact right_truthD _
      · split
        · unfold lenR
          split
          · unfold lengthF
            split
            · exact hr
            · split
              · exact rightD_num (.inl rfl)
              · exact rightD_num (.inl rfl)
          · exact rightD_zero
        · split
          · refine right_numA _ _ fun h1 h2 _ => ?_
            unfold absR
            split
            · exact hr
            · exact hneg (isNum (one h1) (non h2))
          · refine right_numA _ _ fun h1 h2 h3 => ?_
            unfold asDecR at h3 ⊢
            split
            · exact hr
            · exact rightD_num (.inr rfl)
theorem right_numR (op : Int) (d d' : Dt) : rightD (numR op d d').1 = true := by
  unfold numR
  split
  · split
    · exact rightD_num (.inr rfl)
    · exact rightD_zero
  · exact rightD_num (.inl rfl)
theorem right_app2 (op : Int) (d d' : Dt) : rightD (app2 op d d').1 = true := by
  unfold app2
  split
  · exact right_numA _ _ fun _ _ _ => right_numR _ _ _
  · split
    · unfold cmpR
      split
      · exact rightD_zero
      · unfold comparedF
        split
        · exact rightD_zero
        · exact right_truthD _
    · split
      · unfold andorR
        split
        · unfold andor
          repeat' split
          all_goals (first | exact rightD_zero | exact right_truthD _ | exact right_truthD true | exact right_truthD false)
        · exact rightD_zero
      · unfold andorR
        split
        · unfold andor
          repeat' split
          all_goals (first | exact rightD_zero | exact right_truthD _ | exact right_truthD true | exact right_truthD false)
        · exact rightD_zero
theorem right_appF (op : Int) (ds : List Dt) : rightD (appF op ds).1 = true := by
  unfold appF
  split
  · exact rightD_zero
  · split
    · rename_i hr
      match ds with
      | [] => exact rightD_zero
      | [d] => exact right_app1 op (hr 0 (by simp))
      | [d, d'] => exact right_app2 op d d'
      | _ :: _ :: _ :: _ => exact rightD_zero
    · exact rightD_zero
theorem right_caseF : ∀ (rs : List (Dt × Int)), (∀ r ∈ rs, rightD r.1 = true) → rightD (caseF rs).1 = true
  | [], _ => rightD_zero
  | [r], h => h r (by simp)
  | c :: v :: rest, h => by
    unfold caseF
    split
    · exact rightD_zero
    · split
      · exact rightD_zero
      · split
        · exact h v (by simp)
        · exact right_caseF rest (fun r hr => h r (by simp [hr]))
theorem right_coalF : ∀ (rs : List (Dt × Int)), (∀ r ∈ rs, rightD r.1 = true) → rightD (coalF rs).1 = true
  | [], _ => rightD_zero
  | r :: rest, h => by
    unfold coalF
    split
    · exact rightD_zero
    · split
      · exact h r (by simp)
      · exact right_coalF rest (fun r hr => h r (by simp [hr]))
theorem right_strictF (op : Int) : ∀ (acc : List Dt) (rs : List (Dt × Int)), (∀ r ∈ rs, rightD r.1 = true) → rightD (strictF op acc rs).1 = true
  | acc, [], _ => by unfold strictF; exact right_appF op acc
  | acc, r :: rest, h2 => by
    unfold strictF
    split
    · exact rightD_zero
    · split
      · exact h2 r (by simp)
      · exact right_strictF op (acc ++ [r.1]) rest (fun r hr => h2 r (by simp [hr]))
theorem right_callF (op : Int) (rs : List (Dt × Int)) (h : ∀ r ∈ rs, rightD r.1 = true) : rightD (callF op rs).1 = true := by
  unfold callF
  split
  · exact right_caseF rs h
  · split
    · exact right_coalF rs h
    · exact right_strictF op [] rs h
theorem right_val {w : World} {x : Ex} (hx : ExAt w x) (env : List (List Dt)) : x.right env = true → ∀ subs : List Dt, (∀ d ∈ subs, rightD d = true) → rightD (x.val env subs).1 = true := by
  induction hx with
  | @mk k t nl l lev col op kids p cap ps ns cs h1 h2 hk hl hks ih =>
    intro hr subs hs
    unfold Ex.right at hr
    unfold Ex.val
    by_cases k1 : k = 1
    · rw [if_pos k1] at hr ⊢
      exact hr
    · rw [if_neg k1] at hr ⊢
      by_cases k2 : k = 2
      · rw [if_pos k2] at hr ⊢
        unfold colOk at hr
        simp only [Bool.and_eq_true] at hr
        exact hr.2
      · rw [if_neg k2] at hr ⊢
        by_cases k3 : k = 3
        · rw [if_pos k3] at hr ⊢
          simp only [Bool.and_eq_true] at hr
          refine right_callF op _ (valL_mem env (P := fun r => rightD r.1 = true) kids subs fun y hy n => ?_)
          exact ih y hy ((rightL_iff env kids).1 hr.1 y hy) _ (fun d hd => hs d (List.mem_of_mem_drop hd))
        · rw [if_neg k3]
          split
          · show rightD (dnth subs 0) = true
            cases subs with
            | nil => exact rightD_zero
            | cons d s => exact hs d (by simp)
          · exact rightD_zero

/-- A value as a literal; an operator on expressions. -/
def litX (d : Dt) : Ex := .node 1 d.k false d 0 0 0 (.slice none 0 0) (.slice none 0 0) []
def callX (op : Int) (kv : Value) (kids : List Ex) : Ex := .node 3 0 false Dt.zero 0 0 op kv (.slice none 0 0) kids
theorem lit_right (d : Dt) (env : List (List Dt)) : (litX d).right env = rightD d := by rw [litX, Ex.right, if_pos rfl]
theorem lit_val (d : Dt) (env : List (List Dt)) (s : List Dt) : (litX d).val env s = (d, 0) := by rw [litX, Ex.val, if_pos rfl]
theorem lit_cnt (d : Dt) : (litX d).cnt = 0 := by rw [litX, Ex.cnt, if_neg (by decide), if_neg (by decide)]
theorem call_right (op : Int) (kv : Value) (kids : List Ex) (env : List (List Dt)) : (callX op kv kids).right env = (rightL env kids && kidsOk op kids.length) := by
  rw [callX, Ex.right, if_neg (by decide), if_neg (by decide), if_pos rfl]
theorem call_val (op : Int) (kv : Value) (kids : List Ex) (env : List (List Dt)) (s : List Dt) : (callX op kv kids).val env s = callF op (valL env kids s) := by
  rw [callX, Ex.val, if_neg (by decide), if_neg (by decide), if_pos rfl]
theorem call_cnt (op : Int) (kv : Value) (kids : List Ex) : (callX op kv kids).cnt = cntL kids := by rw [callX, Ex.cnt, if_pos rfl]
theorem call_value (op : Int) (kv : Value) (kids : List Ex) (env : List (List Dt)) (hr : rightL env kids = true) (hk : kidsOk op kids.length = true) (hc : cntL kids = 0) : valueF (callX op kv kids) env [] = (if (callF op (valL env kids [])).2 = 0 then ((callF op (valL env kids [])).1, 0) else (Dt.zero, (callF op (valL env kids [])).2)) := by
  unfold valueF
  rw [if_pos ⟨by rw [call_right, hr, hk]; rfl, by rw [call_cnt, hc]; rfl, by simp⟩, call_val]
end Go.Proofs.YtokbdleokihdaaaGreatDoor
namespace Go.Proofs.YtokbdleokihdaaaGreatDoor
open Go.RowKit

/-- A block that holds these cells. -/
structure Bk (u : World) (n : Nat) (xs : Array Value) : Prop where
  c : ∀ i v, xs[i]? = some v → u.cell? ⟨n, i, none⟩ = some v
  lt : n < u.heap.size
theorem Bk.below {u u' : World} {n : Nat} {xs : Array Value} (h : Bk u n xs) (hb : Below u.heap.size u u') : Bk u' n xs :=
  ⟨fun i v hv => by rw [hb.cell (p := ⟨n, i, none⟩) h.lt]; exact h.c i v hv, Nat.lt_of_lt_of_le h.lt hb.size⟩
theorem Bk.new (u : World) (xs : Array Value) (t : TypeId) : Bk (u.alloc (.cells xs t)) u.heap.size xs := ⟨fun i v hv => (World.cell?_alloc_new _ _ _ _).trans hv, by simp⟩
theorem Bk.alloc {u : World} {n : Nat} {xs : Array Value} (h : Bk u n xs) (o : Obj) : Bk (u.alloc o) n xs := h.below ((Below.refl _ _).alloc (Nat.le_refl _) _)
theorem Bk.cells {u : World} {n : Nat} {a0 a1 a2 a3 a4 a5 a6 a7 a8 a9 a10 : Value} (h : Bk u n #[a0, a1, a2, a3, a4, a5, a6, a7, a8, a9, a10]) :
    (u.cell? ⟨n, 0, none⟩ = some a0 ∧ u.cell? ⟨n, 1, none⟩ = some a1 ∧ u.cell? ⟨n, 2, none⟩ = some a2 ∧ u.cell? ⟨n, 3, none⟩ = some a3) ∧
    (u.cell? ⟨n, 4, none⟩ = some a4 ∧ u.cell? ⟨n, 5, none⟩ = some a5 ∧ u.cell? ⟨n, 6, none⟩ = some a6 ∧ u.cell? ⟨n, 7, none⟩ = some a7) ∧
    u.cell? ⟨n, 8, none⟩ = some a8 ∧ u.cell? ⟨n, 9, none⟩ = some a9 ∧ u.cell? ⟨n, 10, none⟩ = some a10 :=
  ⟨⟨h.c 0 _ rfl, h.c 1 _ rfl, h.c 2 _ rfl, h.c 3 _ rfl⟩, ⟨h.c 4 _ rfl, h.c 5 _ rfl, h.c 6 _ rfl, h.c 7 _ rfl⟩, h.c 8 _ rfl, h.c 9 _ rfl, h.c 10 _ rfl⟩
theorem Bk.cells3 {u : World} {n : Nat} {a0 a1 a2 : Value} (h : Bk u n #[a0, a1, a2]) : u.cell? ⟨n, 0, none⟩ = some a0 ∧ u.cell? ⟨n, 1, none⟩ = some a1 ∧ u.cell? ⟨n, 2, none⟩ = some a2 :=
  ⟨h.c 0 _ rfl, h.c 1 _ rfl, h.c 2 _ rfl⟩
theorem Bx.bk {u : World} {n : Nat} {x y z : Value} (h : Bx u n x y z) : Bk u n #[x, y, z] := by
  refine ⟨fun i v hv => ?_, h.lt⟩
  match i, hv with
  | 0, hv => cases hv; exact h.c0
  | 1, hv => cases hv; exact h.c1
  | 2, hv => cases hv; exact h.c2
theorem Bx.after {w1 w2 : World} {x y z : Value} {t : TypeId} (hb : Below (w1.alloc (.cells #[x, y, z] t)).heap.size (w1.alloc (.cells #[x, y, z] t)) w2) : Bx w2 w1.heap.size x y z := (Bx.new w1 x y z t).below hb
theorem Bx.afterD {w1 w2 : World} {x y z : Value} {t : TypeId} (hb : Below (w1.alloc (.cells #[x, y, z] t)).drew.heap.size (w1.alloc (.cells #[x, y, z] t)).drew w2) : Bx w2 w1.heap.size x y z := (Bx.new w1 x y z t).drew.below hb
/-- Blocks that hold what they hold, while memory is made. -/
structure LZ (w : World) (L : List (Nat × Array Value)) (u : World) : Prop where
  b : Below w.heap.size w u
  l : ∀ p ∈ L, Bk u p.1 p.2
theorem LZ.below {w : World} {L : List (Nat × Array Value)} {u u' : World} (h : LZ w L u) (hb : Below u.heap.size u u') : LZ w L u' :=
  ⟨h.b.trans (hb.mono h.b.size), fun p hp => (h.l p hp).below hb⟩
theorem LZ.alloc {w : World} {L : List (Nat × Array Value)} {u : World} (h : LZ w L u) (o : Obj) : LZ w L (u.alloc o) := h.below ((Below.refl _ _).alloc (Nat.le_refl _) _)
theorem LZ.cons {w : World} {L : List (Nat × Array Value)} {u : World} {n : Nat} {xs : Array Value} (h : LZ w L u) (hb : Bk u n xs) : LZ w ((n, xs) :: L) u :=
  ⟨h.b, fun p hp => by
    rcases List.mem_cons.1 hp with rfl | hp
    · exact hb
    · exact h.l p hp⟩
theorem LZ.push {w : World} {L : List (Nat × Array Value)} {u : World} (h : LZ w L u) (xs : Array Value) (t : TypeId) : LZ w ((u.heap.size, xs) :: L) (u.alloc (.cells xs t)) := (h.alloc _).cons (Bk.new u xs t)

theorem LZ.pushAt {w : World} {L : List (Nat × Array Value)} {u : World} {n : Nat} (h : LZ w L u) (hn : n = u.heap.size) (xs : Array Value) (t : TypeId) : LZ w ((n, xs) :: L) (u.alloc (.cells xs t)) := by subst hn; exact h.push xs t
theorem LZ.start (w : World) : LZ w [] w := ⟨Below.refl _ _, by simp⟩
theorem lit_at {w : World} {d : Dt} (h : In64d d) : ExAt w (litX d) := .mk (kids := []) none 0 none 0 0 (Nat.le_refl _) (by decide) (.inl rfl) h (by simp)
theorem ExAt.v_cells {w : World} {x : Ex} (_ : ExAt w x) : x.v = .agg x.cells.toArray := by cases x; rfl

/-- A new row of expressions. -/
def KN (W : World) (kv : Value) (kids : List Ex) : Prop := ∃ b, kv = .slice (some ⟨b, 0, none⟩) kids.length kids.length ∧ b < W.heap.size ∧ KCells W b 0 kids
theorem KN.below {W W' : World} {kv : Value} {kids : List Ex} (h : KN W kv kids) (hb : Below W.heap.size W W') : KN W' kv kids := by
  obtain ⟨b, h1, h2, h3⟩ := h
  exact ⟨b, h1, Nat.lt_of_lt_of_le h2 hb.size, h3.below hb h2⟩
theorem KN.alloc {W : World} {kv : Value} {kids : List Ex} (h : KN W kv kids) (o : Obj) : KN (W.alloc o) kv kids := h.below ((Below.refl _ _).alloc (Nat.le_refl _) _)
theorem ex_cells_len (x : Ex) : x.cells.length = 11 := by cases x; rfl
theorem flat_cells : ∀ (kids : List Ex) (i : Nat) (x : Ex) (j : Nat) (u : Value), kids[i]? = some x → x.cells[j]? = some u → (kids.flatMap Ex.cells)[i * 11 + j]? = some u
  | y :: l, 0, x, j, u, h1, h2 => by
    simp at h1
    subst h1
    have hj : j < y.cells.length := (List.getElem?_eq_some_iff.1 h2).1
    rw [List.flatMap_cons, Nat.zero_mul, Nat.zero_add, List.getElem?_append_left hj]
    exact h2
  | y :: l, i + 1, x, j, u, h1, h2 => by
    rw [List.flatMap_cons, List.getElem?_append_right (by rw [ex_cells_len]; omega), ex_cells_len, show (i + 1) * 11 + j - 11 = i * 11 + j by omega]
    exact flat_cells l i x j u (by simpa using h1) h2
theorem KN.new (W : World) (kids : List Ex) (xs : Array Value) (t : TypeId) (h : xs.toList = kids.flatMap Ex.cells) : KN (W.alloc (.cells xs t)) (.slice (some ⟨W.heap.size, 0, none⟩) kids.length kids.length) kids := by
  refine ⟨W.heap.size, rfl, by simp, fun i x hx j u hu => ?_⟩
  rw [World.cell?_alloc_new]
  have := flat_cells kids i x j u hx hu
  rw [← h] at this
  simpa [Nat.zero_add] using this
theorem call_at {w W : World} {op : Int} {kv : Value} {kids : List Ex} (hn : kids.length ≤ 1048576) (hb : Below w.heap.size w W) (h : KN W kv kids) (hk : ∀ x ∈ kids, ExAt w x) : ExAt W (callX op kv kids) := by
  obtain ⟨b, rfl, h2, h3⟩ := h
  exact .mk (kids := kids) (some ⟨b, 0, none⟩) kids.length none 0 0 (Nat.le_refl _) hn (.inr ⟨b, 0, rfl, h2, h3⟩) (by decide) (fun x hx => (hk x hx).later hb)
theorem nil_env (w : World) : EnvS w (.slice none 0 0) [] := ⟨none, 0, rfl, Nat.le_refl _, by decide, .inl rfl⟩
theorem nil_dats (w : World) : DatS w (.slice none 0 0) [] := ⟨none, 0, rfl, Nat.le_refl _, by decide, .inl rfl, by simp⟩

/-- eval.Value at an operator on new expressions, without rows and subqueries. -/
theorem value_new (op : Int) (kids : List Ex) (R : Dt × Int) {w : World} (hR : ∀ kv, valueF (callX op kv kids) [] [] = R) (hn : kids.length ≤ 1048576) (hc : cntL kids ≤ 1000000000) (hk : ∀ x ∈ kids, ExAt w x) (hT : Tabs w) (W : World) (kv : Value) (hb : Below w.heap.size w W) (hK : KN W kv kids) :
    Calls Tryz.prog 7 #[.agg #[.int .i64 3, .int .i64 0, .bool false, .int .i64 0, .int .i64 0, .string ⟨#[]⟩, .int .i64 0, .int .i64 0, .int .i64 op, kv, .slice none 0 0], .slice none 0 0, .slice none 0 0] W fun e w' => e = .returned (.tuple #[R.1.v, .int .i64 R.2]) ∧ Below W.heap.size W w' := by
  have h := evValue_any (call_at (op := op) hn hb hK hk) [] (.slice none 0 0) (nil_env W) (hT.below hb) (by simp) (by rw [call_cnt]; exact hc) [] (.slice none 0 0) W (Below.refl _ _) (nil_dats W)
  rw [hR kv] at h
  exact h

set_option maxRecDepth 100000 in
set_option maxHeartbeats 1000000 in
theorem callx_any (op : Int) (p : Option Addr) (n c : Nat) (w : World) :
    Calls Tryz.prog 9 #[.int .i64 op, .slice p n c] w fun e w' => e = .returned (.agg #[.int .i64 3, .int .i64 0, .bool false, .int .i64 0, .int .i64 0, .string ⟨#[]⟩, .int .i64 0, .int .i64 0, .int .i64 op, .slice p n c, .slice none 0 0]) ∧ Below w.heap.size w w' := by
  go_enter Tryz.func9, Tryz.ntmps9
  go_wp2_with fail
  refine bodyPost_ret (v := .agg #[.int .i64 3, .int .i64 0, .bool false, .int .i64 0, .int .i64 0, .string ⟨#[]⟩, .int .i64 0, .int .i64 0, .int .i64 op, .slice p n c, .slice none 0 0]) (by simp [results, Tryz.results9, go_sem]) rfl ⟨rfl, ?_⟩
  exact (Below.refl _ _).alloc (Nat.le_refl _) _
end Go.Proofs.YtokbdleokihdaaaGreatDoor
namespace Go.Proofs.YtokbdleokihdaaaGreatDoor
open Go.RowKit

theorem valL_nil (env : List (List Dt)) : ∀ kids : List Ex, valL env kids [] = kids.map fun x => x.val env []
  | [] => rfl
  | x :: l => by rw [valL, List.drop_nil, valL_nil env l]; rfl
def yesX : Ex := litX ⟨1, 1, ⟨#[]⟩⟩
def noX : Ex := litX ⟨1, 0, ⟨#[]⟩⟩
theorem yes_right : yesX.right [] = true := by rw [yesX, lit_right]; exact right_truthD true
theorem no_right : noX.right [] = true := by rw [noX, lit_right]; exact right_truthD false
theorem yes_cnt : yesX.cnt = 0 := lit_cnt _
theorem no_cnt : noX.cnt = 0 := lit_cnt _
theorem yes_val : yesX.val [] [] = (⟨1, 1, ⟨#[]⟩⟩, 0) := lit_val _ _ _
theorem no_val : noX.val [] [] = (⟨1, 0, ⟨#[]⟩⟩, 0) := lit_val _ _ _
theorem call_kids (op : Int) (kids : List Ex) (hr : ∀ x ∈ kids, x.right [] = true) (hc : ∀ x ∈ kids, x.cnt = 0) (hk : kidsOk op kids.length = true) (R : Dt × Int) (h : callF op (kids.map fun x => x.val [] []) = R) (kv : Value) :
    valueF (callX op kv kids) [] [] = if R.2 = 0 then (R.1, 0) else (Dt.zero, R.2) := by
  have hcz : ∀ l : List Ex, (∀ x ∈ l, x.cnt = 0) → cntL l = 0 := by
    intro l
    induction l with
    | nil => intro _; rfl
    | cons y l ih => intro h; rw [cntL, h y (by simp), ih (fun x hx => h x (by simp [hx]))]
  rw [call_value op kv kids [] ((rightL_iff [] kids).2 hr) hk (hcz kids hc), valL_nil, h]
section
variable {bad : Ex} (hb : bad.right [] = true) (hc : bad.cnt = 0) {d : Dt} (hd : rightD d = true) (hk : d.k ≠ 0)
include hb hc
theorem lazy1 (kv : Value) : valueF (callX 13 kv [noX, bad]) [] [] = (⟨1, 0, ⟨#[]⟩⟩, 0) := by
  rw [call_kids 13 [noX, bad] (by simp [no_right, hb]) (by simp [no_cnt, hc]) (show kidsOk 13 2 = true by decide) (⟨1, 0, ⟨#[]⟩⟩, 0) (by
    show strictF 13 [] [noX.val [] [], bad.val [] []] = _
    rw [no_val, strictF_two, if_neg (fun h => h rfl), if_pos short_and]) kv]; rfl
theorem lazy2 (kv : Value) : valueF (callX 14 kv [yesX, bad]) [] [] = (⟨1, 1, ⟨#[]⟩⟩, 0) := by
  rw [call_kids 14 [yesX, bad] (by simp [yes_right, hb]) (by simp [yes_cnt, hc]) (show kidsOk 14 2 = true by decide) (⟨1, 1, ⟨#[]⟩⟩, 0) (by
    show strictF 14 [] [yesX.val [] [], bad.val [] []] = _
    rw [yes_val, strictF_two, if_neg (fun h => h rfl), if_pos short_or]) kv]; rfl
theorem lazy9 {w : World} (hx : ExAt w bad) (kv : Value) : (valueF (callX 15 kv [bad]) [] []).2 = (bad.val [] []).2 := by
  have hr := right_val hx [] hb [] (by simp)
  by_cases h0 : (bad.val [] []).2 = 0
  · rw [call_kids 15 [bad] (by simp [hb]) (by simp [hc]) (show kidsOk 15 1 = true by decide) (truthD ((bad.val [] []).1.k == 0), 0) (by
      show strictF 15 [] [bad.val [] []] = _
      rw [strictF, if_neg (fun h => h h0), if_neg (fun h => by rw [shortF_other (by decide) (by decide)] at h; exact absurd h.2 (by decide)), strictF]
      show appF 15 [(bad.val [] []).1] = _
      unfold appF
      rw [if_neg (show ¬ (manyF 15 = 0 ∨ ((([(bad.val [] []).1] : List Dt).length : Nat) : Int) ≠ manyF 15) from by simp only [List.length_singleton]; decide), if_pos (all1 hr)]
      rfl) kv, if_pos rfl, h0]
  · rw [call_kids 15 [bad] (by simp [hb]) (by simp [hc]) (show kidsOk 15 1 = true by decide) (Dt.zero, (bad.val [] []).2) (by
      show strictF 15 [] [bad.val [] []] = _
      rw [strictF, if_pos h0]) kv, if_neg h0]
theorem lazy8 (kv : Value) : (valueF (callX 16 kv [yesX, bad]) [] []).2 = (bad.val [] []).2 := by
  rw [call_kids 16 [yesX, bad] (by simp [yes_right, hb]) (by simp [yes_cnt, hc]) (show kidsOk 16 2 = true by decide) (bad.val [] []) (by
    show caseF [yesX.val [] [], bad.val [] []] = _
    rw [yes_val, caseF, if_neg (fun h => h rfl), if_neg (by decide), if_pos ⟨rfl, rfl⟩]) kv]
  split
  · rename_i h; rw [h]
  · rfl
include hd
theorem lazy4 (kv : Value) : valueF (callX 16 kv [noX, bad, litX d]) [] [] = (d, 0) := by
  rw [call_kids 16 [noX, bad, litX d] (by simp [lit_right, hd, hb, no_right]) (by simp [lit_cnt, hc, no_cnt]) (show kidsOk 16 3 = true by decide) (d, 0) (by
    show caseF [noX.val [] [], bad.val [] [], (litX d).val [] []] = _
    rw [no_val, caseF, if_neg (fun h => h rfl), if_neg (by decide), if_neg (by decide), lit_val, caseF]) kv]; rfl
theorem lazy5 (kv : Value) : valueF (callX 16 kv [yesX, litX d, bad]) [] [] = (d, 0) := by
  rw [call_kids 16 [yesX, litX d, bad] (by simp [lit_right, hd, hb, yes_right]) (by simp [lit_cnt, hc, yes_cnt]) (show kidsOk 16 3 = true by decide) (d, 0) (by
    show caseF [yesX.val [] [], (litX d).val [] [], bad.val [] []] = _
    rw [yes_val, caseF, if_neg (fun h => h rfl), if_neg (by decide), if_pos ⟨rfl, rfl⟩, lit_val]) kv]; rfl
include hk
theorem lazy3 (kv : Value) : valueF (callX 17 kv [litX d, bad]) [] [] = (d, 0) := by
  rw [call_kids 17 [litX d, bad] (by simp [lit_right, hd, hb]) (by simp [lit_cnt, hc]) (show kidsOk 17 2 = true by decide) (d, 0) (by
    show coalF [(litX d).val [] [], bad.val [] []] = _
    rw [lit_val, coalF, if_neg (fun h => h rfl), if_pos hk]) kv]; rfl
theorem lazy7 (kv : Value) : (valueF (callX 17 kv [bad, litX d]) [] []).2 = (bad.val [] []).2 := by
  by_cases h0 : (bad.val [] []).2 = 0
  · by_cases h1 : (bad.val [] []).1.k = 0
    · rw [call_kids 17 [bad, litX d] (by simp [lit_right, hd, hb]) (by simp [lit_cnt, hc]) (show kidsOk 17 2 = true by decide) (d, 0) (by
        show coalF [bad.val [] [], (litX d).val [] []] = _
        rw [coalF, if_neg (fun h => h h0), if_neg (fun h => h h1), lit_val, coalF, if_neg (fun h => h rfl), if_pos hk]) kv, if_pos rfl, h0]
    · rw [call_kids 17 [bad, litX d] (by simp [lit_right, hd, hb]) (by simp [lit_cnt, hc]) (show kidsOk 17 2 = true by decide) (bad.val [] []) (by
        show coalF [bad.val [] [], (litX d).val [] []] = _
        rw [coalF, if_neg (fun h => h h0), if_pos h1]) kv, if_pos h0, h0]
  · rw [call_kids 17 [bad, litX d] (by simp [lit_right, hd, hb]) (by simp [lit_cnt, hc]) (show kidsOk 17 2 = true by decide) (Dt.zero, (bad.val [] []).2) (by
      show coalF [bad.val [] [], (litX d).val [] []] = _
      rw [coalF, if_pos h0]) kv, if_neg h0]
end
end Go.Proofs.YtokbdleokihdaaaGreatDoor
namespace Go.Proofs.YtokbdleokihdaaaGreatDoor
open Go.RowKit

/-- A part: it may be, has no subqueries, and is worth that. -/
def Part (env : List (List Dt)) (x : Ex) (d : Dt) : Prop := x.right env = true ∧ x.cnt = 0 ∧ x.val env [] = (d, 0) ∧ rightD d = true
/-- Parts, side by side. -/
def Parts (env : List (List Dt)) : List Ex → List Dt → Prop
  | [], [] => True
  | x :: l, d :: ds => Part env x d ∧ Parts env l ds
  | _, _ => False
theorem Parts.len {env : List (List Dt)} : ∀ {l : List Ex} {ds : List Dt}, Parts env l ds → ds.length = l.length
  | [], [], _ => rfl
  | x :: l, d :: ds, h => by simp [Parts.len h.2]
theorem Parts.snoc {env : List (List Dt)} : ∀ {l : List Ex} {ds : List Dt} {x : Ex} {d : Dt}, Parts env l ds → Part env x d → Parts env (l ++ [x]) (ds ++ [d])
  | [], [], _, _, _, h => ⟨h, trivial⟩
  | _ :: _, _ :: _, _, _, h, h' => ⟨h.1, h.2.snoc h'⟩
theorem Parts.right {env : List (List Dt)} : ∀ {l : List Ex} {ds : List Dt}, Parts env l ds → rightL env l = true
  | [], [], _ => rfl
  | x :: l, d :: ds, h => by rw [rightL, h.1.1, h.2.right]; rfl
theorem Parts.cnt {env : List (List Dt)} : ∀ {l : List Ex} {ds : List Dt}, Parts env l ds → cntL l = 0
  | [], [], _ => rfl
  | x :: l, d :: ds, h => by rw [cntL, h.1.2.1, h.2.cnt]
theorem Parts.val {env : List (List Dt)} : ∀ {l : List Ex} {ds : List Dt}, Parts env l ds → valL env l [] = ds.map fun d => (d, 0)
  | [], [], _ => rfl
  | x :: l, d :: ds, h => by rw [valL, List.drop_nil, h.2.val, h.1.2.2.1]; rfl
theorem Parts.rights {env : List (List Dt)} : ∀ {l : List Ex} {ds : List Dt}, Parts env l ds → ∀ d ∈ ds, rightD d = true
  | [], [], _ => by simp
  | x :: l, d :: ds, h => by
    intro e he
    rcases List.mem_cons.1 he with rfl | he
    · exact h.1.2.2.2
    · exact h.2.rights e he
/-- A part, of what eval.Value answers. -/
theorem part_of {w : World} {x : Ex} {env : List (List Dt)} (hx : ExAt w x) (hr : x.right env = true) (hc : x.cnt = 0) (hv : (valueF x env []).2 = 0) : Part env x (valueF x env []).1 := by
  have h := right_val hx env hr [] (by simp)
  unfold valueF at hv ⊢
  rw [if_pos ⟨hr, by rw [hc]; rfl, by simp⟩] at hv ⊢
  by_cases h0 : (x.val env []).2 = 0
  · rw [if_pos h0]
    exact ⟨hr, hc, Prod.ext rfl h0, h⟩
  · rw [if_neg h0] at hv
    exact absurd hv h0
def shortL (op : Int) : List Dt → Bool
  | [] => false
  | d :: _ => shortF op d
theorem appF_bad (op : Int) {ds : List Dt} (h : (appF op ds).2 ≠ 0) : (appF op ds).1 = Dt.zero := by
  have num : ∀ (l : List Dt) (r : Dt × Bool), (numA l r).2 ≠ 0 → (numA l r).1 = Dt.zero := fun l r h => by
    unfold numA at h ⊢
    split
    · rename_i c1
      rw [if_pos c1] at h
      split
      · rfl
      · rename_i c2
        rw [if_neg c2] at h
        split
        · rename_i c3
          rw [if_pos c3] at h
          exact absurd rfl h
        · rfl
    · rfl
  have tst : ∀ (c : Prop) [Decidable c] (d : Dt), (if c then (d, (0 : Int)) else (Dt.zero, 5)).2 ≠ 0 → (if c then (d, (0 : Int)) else (Dt.zero, 5)).1 = Dt.zero := fun c _ d h => by
    by_cases hc : c
    · rw [if_pos hc] at h; exact absurd rfl h
    · rw [if_neg hc]
  have cmp : ∀ (d d' : Dt), (cmpR op d d').2 ≠ 0 → (cmpR op d d').1 = Dt.zero := fun d d' h => by
    unfold cmpR at h ⊢
    split
    · rfl
    · rename_i c
      rw [if_neg c] at h
      exact absurd rfl h
  unfold appF at h ⊢
  split
  · rfl
  · rename_i c1
    rw [if_neg c1] at h
    split
    · rename_i c2
      rw [if_pos c2] at h
      match ds, h with
      | [], _ => rfl
      | [d], h =>
        show (app1 op d).1 = _
        have h : (app1 op d).2 ≠ 0 := h
        unfold app1 at h ⊢
        by_cases o1 : op = 1
        · rw [if_pos o1] at h ⊢; exact num _ _ h
        · rw [if_neg o1] at h ⊢
          by_cases o2 : op = 2
          · rw [if_pos o2] at h ⊢; exact tst _ _ h
          · rw [if_neg o2] at h ⊢
            by_cases o3 : op = 15
            · rw [if_pos o3] at h; exact absurd rfl h
            · rw [if_neg o3] at h ⊢
              by_cases o4 : op = 18
              · rw [if_pos o4] at h ⊢; exact tst _ _ h
              · rw [if_neg o4] at h ⊢
                by_cases o5 : op = 19
                · rw [if_pos o5] at h ⊢; exact num _ _ h
                · rw [if_neg o5] at h ⊢; exact num _ _ h
      | [d, d'], h =>
        show (app2 op d d').1 = _
        have h : (app2 op d d').2 ≠ 0 := h
        unfold app2 at h ⊢
        by_cases o1 : op ≤ 6
        · rw [if_pos o1] at h ⊢; exact num _ _ h
        · rw [if_neg o1] at h ⊢
          by_cases o2 : op ≤ 12
          · rw [if_pos o2] at h ⊢; exact cmp _ _ h
          · rw [if_neg o2] at h ⊢
            by_cases o3 : op = 13
            · rw [if_pos o3] at h ⊢; exact tst _ _ h
            · rw [if_neg o3] at h ⊢; exact tst _ _ h
      | _ :: _ :: _ :: _, _ => rfl
    · rfl
theorem app_short {op : Int} {d d' : Dt} (h : shortF op d = true) (hr : rightD d = true) (hr' : rightD d' = true) : appF op [d, d'] = (Dt.zero, 5) ∨ appF op [d, d'] = (d, 0) := by
  obtain ⟨dk, di, ds⟩ := d
  unfold shortF at h
  simp only [Bool.or_eq_true, Bool.and_eq_true, beq_iff_eq] at h
  rcases h with ⟨rfl, h⟩ | ⟨rfl, h⟩
  · obtain ⟨rfl, rfl, rfl⟩ := eqD_iff.1 h
    unfold appF
    rw [if_neg (by simp only [List.length_cons, List.length_nil]; decide), if_pos (all2 hr hr')]
    show andorR 0 _ _ = _ ∨ andorR 0 _ _ = _
    unfold andorR
    split
    · right; rfl
    · left; rfl
  · obtain ⟨rfl, rfl, rfl⟩ := eqD_iff.1 h
    unfold appF
    rw [if_neg (by simp only [List.length_cons, List.length_nil]; decide), if_pos (all2 hr hr')]
    show andorR 1 _ _ = _ ∨ andorR 1 _ _ = _
    unfold andorR
    split
    · right; rfl
    · left; rfl
theorem norm_app (op : Int) (ds : List Dt) : (if (appF op ds).2 = 0 then ((appF op ds).1, 0) else (Dt.zero, (appF op ds).2)) = appF op ds := by
  by_cases h : (appF op ds).2 = 0
  · rw [if_pos h]; exact Prod.ext rfl h.symm
  · rw [if_neg h]; exact Prod.ext (appF_bad op h).symm rfl
theorem short_op {op : Int} {d : Dt} (h : shortF op d = true) : op = 13 ∨ op = 14 := by
  unfold shortF at h
  simp only [Bool.or_eq_true, Bool.and_eq_true, beq_iff_eq] at h
  omega
/-- THE LAW: an operator on parts. -/
theorem parts_law {env : List (List Dt)} {kids : List Ex} {ds : List Dt} (h : Parts env kids ds) {op : Int} (h16 : op ≠ 16) (h17 : op ≠ 17) (kv : Value) :
    valueF (callX op kv kids) env [] = if (appF op ds).2 = 5 ∧ shortL op ds = true then (dnth ds 0, 0) else appF op ds := by
  have hlen := h.len
  have hrd := h.rights
  by_cases hk : kidsOk op kids.length = true
  · rw [call_value op kv kids env h.right hk h.cnt, h.val]
    have hk2 := hk
    unfold kidsOk at hk2
    rw [if_neg h16, if_neg h17, Bool.and_eq_true, decide_eq_true_eq, decide_eq_true_eq, ← hlen] at hk2
    obtain ⟨hn, hm⟩ := hk2
    have hcf : callF op (ds.map fun d => (d, (0 : Int))) = strictF op [] (ds.map fun d => (d, (0 : Int))) := by unfold callF; rw [if_neg h16, if_neg h17]
    rw [hcf]
    match ds, hn, hm, hrd with
    | [d], _, hm, hrd =>
      have ho : ¬ shortF op d = true := fun hs => by
        simp only [List.length_singleton] at hm
        rcases short_op hs with rfl | rfl <;> exact absurd hm (by decide)
      have hs : strictF op [] (([d] : List Dt).map fun d => (d, (0 : Int))) = appF op [d] := by
        show strictF op [] [(d, 0)] = _
        rw [strictF, if_neg (fun h => h rfl), if_neg (fun h => ho h.2), strictF]; rfl
      rw [hs, norm_app, if_neg (fun h => ho h.2)]
    | [d, d'], _, hm, hrd =>
      have hs : strictF op [] (([d, d'] : List Dt).map fun d => (d, (0 : Int))) = if shortF op d = true then (d, 0) else appF op [d, d'] := by
        show strictF op [] [(d, 0), (d', 0)] = _
        rw [strictF_two, if_neg (fun h => h rfl)]
        by_cases h1 : shortF op d = true
        · rw [if_pos h1, if_pos h1]
        · rw [if_neg h1, if_neg h1, if_neg (fun h => h rfl)]
      rw [hs]
      by_cases h1 : shortF op d = true
      · rw [if_pos h1, if_pos rfl]
        rcases app_short h1 (hrd d (by simp)) (hrd d' (by simp)) with h2 | h2
        · rw [if_pos ⟨by rw [h2], h1⟩]; rfl
        · rw [if_neg (by rw [h2]; intro h3; have h4 : (0 : Int) = 5 := h3.1; exact absurd h4 (by decide)), h2]
      · rw [if_neg h1, norm_app, if_neg (fun h => h1 h.2)]
    | _ :: _ :: _ :: l, _, hm, _ =>
      exfalso
      unfold manyF at hm
      simp only [List.length_cons] at hm
      split at hm
      · omega
      · split at hm <;> omega
  · have ha : appF op ds = (Dt.zero, 1) := by
      unfold appF
      rw [if_pos]
      unfold kidsOk at hk
      rw [if_neg h16, if_neg h17, ← hlen] at hk
      by_cases h0 : manyF op = 0
      · exact .inl h0
      · right
        intro he
        apply hk
        rw [Bool.and_eq_true, decide_eq_true_eq, decide_eq_true_eq]
        exact ⟨by omega, he⟩
    rw [ha, if_neg (fun h => absurd h.1 (by decide))]
    unfold valueF
    rw [if_neg]
    intro h2
    have := h2.1
    rw [call_right, Bool.and_eq_true] at this
    exact hk this.2
end Go.Proofs.YtokbdleokihdaaaGreatDoor

/- The document's kid: the value of one Kid. The contract of the document's call: at CASE. The contract of the document's call: at COALESCE. The contract of the document's call: at the other operators. -/
import Derived.Test.YtokbdleokihdaaaDoorG20
import Derived.Test.YtokbdleokihdaaaDoorG22
import Derived.Test.YtokbdleokihdaaaDoorG21
namespace Go.Proofs.YtokbdleokihdaaaDoor
open Go.RowKit

/-- What the document answers: no value beside an error. -/
def outR (r : Dt × Int) : Dt × Int := if r.2 = 0 then r else (Dt.zero, r.2)
def outV (r : Dt × Int) : Value := .tuple #[(outR r).1.v, .int .i64 (outR r).2]
theorem outV_ok (d : Dt) : outV (d, 0) = .tuple #[d.v, .int .i64 0] := rfl
theorem outV_bad {r : Dt × Int} (h : r.2 ≠ 0) : outV r = .tuple #[Dt.zero.v, .int .i64 r.2] := by unfold outV outR; rw [if_neg h]
theorem outR_snd (r : Dt × Int) : (outR r).2 = r.2 := by unfold outR; split <;> rfl
theorem outR_vok {r : Dt × Int} (h : Vok r.1) : Vok (outR r).1 := by
  unfold outR
  split
  · exact h
  · exact Vok.zero
/-- The document's Of answers what an expression is worth, from a world on. -/
def RC (w : World) (env : List (List Dt)) (ve : Value) (x : Ex) : Prop :=
  x.right env = true → ∀ subs : List Dt, x.cnt ≤ subs.length → (∀ d ∈ subs, Vok d) → ∀ W vs, Below w.heap.size w W → DatS W vs subs →
    Calls Tryd.prog 13 #[x.v, ve, vs] W fun e w' => e = .returned (outV (x.val env subs)) ∧ Below W.heap.size W w'
theorem datS_take {W : World} {pv : Option Addr} {cv : Nat} {ds : List Dt} {n : Nat} (h : DatS W (.slice pv ds.length cv) ds) (hn : n ≤ ds.length) : DatS W (.slice pv n cv) (ds.take n) := by
  obtain ⟨p', cap', he, h1, h2, h3, h4⟩ := h
  injection he with e1 e2 e3
  subst e1 e3
  have hl : (ds.take n).length = n := by rw [List.length_take]; omega
  refine ⟨_, _, by rw [hl], by rw [hl]; omega, by omega, ?_, fun d hd => h4 d (List.mem_of_mem_take hd)⟩
  rcases h3 with h3 | ⟨b, o, rfl, hb, hc⟩
  · left; rw [h3]; simp
  · refine .inr ⟨b, o, rfl, hb, fun j hj => ?_⟩
    have hj2 : j < n := by rw [hl] at hj; exact hj
    have hdn : dnth (ds.take n) j = dnth ds j := by unfold dnth; simp [List.getD_eq_getElem?_getD, hj2]
    rw [hdn]
    exact hc j (by omega)
theorem datS_sub {W : World} {pv : Option Addr} {cv : Nat} {subs : List Dt} {m n : Nat} (h : DatS W (.slice pv subs.length cv) subs) (hm : m + n ≤ subs.length) :
    DatS W (.slice (if cv = m then pv else Option.map (fun x => x.add (m * 3)) pv) n (cv - m)) ((subs.drop m).take n) := by
  have hd := datS_drop h (m := m) (by omega)
  have hl : (subs.drop m).length = subs.length - m := List.length_drop
  rw [← hl] at hd
  exact datS_take hd (by omega)

theorem outV_form (r : Dt × Int) : ∃ k i s er, outV r = .tuple #[.agg #[.int .i64 k, .int .i64 i, .string s], .int .i64 er] := by
  unfold outV
  obtain ⟨⟨k, i, s⟩, er⟩ := outR r
  exact ⟨k, i, s, er, rfl⟩

set_option maxRecDepth 100000 in
set_option maxHeartbeats 8000000 in
theorem refkid_any {w : World} {k t : Int} {nl : Bool} {l : Dt} {lev col op : Int} {p : Option Addr} {cap : Nat} {ps : Option Addr} {ns cs : Nat} {kids : List Ex} {pe : Option Addr} {ne ce : Nat} (h1 : kids.length ≤ cap) (h2 : cap ≤ 1048576)
    (hk : kids = [] ∨ ∃ b o, p = some ⟨b, o, none⟩ ∧ b < w.heap.size ∧ KCells w b o kids) (hks : ∀ x ∈ kids, ExAt w x) (env : List (List Dt)) (subs : List Dt) (hr : rightL env kids = true) (hcnt : cntL kids ≤ 1000000000) (hsub : cntL kids ≤ subs.length) (hv : ∀ d ∈ subs, Vok d)
    (hRC : ∀ x ∈ kids, RC w env (.slice pe ne ce) x) (i : Nat) (r : Dt × Int) (hir : (valL env kids subs)[i]? = some r) (W : World) (vs : Value) (hW : Below w.heap.size w W) (hS : DatS W vs subs) :
    Calls Tryd.prog 28 #[.agg #[.int .i64 k, .int .i64 t, .bool nl, .int .i64 l.k, .int .i64 l.i, .string l.s, .int .i64 lev, .int .i64 col, .int .i64 op, .slice p kids.length cap, .slice ps ns cs], .int .i64 (i : Int), .slice pe ne ce, vs] W fun e w' => e = .returned (outV r) ∧ Below W.heap.size W w' := by
  have hil : i < kids.length := by have := (List.getElem?_eq_some_iff.1 hir).1; rwa [valL_length] at this
  have hne : kids ≠ [] := fun h => by rw [h] at hil; simp at hil
  obtain ⟨b, o, rfl, hbk, hc⟩ := hk.resolve_left hne
  have HVB := Lib.hid (VB.new W #[.int .i64 k, .int .i64 t, .bool nl, .int .i64 l.k, .int .i64 l.i, .string l.s, .int .i64 lev, .int .i64 col, .int .i64 op, .slice (some ⟨b, o, none⟩) kids.length cap, .slice ps ns cs] 27 23)
  have hval : ∀ y, kids[i]? = some y → r = y.val env (subs.drop (cntL (kids.take i))) := fun y hy => by
    have := valL_get env kids subs i hil
    rw [(List.getElem?_eq_some_iff.1 hy).2] at this
    rw [← this]
    exact ((List.getElem?_eq_some_iff.1 hir).2).symm
  have HC := Lib.hid hcnt
  have HKC := Lib.hid hc
  have HKS := Lib.hid hks
  have HW := Lib.hid hW
  have HS := Lib.hid hS
  have HRC := Lib.hid hRC
  have HR := Lib.hid hr
  have HV := Lib.hid hv
  have HSU := Lib.hid hsub
  have HVAL := Lib.hid hval
  have hL : kids.length ≤ 1048576 := by omega
  clear hcnt hc hks hW hS hRC hr hv hsub hir hne h1 hval
  generalize hlen : kids.length = n at *
  have HL := Lib.hid hlen
  clear hlen
  obtain ⟨pv, cv, rfl, hs1, hs2, -, -⟩ := id HS.out
  obtain ⟨rk, ri, rs, er, hor⟩ := outV_form r
  rw [hor]
  go_enter Tryd.func28, Tryd.ntmps28
  go_wp2_with fail
  go_loopw [10, 11] (fun fv jv wr => ∃ j : Nat, j ≤ i ∧ jv = .int .i64 (j : Int) ∧ fv = .int .i64 ((cntL (kids.take j) : Nat) : Int) ∧ VB W #[.int .i64 k, .int .i64 t, .bool nl, .int .i64 l.k, .int .i64 l.i, .string l.s, .int .i64 lev, .int .i64 col, .int .i64 op, .slice (some ⟨b, o, none⟩) n cap, .slice ps ns cs] wr) (fun _ jv _ => i - (intOf jv).toNat)
  case atStart => exact ⟨0, Nat.zero_le _, rfl, by simp [cntL], HVB.out⟩
  case round =>
    obtain ⟨j, hj, rfl, rfl, hvb⟩ := hrel
    have VBr := Lib.hid hvb
    have hzr := hvb.n
    obtain ⟨⟨a0, a1, a2, a3⟩, ⟨a4, a5, a6, a7⟩, a8, a9, a10⟩ := hvb.cells
    have hWr := hvb.b.size
    have hww := HW.out.size
    have HBW := Lib.hid (HW.out.trans (hvb.b.mono HW.out.size))
    have hjl : j < kids.length := by rw [HL.out]; omega
    have hjn : j < n := by omega
    obtain ⟨y, hy⟩ : ∃ y, kids[j] = y := ⟨_, rfl⟩
    have hyj : kids[j]? = some y := by rw [List.getElem?_eq_getElem hjl, hy]
    have hmem : y ∈ kids := List.mem_of_getElem? hyj
    have hex := HKS.out y hmem
    have hct := cntL_take kids j hjl
    rw [hy] at hct
    have hcl := cntL_take_le kids (j + 1)
    have hcc := HC.out
    have hcs := HSU.out
    have HCT := Lib.hid hct
    have hc1 : y.cnt ≤ 1000000000 := by omega
    have hs3 : cntL (kids.take j) + y.cnt ≤ 1000000000 := by omega
    have hs4 : cntL (kids.take j) + y.cnt ≤ subs.length := by omega
    have HY := Lib.hid (refsubs_any hex hc1)
    have HKC2 := Lib.hid hyj
    clear hvb hct hcl hcc hcs
    by_cases hlt : j < i
    · generalize cntL (kids.take j) = m at *
      generalize hcy : y.cnt = cy at *
      obtain ⟨k', t', nl', l', lev', col', op', kv', sv', kids'⟩ := y
      obtain ⟨p', cap', ps', ns', cs', rfl, rfl⟩ := hex.slices
      obtain ⟨⟨c0, c1, c2, c3⟩, ⟨c4, c5, c6, c7⟩, c8, c9, c10⟩ := HKC.out.at HBW.out hbk hyj
      simp only [Ex.v] at HY
      clear hex hyj hmem hy
      go_wp2_with (first | (go_at_call 9; refine (HY.out _ HBW.out).mono ?_; rintro e w2 ⟨v2, rfl, ⟨g2, cp2, xs2, rfl, -, -⟩, hb2⟩; have VB2 := Lib.hid (VBr.out.below hb2); clear hb2) | fail)
      go_roundw
      case rel => exact ⟨j + 1, by omega, by go_num, by rw [HCT.out]; go_num, VB2.out⟩
      case measure => simp [intOf]; omega
    · obtain rfl : j = i := by omega
      have hyr := (rightL_iff env kids).1 HR.out y hmem
      have HOF := Lib.hid (fun W2 (hW2 : Below w.heap.size w W2) pv2 nv2 cv2 (hS2 : DatS W2 (.slice pv2 nv2 cv2) ((subs.drop (cntL (kids.take j))).take y.cnt)) => HRC.out y hmem hyr _ (by rw [List.length_take, List.length_drop]; omega) (fun d hd => HV.out d (List.mem_of_mem_drop (List.mem_of_mem_take hd))) W2 _ hW2 hS2)
      rw [exval_take env _ y (Nat.le_refl _) _ _ (Nat.le_refl _), ← HVAL.out y hyj, hor] at HOF
      have HSS := Lib.hid (fun W2 (h : DatS W2 (.slice pv subs.length cv) subs) => datS_sub h hs4)
      clear HVAL
      generalize cntL (kids.take j) = m at *
      generalize hcy : y.cnt = cy at *
      obtain ⟨k', t', nl', l', lev', col', op', kv', sv', kids'⟩ := y
      obtain ⟨p', cap', ps', ns', cs', rfl, rfl⟩ := hex.slices
      obtain ⟨⟨c0, c1, c2, c3⟩, ⟨c4, c5, c6, c7⟩, c8, c9, c10⟩ := HKC.out.at HBW.out hbk hyj
      simp only [Ex.v] at HY HOF
      clear hex hmem hy hyr
      have hm0 : (0 : Int) ≤ (m : Int) := by omega
      have hm1 : (m : Int) ≤ (m : Int) + (cy : Int) := by omega
      have hm2 : (m : Int) + (cy : Int) ≤ (cv : Int) := by omega
      go_wp2_with (first | (go_at_call 9; refine (HY.out _ HBW.out).mono ?_; rintro e w2 ⟨v2, rfl, ⟨g2, cp2, xs2, rfl, -, -⟩, hb2⟩; have VB2 := Lib.hid (VBr.out.below hb2); have HB2 := Lib.hid (HBW.out.trans (hb2.mono HBW.out.size)); have hz2 := VB2.out.n; obtain ⟨r0, r1, r2⟩ := VB2.out.r; have f0 := VB2.out.f 0; have f1 := VB2.out.f 1; have f2 := VB2.out.f 2; have d9 := VB2.out.cells.2.2.2.1; obtain ⟨⟨e0, e1, e2, e3⟩, ⟨e4, e5, e6, e7⟩, e8, e9, e10⟩ := HKC.out.at HB2.out hbk HKC2.out; clear hb2 c0 c1 c2 c3 c4 c5 c6 c7 c8 c9 c10 a0 a1 a2 a3 a4 a5 a6 a7 a8 a9 a10) | fail)
      have hsl : ((m : Int) + (cy : Int)).toNat - m = cy := by omega
      go_region_with (first | (go_at_call 13; (try rw [hsl]); (refine (HOF.out _ HB2.out.drew _ _ _ (HSS.out _ (HS.out.later VB2.out.b.drew))).mono ?_); rintro e w3 ⟨rfl, hb3⟩; have VB3 := Lib.hid ((VB2.out.below (Below.refl _ _).drew).below hb3); have hz3 := VB3.out.n; obtain ⟨s0, s1, s2⟩ := VB3.out.r; have g0 := VB3.out.f 0; have g1 := VB3.out.f 1; have g2 := VB3.out.f 2; clear hb3 HSS HOF; generalize (if cv = m then pv else Option.map (fun x => x.add (m * 3)) pv) = pz) | fail)
      all_goals
        go_wp2_with fail
        refine bodyPost_ret (v := .tuple #[.agg #[.int .i64 rk, .int .i64 ri, .string rs], .int .i64 er]) (by simp [results, Tryd.results28, go_sem, s0, s1, s2]) rfl ⟨rfl, ?_⟩
        exact ((VB3.out.b.setCell (p := ⟨W.heap.size + 1, 0, none⟩) (Nat.le_succ _) _).setCell (p := ⟨W.heap.size + 1, 1, none⟩) (Nat.le_succ _) _).setCell (p := ⟨W.heap.size + 1, 2, none⟩) (Nat.le_succ _) _
end Go.Proofs.YtokbdleokihdaaaDoor
namespace Go.Proofs.YtokbdleokihdaaaDoor
open Go.RowKit

theorem VB.n0 {W : World} {xs : Array Value} {w' : World} (h : VB W xs w') : W.heap.size < w'.heap.size := by have := h.n; omega
theorem VB.belowB {W : World} {xs : Array Value} {B : Nat} {w1 w2 : World} (h : VB W xs w1) (hB : W.heap.size + 2 ≤ B) (hb : Below B w1 w2) : VB W xs w2 := by
  have hn := h.n
  have hc : ∀ i, w2.cell? ⟨W.heap.size + 1, i, none⟩ = w1.cell? ⟨W.heap.size + 1, i, none⟩ := fun i => hb.cell (p := ⟨W.heap.size + 1, i, none⟩) (by show W.heap.size + 1 < _; omega)
  refine ⟨h.b.trans (hb.mono (by omega)), by have := hb.size; omega, fun i => ?_, by rw [hc, hc, hc]; exact h.r, fun i => ?_⟩
  · rw [hb.cell (p := ⟨W.heap.size, i, none⟩) (by show W.heap.size < _; omega)]; exact h.e i
  · rw [hb.frozen (p := ⟨W.heap.size + 1, i, none⟩) (by show W.heap.size + 1 < _; omega)]; exact h.f i
/-- The document's kid answers the i-th of some results, from a world on. -/
def RKid (W : World) (xs : Array Value) (ve vs : Value) (rs : List (Dt × Int)) : Prop :=
  ∀ (i : Nat) (r : Dt × Int), rs[i]? = some r → ∀ W2, Below W.heap.size W W2 → Calls Tryd.prog 28 #[.agg xs, .int .i64 (i : Int), ve, vs] W2 fun e w' => e = .returned (outV r) ∧ Below W2.heap.size W2 w'
theorem outV_ok' (k i : Int) (s : ByteArray) : outV (⟨k, i, s⟩, 0) = .tuple #[.agg #[.int .i64 k, .int .i64 i, .string s], .int .i64 0] := rfl
theorem outV_bad' {r : Dt × Int} (h : r.2 ≠ 0) : outV r = .tuple #[.agg #[.int .i64 0, .int .i64 0, .string ⟨#[]⟩], .int .i64 r.2] := outV_bad h

set_option maxRecDepth 100000 in
set_option maxHeartbeats 1200000 in
theorem refcall_case (k t : Int) (nl : Bool) (l : Dt) (lev col : Int) (p : Option Addr) (n cap : Nat) (ps : Option Addr) (ns cs : Nat) (pe : Option Addr) (ne ce : Nat) (pv : Option Addr) (nv cv : Nat) (W : World) (hnm : n ≤ 1048576)
    (rs : List (Dt × Int)) (hrl : rs.length = n) (hV : ∀ r ∈ rs, Vok r.1)
    (hKid : RKid W #[.int .i64 k, .int .i64 t, .bool nl, .int .i64 l.k, .int .i64 l.i, .string l.s, .int .i64 lev, .int .i64 col, .int .i64 16, .slice p n cap, .slice ps ns cs] (.slice pe ne ce) (.slice pv nv cv) rs) :
    Calls Tryd.prog 22 #[.agg #[.int .i64 k, .int .i64 t, .bool nl, .int .i64 l.k, .int .i64 l.i, .string l.s, .int .i64 lev, .int .i64 col, .int .i64 16, .slice p n cap, .slice ps ns cs], .slice pe ne ce, .slice pv nv cv] W fun e w' => e = .returned (outV (caseF rs)) ∧ Below W.heap.size W w' := by
  have HVB := Lib.hid (VB.new W #[.int .i64 k, .int .i64 t, .bool nl, .int .i64 l.k, .int .i64 l.i, .string l.s, .int .i64 lev, .int .i64 col, .int .i64 16, .slice p n cap, .slice ps ns cs] 27 23)
  have HKD := Lib.hid hKid
  have HV := Lib.hid hV
  have HRL := Lib.hid hrl
  clear hKid hV hrl
  go_enter Tryd.func22, Tryd.ntmps22
  go_wp2_with fail
  go_loopw [9] (fun iv wr => ∃ i : Nat, i ≤ n ∧ i % 2 = 0 ∧ iv = .int .i64 (i : Int) ∧ caseF rs = caseF (rs.drop i) ∧ VB W #[.int .i64 k, .int .i64 t, .bool nl, .int .i64 l.k, .int .i64 l.i, .string l.s, .int .i64 lev, .int .i64 col, .int .i64 16, .slice p n cap, .slice ps ns cs] wr) (fun iv _ => n + 2 - (intOf iv).toNat)
  case atStart => exact ⟨0, Nat.zero_le _, rfl, rfl, rfl, HVB.out⟩
  case round =>
    obtain ⟨i, hi, hpar, rfl, hF, hvb⟩ := hrel
    have HF := Lib.hid hF
    have VBr := Lib.hid hvb
    have hzr := hvb.n
    have hzz := hvb.n1
    have hzy := hvb.n0
    obtain ⟨⟨a0, a1, a2, a3⟩, ⟨a4, a5, a6, a7⟩, a8, a9, a10⟩ := hvb.cells
    obtain ⟨r0, r1, r2⟩ := hvb.r
    have f0 := hvb.f 0
    have f1 := hvb.f 1
    have f2 := hvb.f 2
    clear hF hvb
    by_cases hlt : i + 1 < n
    · obtain ⟨c, hc⟩ : ∃ c, rs[i]? = some c := ⟨rs[i]'(by rw [HRL.out]; omega), List.getElem?_eq_getElem _⟩
      obtain ⟨v, hv⟩ : ∃ v, rs[i + 1]? = some v := ⟨rs[i + 1]'(by rw [HRL.out]; omega), List.getElem?_eq_getElem _⟩
      have HD := Lib.hid (HF.out.trans (caseF_drop hc hv))
      have HK1 := Lib.hid (HKD.out i c hc)
      have HK2 := Lib.hid (HKD.out (i + 1) v hv)
      have hcv := HV.out c (List.mem_of_getElem? hc)
      clear hc hv
      obtain ⟨⟨ck, ci, cs'⟩, er⟩ := c
      by_cases he : er = 0
      · subst he
        rw [outV_ok'] at HK1
        have h0 : 0 ≤ ck := hcv.k
        by_cases hk1 : ck = 1
        · subst hk1
          have hi01 := (hcv.truth rfl).1
          simp only at hi01
          rcases hi01 with rfl | rfl
          · have HE := Lib.hid (show caseF rs = caseF (rs.drop (i + 2)) by rw [HD.out]; rfl)
            clear HD
            go_wp2_with (first | (go_at_call 28; refine (HK1.out _ VBr.out.b).mono ?_; rintro e wV2 ⟨rfl, hb2⟩; have V2 := Lib.hid (VBr.out.below hb2); have zV2 := V2.out.n; have zzV2 := V2.out.n1; have zyV2 := V2.out.n0; obtain ⟨⟨a0V2, a1V2, a2V2, a3V2⟩, ⟨a4V2, a5V2, a6V2, a7V2⟩, a8V2, a9V2, a10V2⟩ := V2.out.cells; obtain ⟨r0V2, r1V2, r2V2⟩ := V2.out.r; have f0V2 := V2.out.f 0; have f1V2 := V2.out.f 1; have f2V2 := V2.out.f 2; clear hb2) | fail)
            go_roundw
            case rel => exact ⟨i + 2, by omega, by omega, by go_num, HE.out, V2.out.below ((Below.refl _ _).alloc (Nat.le_refl _) _)⟩
            case measure => simp [intOf]; omega
          · have HE := Lib.hid (show caseF rs = v by rw [HD.out]; rfl)
            clear HD
            obtain ⟨xk, xi, xs, xe, hor⟩ := outV_form v
            rw [hor] at HK2
            have HOR := Lib.hid (show outV (caseF rs) = _ from (congrArg outV HE.out).trans hor)
            clear hor
            go_wp2_with (first | (go_at_call_of 28 (Value.int IntKind.i64 (i : Int)); refine (HK1.out _ VBr.out.b).mono ?_; rintro e wV2 ⟨rfl, hb2⟩; have V2 := Lib.hid (VBr.out.below hb2); have zV2 := V2.out.n; have zzV2 := V2.out.n1; have zyV2 := V2.out.n0; obtain ⟨⟨a0V2, a1V2, a2V2, a3V2⟩, ⟨a4V2, a5V2, a6V2, a7V2⟩, a8V2, a9V2, a10V2⟩ := V2.out.cells; obtain ⟨r0V2, r1V2, r2V2⟩ := V2.out.r; have f0V2 := V2.out.f 0; have f1V2 := V2.out.f 1; have f2V2 := V2.out.f 2; clear hb2) | (go_at_call 28; refine (HK2.out _ (V2.out.b.alloc V2.out.b.size _)).mono ?_; rintro e wV3 ⟨rfl, hb2⟩; have V3 := Lib.hid ((V2.out.below ((Below.refl _ _).alloc (Nat.le_refl _) _)).below hb2); have zV3 := V3.out.n; have zzV3 := V3.out.n1; have zyV3 := V3.out.n0; obtain ⟨⟨a0V3, a1V3, a2V3, a3V3⟩, ⟨a4V3, a5V3, a6V3, a7V3⟩, a8V3, a9V3, a10V3⟩ := V3.out.cells; obtain ⟨r0V3, r1V3, r2V3⟩ := V3.out.r; have f0V3 := V3.out.f 0; have f1V3 := V3.out.f 1; have f2V3 := V3.out.f 2; clear hb2) | fail)
            refine bodyPost_ret (v := .tuple #[.agg #[.int .i64 xk, .int .i64 xi, .string xs], .int .i64 xe]) (by simp [results, Tryd.results22, go_sem, r0V3, r1V3, r2V3]) rfl ⟨congrArg Ending.returned HOR.out.symm, ?_⟩
            exact (((V3.out.b.setCell (p := ⟨W.heap.size + 1, 0, none⟩) (Nat.le_succ _) _).setCell (p := ⟨W.heap.size + 1, 1, none⟩) (Nat.le_succ _) _).setCell (p := ⟨W.heap.size + 1, 2, none⟩) (Nat.le_succ _) _)
        · have b1 : (ck == 1) = false := by simpa using hk1
          by_cases hk0 : ck = 0
          · subst hk0
            have HE := Lib.hid (show caseF rs = caseF (rs.drop (i + 2)) by rw [HD.out]; rfl)
            clear HD
            go_wp2_with (first | (go_at_call 28; refine (HK1.out _ VBr.out.b).mono ?_; rintro e wV2 ⟨rfl, hb2⟩; have V2 := Lib.hid (VBr.out.below hb2); have zV2 := V2.out.n; have zzV2 := V2.out.n1; have zyV2 := V2.out.n0; obtain ⟨⟨a0V2, a1V2, a2V2, a3V2⟩, ⟨a4V2, a5V2, a6V2, a7V2⟩, a8V2, a9V2, a10V2⟩ := V2.out.cells; obtain ⟨r0V2, r1V2, r2V2⟩ := V2.out.r; have f0V2 := V2.out.f 0; have f1V2 := V2.out.f 1; have f2V2 := V2.out.f 2; clear hb2) | fail)
            go_roundw
            case rel => exact ⟨i + 2, by omega, by omega, by go_num, HE.out, V2.out.below ((Below.refl _ _).alloc (Nat.le_refl _) _)⟩
            case measure => simp [intOf]; omega
          · have HE := Lib.hid (show outV (caseF rs) = .tuple #[.agg #[.int .i64 0, .int .i64 0, .string ⟨#[]⟩], .int .i64 5] by rw [HD.out, if_neg (fun h => h rfl), if_pos (show 1 < ck by omega)]; rfl)
            have hgt : 1 < ck := by omega
            clear HD
            go_wp2_with (first | (go_at_call 28; refine (HK1.out _ VBr.out.b).mono ?_; rintro e wV2 ⟨rfl, hb2⟩; have V2 := Lib.hid (VBr.out.below hb2); have zV2 := V2.out.n; have zzV2 := V2.out.n1; have zyV2 := V2.out.n0; obtain ⟨⟨a0V2, a1V2, a2V2, a3V2⟩, ⟨a4V2, a5V2, a6V2, a7V2⟩, a8V2, a9V2, a10V2⟩ := V2.out.cells; obtain ⟨r0V2, r1V2, r2V2⟩ := V2.out.r; have f0V2 := V2.out.f 0; have f1V2 := V2.out.f 1; have f2V2 := V2.out.f 2; clear hb2) | fail)
            refine bodyPost_ret (v := .tuple #[.agg #[.int .i64 0, .int .i64 0, .string ⟨#[]⟩], .int .i64 5]) (by simp [results, Tryd.results22, go_sem, r0V2, r1V2, r2V2, World.cell?_alloc_past, zzV2]) rfl ⟨congrArg Ending.returned HE.out.symm, ?_⟩
            exact (((V2.out.b.setCell (p := ⟨W.heap.size + 1, 0, none⟩) (Nat.le_succ _) _).setCell (p := ⟨W.heap.size + 1, 1, none⟩) (Nat.le_succ _) _).setCell (p := ⟨W.heap.size + 1, 2, none⟩) (Nat.le_succ _) _).alloc (Nat.le_trans V2.out.b.size (by simp)) _
      · have HE := Lib.hid (show outV (caseF rs) = .tuple #[.agg #[.int .i64 0, .int .i64 0, .string ⟨#[]⟩], .int .i64 er] by rw [HD.out, if_pos he]; exact outV_bad' (r := (Dt.zero, er)) he)
        rw [outV_bad' (r := (⟨ck, ci, cs'⟩, er)) he] at HK1
        clear HD
        go_wp2_with (first | (go_at_call 28; refine (HK1.out _ VBr.out.b).mono ?_; rintro e wV2 ⟨rfl, hb2⟩; have V2 := Lib.hid (VBr.out.below hb2); have zV2 := V2.out.n; have zzV2 := V2.out.n1; have zyV2 := V2.out.n0; obtain ⟨⟨a0V2, a1V2, a2V2, a3V2⟩, ⟨a4V2, a5V2, a6V2, a7V2⟩, a8V2, a9V2, a10V2⟩ := V2.out.cells; obtain ⟨r0V2, r1V2, r2V2⟩ := V2.out.r; have f0V2 := V2.out.f 0; have f1V2 := V2.out.f 1; have f2V2 := V2.out.f 2; clear hb2) | fail)
        refine bodyPost_ret (v := .tuple #[.agg #[.int .i64 0, .int .i64 0, .string ⟨#[]⟩], .int .i64 er]) (by simp [results, Tryd.results22, go_sem, r0V2, r1V2, r2V2, World.cell?_alloc_past, zzV2]) rfl ⟨congrArg Ending.returned HE.out.symm, ?_⟩
        exact (((V2.out.b.setCell (p := ⟨W.heap.size + 1, 0, none⟩) (Nat.le_succ _) _).setCell (p := ⟨W.heap.size + 1, 1, none⟩) (Nat.le_succ _) _).setCell (p := ⟨W.heap.size + 1, 2, none⟩) (Nat.le_succ _) _).alloc (Nat.le_trans V2.out.b.size (by simp)) _
    · by_cases h1 : i < n
      · obtain ⟨c, hc⟩ : ∃ c, rs[i]? = some c := ⟨rs[i]'(by rw [HRL.out]; omega), List.getElem?_eq_getElem _⟩
        have hn1 : (n : Int) - 1 = (i : Int) := by omega
        have hn3 : n % 2 = 1 := by omega
        have hn2 : (n : Int).tmod 2 = 1 := by rw [show (2 : Int) = ((2 : Nat) : Int) from rfl, ← Int.ofNat_tmod]; omega
        have HE := Lib.hid (show caseF rs = c by
          rw [HF.out, List.drop_eq_getElem_cons (by rw [HRL.out]; omega), List.drop_eq_nil_of_le (by rw [HRL.out]; omega), (List.getElem?_eq_some_iff.1 hc).2, caseF])
        have HK1 := Lib.hid (HKD.out i c hc)
        obtain ⟨xk, xi, xs, xe, hor⟩ := outV_form c
        rw [hor] at HK1
        have HOR := Lib.hid (show outV (caseF rs) = _ from (congrArg outV HE.out).trans hor)
        clear hc hor
        go_wp2_with (first | (rw [hn1]; go_at_call 28; refine (HK1.out _ VBr.out.b).mono ?_; rintro e wV2 ⟨rfl, hb2⟩; have V2 := Lib.hid (VBr.out.below hb2); have zV2 := V2.out.n; have zzV2 := V2.out.n1; have zyV2 := V2.out.n0; obtain ⟨⟨a0V2, a1V2, a2V2, a3V2⟩, ⟨a4V2, a5V2, a6V2, a7V2⟩, a8V2, a9V2, a10V2⟩ := V2.out.cells; obtain ⟨r0V2, r1V2, r2V2⟩ := V2.out.r; have f0V2 := V2.out.f 0; have f1V2 := V2.out.f 1; have f2V2 := V2.out.f 2; clear hb2) | (go_at_call 28; refine (HK1.out _ VBr.out.b).mono ?_; rintro e wV2 ⟨rfl, hb2⟩; have V2 := Lib.hid (VBr.out.below hb2); have zV2 := V2.out.n; have zzV2 := V2.out.n1; have zyV2 := V2.out.n0; obtain ⟨⟨a0V2, a1V2, a2V2, a3V2⟩, ⟨a4V2, a5V2, a6V2, a7V2⟩, a8V2, a9V2, a10V2⟩ := V2.out.cells; obtain ⟨r0V2, r1V2, r2V2⟩ := V2.out.r; have f0V2 := V2.out.f 0; have f1V2 := V2.out.f 1; have f2V2 := V2.out.f 2; clear hb2) | fail)
        refine bodyPost_ret (v := .tuple #[.agg #[.int .i64 xk, .int .i64 xi, .string xs], .int .i64 xe]) (by simp [results, Tryd.results22, go_sem, r0V2, r1V2, r2V2]) rfl ⟨congrArg Ending.returned HOR.out.symm, ?_⟩
        exact (((V2.out.b.setCell (p := ⟨W.heap.size + 1, 0, none⟩) (Nat.le_succ _) _).setCell (p := ⟨W.heap.size + 1, 1, none⟩) (Nat.le_succ _) _).setCell (p := ⟨W.heap.size + 1, 2, none⟩) (Nat.le_succ _) _)
      · have HE := Lib.hid (show outV (caseF rs) = .tuple #[.agg #[.int .i64 0, .int .i64 0, .string ⟨#[]⟩], .int .i64 0] by
          rw [HF.out, List.drop_eq_nil_of_le (by rw [HRL.out]; omega), caseF]; rfl)
        have hn3 : n % 2 = 0 := by omega
        have hn2 : (n : Int).tmod 2 = 0 := by rw [show (2 : Int) = ((2 : Nat) : Int) from rfl, ← Int.ofNat_tmod]; omega
        go_wp2_with fail
        refine bodyPost_ret (v := .tuple #[.agg #[.int .i64 0, .int .i64 0, .string ⟨#[]⟩], .int .i64 0]) (by simp [results, Tryd.results22, go_sem, r0, r1, r2]) rfl ⟨congrArg Ending.returned HE.out.symm, ?_⟩
        exact (((VBr.out.b.setCell (p := ⟨W.heap.size + 1, 0, none⟩) (Nat.le_succ _) _).setCell (p := ⟨W.heap.size + 1, 1, none⟩) (Nat.le_succ _) _).setCell (p := ⟨W.heap.size + 1, 2, none⟩) (Nat.le_succ _) _)

end Go.Proofs.YtokbdleokihdaaaDoor
namespace Go.Proofs.YtokbdleokihdaaaDoor
open Go.RowKit

theorem numA_zero (ds : List Dt) (r : Dt × Bool) (h : (numA ds r).2 ≠ 0) : (numA ds r).1 = Dt.zero := by
  unfold numA at h ⊢
  split
  · rename_i h1
    rw [if_pos h1] at h
    split
    · rfl
    · rename_i h2
      rw [if_neg h2] at h
      split
      · rename_i h3
        rw [if_pos h3] at h
        exact absurd rfl h
      · rfl
  · rfl
theorem app1_zero (op : Int) (d : Dt) (h : (app1 op d).2 ≠ 0) : (app1 op d).1 = Dt.zero := by
  unfold app1 at h ⊢
  repeat' split
  all_goals simp only [*, if_true, if_false] at h
  · exact numA_zero _ _ h
  · unfold notR at h ⊢
    split
    · rename_i h1; rw [if_pos h1] at h; exact absurd rfl h
    · rfl
  · exact absurd rfl h
  · unfold lenR at h ⊢
    split
    · rename_i h1; rw [if_pos h1] at h; exact absurd rfl h
    · rfl
  · exact numA_zero _ _ h
  · exact numA_zero _ _ h
theorem andorR_zero (st : Int) (d d' : Dt) (h : (andorR st d d').2 ≠ 0) : (andorR st d d').1 = Dt.zero := by
  unfold andorR at h ⊢
  split
  · rename_i h1; rw [if_pos h1] at h; exact absurd rfl h
  · rfl
theorem app2_zero (op : Int) (d d' : Dt) (h : (app2 op d d').2 ≠ 0) : (app2 op d d').1 = Dt.zero := by
  unfold app2 at h ⊢
  repeat' split
  all_goals simp only [*, if_true, if_false] at h
  · exact numA_zero _ _ h
  · unfold cmpR at h ⊢
    split
    · rfl
    · rename_i h1; rw [if_neg h1] at h; exact absurd rfl h
  · exact andorR_zero _ _ _ h
  · exact andorR_zero _ _ _ h
theorem appF_zero (op : Int) (ds : List Dt) (h : (appF op ds).2 ≠ 0) : (appF op ds).1 = Dt.zero := by
  unfold appF at h ⊢
  split
  · rfl
  · rename_i h1
    rw [if_neg h1] at h
    split
    · rename_i h2
      rw [if_pos h2] at h
      split
      · exact app1_zero _ _ h
      · exact app2_zero _ _ _ h
      · rfl
    · rfl
theorem outV_appF (op : Int) (ds : List Dt) : outV (appF op ds) = .tuple #[(appF op ds).1.v, .int .i64 (appF op ds).2] := by
  unfold outV outR
  split
  · rfl
  · rename_i h
    rw [appF_zero op ds h]
theorem strict_step {op : Int} {rs : List (Dt × Int)} {i : Nat} {r : Dt × Int} (h : rs[i]? = some r) (h0 : r.2 = 0) :
    strictF op ((rs.take i).map (·.1)) (rs.drop i) = if i = 0 ∧ shortF op r.1 = true then r else strictF op ((rs.take (i + 1)).map (·.1)) (rs.drop (i + 1)) := by
  have hi : i < rs.length := (List.getElem?_eq_some_iff.1 h).1
  have hr : rs[i] = r := (List.getElem?_eq_some_iff.1 h).2
  have hm : (rs.take (i + 1)).map (·.1) = (rs.take i).map (·.1) ++ [r.1] := by rw [List.take_add_one, h, List.map_append]; rfl
  rw [hm, List.drop_eq_getElem_cons hi, hr]
  rw [strictF, if_neg (by simp [h0])]
  have hc : ((rs.take i).map (·.1) = ([] : List Dt)) ↔ i = 0 := by
    constructor
    · intro he
      have := congrArg List.length he
      rw [List.length_map, List.length_take, List.length_nil] at this
      omega
    · intro he; rw [he]; rfl
  by_cases hs : shortF op r.1 = true
  · by_cases h1 : i = 0
    · rw [if_pos ⟨hc.2 h1, hs⟩, if_pos ⟨h1, hs⟩]
    · rw [if_neg (fun h => h1 (hc.1 h.1)), if_neg (fun h => h1 h.1)]
  · rw [if_neg (fun h => hs h.2), if_neg (fun h => hs h.2)]
theorem strict_bad {op : Int} {rs : List (Dt × Int)} {acc : List Dt} {i : Nat} {r : Dt × Int} (h : rs[i]? = some r) (h0 : r.2 ≠ 0) : strictF op acc (rs.drop i) = (Dt.zero, r.2) := by
  have hi : i < rs.length := (List.getElem?_eq_some_iff.1 h).1
  have hr : rs[i] = r := (List.getElem?_eq_some_iff.1 h).2
  rw [List.drop_eq_getElem_cons hi, hr]
  rw [strictF, if_pos h0]
theorem refbool_f (w : World) : Calls Tryd.prog 29 #[.bool false] w fun e w' => e = .returned (.agg #[.int .i64 1, .int .i64 0, .string ⟨#[]⟩]) ∧ Below w.heap.size w w' := refbool_any false w
theorem refbool_t (w : World) : Calls Tryd.prog 29 #[.bool true] w fun e w' => e = .returned (.agg #[.int .i64 1, .int .i64 1, .string ⟨#[]⟩]) ∧ Below w.heap.size w w' := refbool_any true w

set_option maxRecDepth 100000 in
set_option maxHeartbeats 1200000 in
theorem refcall_coal (k t : Int) (nl : Bool) (l : Dt) (lev col : Int) (p : Option Addr) (n cap : Nat) (ps : Option Addr) (ns cs : Nat) (pe : Option Addr) (ne ce : Nat) (pv : Option Addr) (nv cv : Nat) (W : World) (hnm : n ≤ 1048576)
    (rs : List (Dt × Int)) (hrl : rs.length = n) (hV : ∀ r ∈ rs, Vok r.1)
    (hKid : RKid W #[.int .i64 k, .int .i64 t, .bool nl, .int .i64 l.k, .int .i64 l.i, .string l.s, .int .i64 lev, .int .i64 col, .int .i64 17, .slice p n cap, .slice ps ns cs] (.slice pe ne ce) (.slice pv nv cv) rs) :
    Calls Tryd.prog 22 #[.agg #[.int .i64 k, .int .i64 t, .bool nl, .int .i64 l.k, .int .i64 l.i, .string l.s, .int .i64 lev, .int .i64 col, .int .i64 17, .slice p n cap, .slice ps ns cs], .slice pe ne ce, .slice pv nv cv] W fun e w' => e = .returned (outV (coalF rs)) ∧ Below W.heap.size W w' := by
  have HVB := Lib.hid (VB.new W #[.int .i64 k, .int .i64 t, .bool nl, .int .i64 l.k, .int .i64 l.i, .string l.s, .int .i64 lev, .int .i64 col, .int .i64 17, .slice p n cap, .slice ps ns cs] 27 23)
  have HKD := Lib.hid hKid
  have HV := Lib.hid hV
  have HRL := Lib.hid hrl
  clear hKid hV hrl
  obtain ⟨i0, hi', hz0, hz1, hz2⟩ := info_parts Dtinfo
  have HN := Lib.hid (ownsRow_new ((W.alloc (.cells #[.int .i64 k, .int .i64 t, .bool nl, .int .i64 l.k, .int .i64 l.i, .string l.s, .int .i64 lev, .int .i64 col, .int .i64 17, .slice p n cap, .slice ps ns cs] 27)).alloc (.cells #[.int .i64 0, .int .i64 0, .string ⟨#[]⟩] 23)) (W.heap.size + 2) (by simp) 23 3 0 #[] rfl (Nat.zero_le _))
  simp only [World.size_alloc] at HN
  go_enter Tryd.func22, Tryd.ntmps22
  go_wp2_with fail
  go_loopw [12, 13] (fun lv iv wr => ∃ i : Nat, i ≤ n ∧ iv = .int .i64 (i : Int) ∧ coalF rs = coalF (rs.drop i) ∧ VB W #[.int .i64 k, .int .i64 t, .bool nl, .int .i64 l.k, .int .i64 l.i, .string l.s, .int .i64 lev, .int .i64 col, .int .i64 17, .slice p n cap, .slice ps ns cs] wr ∧ wr.ownsRow (W.heap.size + 2) 23 3 lv i (dtCells ((rs.take i).map (·.1)))) (fun _ iv _ => n - (intOf iv).toNat)
  case atStart => exact ⟨0, Nat.zero_le _, rfl, rfl, HVB.out.below ((Below.refl _ _).alloc (Nat.le_refl _) _), HN.out⟩
  case round =>
    obtain ⟨i, hi, rfl, hF, hvb, hrow⟩ := hrel
    have HF := Lib.hid hF
    have VBr := Lib.hid hvb
    have HROW := Lib.hid hrow
    obtain ⟨lp, ln, lc, hlv⟩ := owns_slice hrow
    subst hlv
    have hzr := hvb.n
    have hzz := hvb.n1
    have hzy := hvb.n0
    obtain ⟨⟨a0, a1, a2, a3⟩, ⟨a4, a5, a6, a7⟩, a8, a9, a10⟩ := hvb.cells
    obtain ⟨r0, r1, r2⟩ := hvb.r
    have f0 := hvb.f 0
    have f1 := hvb.f 1
    have f2 := hvb.f 2
    clear hF hvb hrow HN HVB
    by_cases hlt : i < n
    · obtain ⟨c, hc⟩ : ∃ c, rs[i]? = some c := ⟨rs[i]'(by rw [HRL.out]; omega), List.getElem?_eq_getElem _⟩
      have HK1 := Lib.hid (HKD.out i c hc)
      have hcv := HV.out c (List.mem_of_getElem? hc)
      have HCI := Lib.hid hc
      clear hc
      obtain ⟨⟨ck, ci, cs'⟩, er⟩ := c
      by_cases he : er = 0
      · subst he
        rw [outV_ok'] at HK1
        have HTK := Lib.hid (show dtCells ((rs.take (i + 1)).map (·.1)) = dtCells ((rs.take i).map (·.1)) ++ [.int .i64 ck, .int .i64 ci, .string cs'] by rw [List.take_add_one, HCI.out, List.map_append]; exact dtCells_snoc _ _)
        have HD := Lib.hid (HF.out.trans (coalF_drop HCI.out))
        by_cases hk0 : ck = 0
        · have HE := Lib.hid (show coalF rs = coalF (rs.drop (i + 1)) by rw [HD.out, if_neg (fun h => h rfl), if_neg (fun h => h hk0)])
          have bk0 : (ck == 0) = true := by simpa using hk0
          clear hk0 HD
          go_wp2_with (first | (go_at_call 28; refine (HK1.out _ VBr.out.b).mono ?_; rintro e wV2 ⟨rfl, hb2⟩; have V2 := Lib.hid (VBr.out.below hb2); have zV2 := V2.out.n; have zzV2 := V2.out.n1; have zyV2 := V2.out.n0; obtain ⟨⟨a0V2, a1V2, a2V2, a3V2⟩, ⟨a4V2, a5V2, a6V2, a7V2⟩, a8V2, a9V2, a10V2⟩ := V2.out.cells; obtain ⟨r0V2, r1V2, r2V2⟩ := V2.out.r; have f0V2 := V2.out.f 0; have f1V2 := V2.out.f 1; have f2V2 := V2.out.f 2; have HRW2 := Lib.hid (ownsRow_later HROW.out hb2); clear hb2) | fail)
          obtain ⟨W0, hW0⟩ : ∃ W0, W0 = wV2.alloc (.cells #[.int .i64 ck, .int .i64 ci, .string cs'] 23) := ⟨_, rfl⟩
          have VB0 := Lib.hid (show VB W #[.int .i64 k, .int .i64 t, .bool nl, .int .i64 l.k, .int .i64 l.i, .string l.s, .int .i64 lev, .int .i64 col, .int .i64 17, .slice p n cap, .slice ps ns cs] W0 by rw [hW0]; exact V2.out.below ((Below.refl _ _).alloc (Nat.le_refl _) _))
          have HR0 := Lib.hid (show W0.ownsRow (W.heap.size + 2) 23 3 (.slice lp ln lc) i (dtCells ((rs.take i).map (·.1))) by rw [hW0]; exact HRW2.out.alloc _)
          have hnb : wV2.heap.size < W0.heap.size := by rw [hW0]; simp
          have q0 : W0.cell? ⟨wV2.heap.size, 0, none⟩ = some (.int .i64 ck) := by rw [hW0, World.cell?_alloc_new]; rfl
          have q1 : W0.cell? ⟨wV2.heap.size, 1, none⟩ = some (.int .i64 ci) := by rw [hW0, World.cell?_alloc_new]; rfl
          have q2 : W0.cell? ⟨wV2.heap.size, 2, none⟩ = some (.string cs') := by rw [hW0, World.cell?_alloc_new]; rfl
          rw [← hW0]
          clear hW0 HRW2 V2 zV2 zzV2 zyV2 a0V2 a1V2 a2V2 a3V2 a4V2 a5V2 a6V2 a7V2 a8V2 a9V2 a10V2 r0V2 r1V2 r2V2 f0V2 f1V2 f2V2
          generalize wV2.heap.size = nb at *
          have zn0 := VB0.out.n0
          have g8 := after_cell (show W0.cell? ⟨W.heap.size, 8, none⟩ = some (.int .i64 17) from VB0.out.cells.2.2.1) zn0
          have g0 := after_cell q0 hnb
          have g1 := after_cell q1 hnb
          have g2 := after_cell q2 hnb
          have hgn := GW.ne (Inv := After W0) (Below.refl _ _)
          refine wp_region_grow (After W0) (by kernel_rfl) (by kernel_rfl) (Below.refl _ _).drew ?_
          repeat (go_big_quiet_step (fail))
          refine wpQuiet_nil ?_
          intro w4 hw'
          obtain ⟨⟨wx, h4⟩, hw''⟩ := hw'
          subst hw''
          have VB4 := Lib.hid (VB0.out.below h4)
          have HR4 := Lib.hid (ownsRow_later HR0.out h4)
          have p0 := (h4.cell (p := ⟨nb, 0, none⟩) hnb).trans q0
          have p1 := (h4.cell (p := ⟨nb, 1, none⟩) hnb).trans q1
          have p2 := (h4.cell (p := ⟨nb, 2, none⟩) hnb).trans q2
          have z4 := VB4.out.n
          have zz4 := VB4.out.n1
          obtain ⟨r04, r14, r24⟩ := VB4.out.r
          have f04 := VB4.out.f 0
          have f14 := VB4.out.f 1
          have f24 := VB4.out.f 2
          clear h4 hgn g8 g0 g1 g2 q0 q1 q2 hnb VB0 HR0 zn0
          go_wp2_with (at_builtin; go_loud (refine wpList_append_own _ rfl _ _ 29 rfl (W.heap.size + 2) 23 i0 (.agg #[.int .i64 0, .int .i64 0, .string ⟨#[]⟩]) 3 32 Tryd.underlying29 hi' hz0 hz1 hz2 rfl (by decide) _ _ _ rfl (HR4.out.alloc _) ⟨w4.heap.size, 0, none⟩ 1 1 [.int .i64 ck, .int .i64 ci, .string cs'] rfl rfl (cell3n _ _ _ _ _) (by simp [Value.oneCell']) (by unfold maxLen; omega) (by omega) (by simp; omega) ?_); intro v' w5 hown' hg5 _; have HO5 := Lib.hid hown'; have HG5 := Lib.hid hg5; clear hown' hg5; go_frame)
          go_roundw
          case rel => exact ⟨i + 1, by omega, by go_num, HE.out, VB4.out.belowB (Nat.le_refl _) (((Below.refl _ _).alloc (by omega) _).grown HG5.out (by simp; omega) (fun j hj => (HR4.out.lt j hj).1)), by rw [HTK.out]; exact HO5.out⟩
          case measure => simp [intOf]; omega
        · have bk0 : (ck == 0) = false := by simpa using hk0
          have HE := Lib.hid (show outV (coalF rs) = .tuple #[.agg #[.int .i64 ck, .int .i64 ci, .string cs'], .int .i64 0] by rw [HD.out, if_neg (fun h => h rfl), if_pos hk0]; rfl)
          go_wp2_with (first | (go_at_call 28; refine (HK1.out _ VBr.out.b).mono ?_; rintro e wV2 ⟨rfl, hb2⟩; have V2 := Lib.hid (VBr.out.below hb2); have zV2 := V2.out.n; have zzV2 := V2.out.n1; have zyV2 := V2.out.n0; obtain ⟨⟨a0V2, a1V2, a2V2, a3V2⟩, ⟨a4V2, a5V2, a6V2, a7V2⟩, a8V2, a9V2, a10V2⟩ := V2.out.cells; obtain ⟨r0V2, r1V2, r2V2⟩ := V2.out.r; have f0V2 := V2.out.f 0; have f1V2 := V2.out.f 1; have f2V2 := V2.out.f 2; have HRW2 := Lib.hid (ownsRow_later HROW.out hb2); clear hb2) | fail)
          refine bodyPost_ret (v := .tuple #[.agg #[.int .i64 ck, .int .i64 ci, .string cs'], .int .i64 0]) (by simp [results, Tryd.results22, go_sem, r0V2, r1V2, r2V2, World.cell?_alloc_past, zzV2]) rfl ⟨congrArg Ending.returned HE.out.symm, ?_⟩
          exact (((V2.out.b.setCell (p := ⟨W.heap.size + 1, 0, none⟩) (Nat.le_succ _) _).setCell (p := ⟨W.heap.size + 1, 1, none⟩) (Nat.le_succ _) _).setCell (p := ⟨W.heap.size + 1, 2, none⟩) (Nat.le_succ _) _).alloc (Nat.le_trans V2.out.b.size (by simp)) _
      · have HE := Lib.hid (show outV (coalF rs) = .tuple #[.agg #[.int .i64 0, .int .i64 0, .string ⟨#[]⟩], .int .i64 er] by rw [HF.out, coalF_drop HCI.out, if_pos he]; exact outV_bad' (r := (Dt.zero, er)) he)
        rw [outV_bad' (r := (⟨ck, ci, cs'⟩, er)) he] at HK1
        go_wp2_with (first | (go_at_call 28; refine (HK1.out _ VBr.out.b).mono ?_; rintro e wV2 ⟨rfl, hb2⟩; have V2 := Lib.hid (VBr.out.below hb2); have zV2 := V2.out.n; have zzV2 := V2.out.n1; have zyV2 := V2.out.n0; obtain ⟨⟨a0V2, a1V2, a2V2, a3V2⟩, ⟨a4V2, a5V2, a6V2, a7V2⟩, a8V2, a9V2, a10V2⟩ := V2.out.cells; obtain ⟨r0V2, r1V2, r2V2⟩ := V2.out.r; have f0V2 := V2.out.f 0; have f1V2 := V2.out.f 1; have f2V2 := V2.out.f 2; have HRW2 := Lib.hid (ownsRow_later HROW.out hb2); clear hb2) | fail)
        refine bodyPost_ret (v := .tuple #[.agg #[.int .i64 0, .int .i64 0, .string ⟨#[]⟩], .int .i64 er]) (by simp [results, Tryd.results22, go_sem, r0V2, r1V2, r2V2, World.cell?_alloc_past, zzV2]) rfl ⟨congrArg Ending.returned HE.out.symm, ?_⟩
        exact (((V2.out.b.setCell (p := ⟨W.heap.size + 1, 0, none⟩) (Nat.le_succ _) _).setCell (p := ⟨W.heap.size + 1, 1, none⟩) (Nat.le_succ _) _).setCell (p := ⟨W.heap.size + 1, 2, none⟩) (Nat.le_succ _) _).alloc (Nat.le_trans V2.out.b.size (by simp)) _
    · have HE := Lib.hid (show outV (coalF rs) = .tuple #[.agg #[.int .i64 0, .int .i64 0, .string ⟨#[]⟩], .int .i64 0] by
        rw [HF.out, List.drop_eq_nil_of_le (by rw [HRL.out]; omega), coalF]; rfl)
      go_wp2_with fail
      refine bodyPost_ret (v := .tuple #[.agg #[.int .i64 0, .int .i64 0, .string ⟨#[]⟩], .int .i64 0]) (by simp [results, Tryd.results22, go_sem, r0, r1, r2]) rfl ⟨congrArg Ending.returned HE.out.symm, ?_⟩
      exact (((VBr.out.b.setCell (p := ⟨W.heap.size + 1, 0, none⟩) (Nat.le_succ _) _).setCell (p := ⟨W.heap.size + 1, 1, none⟩) (Nat.le_succ _) _).setCell (p := ⟨W.heap.size + 1, 2, none⟩) (Nat.le_succ _) _)
end Go.Proofs.YtokbdleokihdaaaDoor
namespace Go.Proofs.YtokbdleokihdaaaDoor
open Go.RowKit

set_option maxRecDepth 100000 in
set_option maxHeartbeats 1200000 in
theorem refcall_oth (k t : Int) (nl : Bool) (l : Dt) (lev col op : Int) (p : Option Addr) (n cap : Nat) (ps : Option Addr) (ns cs : Nat) (pe : Option Addr) (ne ce : Nat) (pv : Option Addr) (nv cv : Nat) (W : World) (hnm : n ≤ 1048576)
    (rs : List (Dt × Int)) (hrl : rs.length = n) (hV : ∀ r ∈ rs, Vok r.1) (hn5 : n ≤ 5) (hT : Tabs W) (h13 : ¬ op = 13) (h14 : ¬ op = 14) (h16 : ¬ op = 16) (h17 : ¬ op = 17)
    (hKid : RKid W #[.int .i64 k, .int .i64 t, .bool nl, .int .i64 l.k, .int .i64 l.i, .string l.s, .int .i64 lev, .int .i64 col, .int .i64 op, .slice p n cap, .slice ps ns cs] (.slice pe ne ce) (.slice pv nv cv) rs) :
    Calls Tryd.prog 22 #[.agg #[.int .i64 k, .int .i64 t, .bool nl, .int .i64 l.k, .int .i64 l.i, .string l.s, .int .i64 lev, .int .i64 col, .int .i64 op, .slice p n cap, .slice ps ns cs], .slice pe ne ce, .slice pv nv cv] W fun e w' => e = .returned (outV (strictF op [] rs)) ∧ Below W.heap.size W w' := by
  have HVB := Lib.hid (VB.new W #[.int .i64 k, .int .i64 t, .bool nl, .int .i64 l.k, .int .i64 l.i, .string l.s, .int .i64 lev, .int .i64 col, .int .i64 op, .slice p n cap, .slice ps ns cs] 27 23)
  have HKD := Lib.hid hKid
  have HV := Lib.hid hV
  have HRL := Lib.hid hrl
  clear hKid hV hrl
  obtain ⟨i0, hi', hz0, hz1, hz2⟩ := info_parts Dtinfo
  have HN := Lib.hid (ownsRow_new ((W.alloc (.cells #[.int .i64 k, .int .i64 t, .bool nl, .int .i64 l.k, .int .i64 l.i, .string l.s, .int .i64 lev, .int .i64 col, .int .i64 op, .slice p n cap, .slice ps ns cs] 27)).alloc (.cells #[.int .i64 0, .int .i64 0, .string ⟨#[]⟩] 23)) (W.heap.size + 2) (by simp) 23 3 0 #[] rfl (Nat.zero_le _))
  simp only [World.size_alloc] at HN
  have HT := Lib.hid hT
  clear hT
  have b13 : (op == 13) = false := by simpa using h13
  have b14 : (op == 14) = false := by simpa using h14
  have b16 : (op == 16) = false := by simpa using h16
  have b17 : (op == 17) = false := by simpa using h17
  go_enter Tryd.func22, Tryd.ntmps22
  go_wp2_with fail
  go_loopw [12, 13] (fun lv iv wr => ∃ i : Nat, i ≤ n ∧ iv = .int .i64 (i : Int) ∧ strictF op [] rs = strictF op ((rs.take i).map (·.1)) (rs.drop i) ∧ VB W #[.int .i64 k, .int .i64 t, .bool nl, .int .i64 l.k, .int .i64 l.i, .string l.s, .int .i64 lev, .int .i64 col, .int .i64 op, .slice p n cap, .slice ps ns cs] wr ∧ wr.ownsRow (W.heap.size + 2) 23 3 lv i (dtCells ((rs.take i).map (·.1)))) (fun _ iv _ => n - (intOf iv).toNat)
  case atStart => exact ⟨0, Nat.zero_le _, rfl, rfl, HVB.out.below ((Below.refl _ _).alloc (Nat.le_refl _) _), HN.out⟩
  case round =>
    obtain ⟨i, hi, rfl, hF, hvb, hrow⟩ := hrel
    have HF := Lib.hid hF
    have VBr := Lib.hid hvb
    have HROW := Lib.hid hrow
    obtain ⟨lp, ln, lc, hlv⟩ := owns_slice hrow
    subst hlv
    have hzr := hvb.n
    have hzz := hvb.n1
    have hzy := hvb.n0
    obtain ⟨⟨a0, a1, a2, a3⟩, ⟨a4, a5, a6, a7⟩, a8, a9, a10⟩ := hvb.cells
    obtain ⟨r0, r1, r2⟩ := hvb.r
    have f0 := hvb.f 0
    have f1 := hvb.f 1
    have f2 := hvb.f 2
    clear hF hvb hrow HN HVB
    by_cases hlt : i < n
    · obtain ⟨c, hc⟩ : ∃ c, rs[i]? = some c := ⟨rs[i]'(by rw [HRL.out]; omega), List.getElem?_eq_getElem _⟩
      have HK1 := Lib.hid (HKD.out i c hc)
      have hcv := HV.out c (List.mem_of_getElem? hc)
      have HCI := Lib.hid hc
      clear hc
      obtain ⟨⟨ck, ci, cs'⟩, er⟩ := c
      by_cases he : er = 0
      · subst he
        rw [outV_ok'] at HK1
        have HTK := Lib.hid (show dtCells ((rs.take (i + 1)).map (·.1)) = dtCells ((rs.take i).map (·.1)) ++ [.int .i64 ck, .int .i64 ci, .string cs'] by rw [List.take_add_one, HCI.out, List.map_append]; exact dtCells_snoc _ _)
        have HE := Lib.hid (HF.out.trans ((strict_step HCI.out rfl).trans (if_neg (fun h => by rw [shortF_other h13 h14] at h; exact absurd h.2 (by decide)))))
        go_wp2_with (first | (go_at_call 28; refine (HK1.out _ VBr.out.b).mono ?_; rintro e wV2 ⟨rfl, hb2⟩; have V2 := Lib.hid (VBr.out.below hb2); have zV2 := V2.out.n; have zzV2 := V2.out.n1; have zyV2 := V2.out.n0; obtain ⟨⟨a0V2, a1V2, a2V2, a3V2⟩, ⟨a4V2, a5V2, a6V2, a7V2⟩, a8V2, a9V2, a10V2⟩ := V2.out.cells; obtain ⟨r0V2, r1V2, r2V2⟩ := V2.out.r; have f0V2 := V2.out.f 0; have f1V2 := V2.out.f 1; have f2V2 := V2.out.f 2; have HRW2 := Lib.hid (ownsRow_later HROW.out hb2); clear hb2) | fail)
        obtain ⟨W0, hW0⟩ : ∃ W0, W0 = wV2.alloc (.cells #[.int .i64 ck, .int .i64 ci, .string cs'] 23) := ⟨_, rfl⟩
        have VB0 := Lib.hid (show VB W #[.int .i64 k, .int .i64 t, .bool nl, .int .i64 l.k, .int .i64 l.i, .string l.s, .int .i64 lev, .int .i64 col, .int .i64 op, .slice p n cap, .slice ps ns cs] W0 by rw [hW0]; exact V2.out.below ((Below.refl _ _).alloc (Nat.le_refl _) _))
        have HR0 := Lib.hid (show W0.ownsRow (W.heap.size + 2) 23 3 (.slice lp ln lc) i (dtCells ((rs.take i).map (·.1))) by rw [hW0]; exact HRW2.out.alloc _)
        have hnb : wV2.heap.size < W0.heap.size := by rw [hW0]; simp
        have q0 : W0.cell? ⟨wV2.heap.size, 0, none⟩ = some (.int .i64 ck) := by rw [hW0, World.cell?_alloc_new]; rfl
        have q1 : W0.cell? ⟨wV2.heap.size, 1, none⟩ = some (.int .i64 ci) := by rw [hW0, World.cell?_alloc_new]; rfl
        have q2 : W0.cell? ⟨wV2.heap.size, 2, none⟩ = some (.string cs') := by rw [hW0, World.cell?_alloc_new]; rfl
        rw [← hW0]
        clear hW0 HRW2 V2 zV2 zzV2 zyV2 a0V2 a1V2 a2V2 a3V2 a4V2 a5V2 a6V2 a7V2 a8V2 a9V2 a10V2 r0V2 r1V2 r2V2 f0V2 f1V2 f2V2
        generalize wV2.heap.size = nb at *
        have zn0 := VB0.out.n0
        have g8 := after_cell (show W0.cell? ⟨W.heap.size, 8, none⟩ = some (.int .i64 op) from VB0.out.cells.2.2.1) zn0
        have g0 := after_cell q0 hnb
        have g1 := after_cell q1 hnb
        have g2 := after_cell q2 hnb
        have hgn := GW.ne (Inv := After W0) (Below.refl _ _)
        refine wp_region_grow (After W0) (by kernel_rfl) (by kernel_rfl) (Below.refl _ _).drew ?_
        repeat (go_big_quiet_step (fail))
        refine wpQuiet_nil ?_
        intro w4 hw'
        obtain ⟨⟨wx, h4⟩, hw''⟩ := hw'
        subst hw''
        have VB4 := Lib.hid (VB0.out.below h4)
        have HR4 := Lib.hid (ownsRow_later HR0.out h4)
        have p0 := (h4.cell (p := ⟨nb, 0, none⟩) hnb).trans q0
        have p1 := (h4.cell (p := ⟨nb, 1, none⟩) hnb).trans q1
        have p2 := (h4.cell (p := ⟨nb, 2, none⟩) hnb).trans q2
        have z4 := VB4.out.n
        have zz4 := VB4.out.n1
        obtain ⟨r04, r14, r24⟩ := VB4.out.r
        have f04 := VB4.out.f 0
        have f14 := VB4.out.f 1
        have f24 := VB4.out.f 2
        clear h4 hgn g8 g0 g1 g2 q0 q1 q2 hnb VB0 HR0 zn0
        go_wp2_with (at_builtin; go_loud (refine wpList_append_own _ rfl _ _ 29 rfl (W.heap.size + 2) 23 i0 (.agg #[.int .i64 0, .int .i64 0, .string ⟨#[]⟩]) 3 32 Tryd.underlying29 hi' hz0 hz1 hz2 rfl (by decide) _ _ _ rfl (HR4.out.alloc _) ⟨w4.heap.size, 0, none⟩ 1 1 [.int .i64 ck, .int .i64 ci, .string cs'] rfl rfl (cell3n _ _ _ _ _) (by simp [Value.oneCell']) (by unfold maxLen; omega) (by omega) (by simp; omega) ?_); intro v' w5 hown' hg5 _; have HO5 := Lib.hid hown'; have HG5 := Lib.hid hg5; clear hown' hg5; go_frame)
        go_roundw
        case rel => exact ⟨i + 1, by omega, by go_num, HE.out, VB4.out.belowB (Nat.le_refl _) (((Below.refl _ _).alloc (by omega) _).grown HG5.out (by simp; omega) (fun j hj => (HR4.out.lt j hj).1)), by rw [HTK.out]; exact HO5.out⟩
        case measure => simp [intOf]; omega
      · have HE := Lib.hid (show outV (strictF op [] rs) = .tuple #[.agg #[.int .i64 0, .int .i64 0, .string ⟨#[]⟩], .int .i64 er] by rw [HF.out, strict_bad HCI.out he]; exact outV_bad' (r := (Dt.zero, er)) he)
        rw [outV_bad' (r := (⟨ck, ci, cs'⟩, er)) he] at HK1
        go_wp2_with (first | (go_at_call 28; refine (HK1.out _ VBr.out.b).mono ?_; rintro e wV2 ⟨rfl, hb2⟩; have V2 := Lib.hid (VBr.out.below hb2); have zV2 := V2.out.n; have zzV2 := V2.out.n1; have zyV2 := V2.out.n0; obtain ⟨⟨a0V2, a1V2, a2V2, a3V2⟩, ⟨a4V2, a5V2, a6V2, a7V2⟩, a8V2, a9V2, a10V2⟩ := V2.out.cells; obtain ⟨r0V2, r1V2, r2V2⟩ := V2.out.r; have f0V2 := V2.out.f 0; have f1V2 := V2.out.f 1; have f2V2 := V2.out.f 2; have HRW2 := Lib.hid (ownsRow_later HROW.out hb2); clear hb2) | fail)
        refine bodyPost_ret (v := .tuple #[.agg #[.int .i64 0, .int .i64 0, .string ⟨#[]⟩], .int .i64 er]) (by simp [results, Tryd.results22, go_sem, r0V2, r1V2, r2V2, World.cell?_alloc_past, zzV2]) rfl ⟨congrArg Ending.returned HE.out.symm, ?_⟩
        exact (((V2.out.b.setCell (p := ⟨W.heap.size + 1, 0, none⟩) (Nat.le_succ _) _).setCell (p := ⟨W.heap.size + 1, 1, none⟩) (Nat.le_succ _) _).setCell (p := ⟨W.heap.size + 1, 2, none⟩) (Nat.le_succ _) _).alloc (Nat.le_trans V2.out.b.size (by simp)) _
    · obtain rfl : i = n := by omega
      have HDS := Lib.hid (show DatS wr (.slice lp ln lc) (rs.map (·.1)) from datS_of_row (by have := HROW.out; rw [List.take_of_length_le (by rw [HRL.out]; omega)] at this; rw [List.length_map, HRL.out]; exact this) (fun d hd => by
        obtain ⟨r, hr, rfl⟩ := List.mem_map.1 hd
        exact (HV.out r hr).i))
      have HFF := Lib.hid (show outV (strictF op [] rs) = .tuple #[(appF op (rs.map (·.1))).1.v, .int .i64 (appF op (rs.map (·.1))).2] by
        rw [HF.out, List.take_of_length_le (by rw [HRL.out]; omega), List.drop_eq_nil_of_le (by rw [HRL.out]; omega), strictF, outV_appF])
      have HAP := Lib.hid ((both_any_args op _ _ wr HDS.out (by rw [List.length_map, HRL.out]; exact hn5) (HT.out.below VBr.out.b)).2)
      clear HROW HDS HF
      generalize appF op (rs.map (·.1)) = R at *
      obtain ⟨⟨tk, ti, ts⟩, te⟩ := R
      go_wp2_with (first | (go_at_call 30; refine (HAP.out _ (Below.refl _ _)).mono ?_; rintro e w2 ⟨rfl, hb2⟩; have V2 := Lib.hid (VBr.out.below hb2); have zV2 := V2.out.n; have zzV2 := V2.out.n1; obtain ⟨r0V2, r1V2, r2V2⟩ := V2.out.r; have f0V2 := V2.out.f 0; have f1V2 := V2.out.f 1; have f2V2 := V2.out.f 2; clear hb2) | fail)
      refine bodyPost_ret (v := .tuple #[.agg #[.int .i64 tk, .int .i64 ti, .string ts], .int .i64 te]) (by simp [results, Tryd.results22, go_sem, r0V2, r1V2, r2V2]) rfl ⟨congrArg Ending.returned HFF.out.symm, ?_⟩
      exact (((V2.out.b.setCell (p := ⟨W.heap.size + 1, 0, none⟩) (Nat.le_succ _) _).setCell (p := ⟨W.heap.size + 1, 1, none⟩) (Nat.le_succ _) _).setCell (p := ⟨W.heap.size + 1, 2, none⟩) (Nat.le_succ _) _)
end Go.Proofs.YtokbdleokihdaaaDoor

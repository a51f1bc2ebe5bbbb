/- The contract of the document's Right, of an expression. Opening an expression, and the rows of scopes. A row of expressions that came in. -/
import Derived.Test.YtokbdleokihdaaaGreatDoorG23
import Derived.Test.YtokbdleokihdaaaGreatDoorG05
import Derived.Test.YtokbdleokihdaaaGreatDoorG22
import Derived.Test.YtokbdleokihdaaaGreatDoorOpenDS
import Derived.Test.YtokbdleokihdaaaGreatDoorRows
namespace Go.Proofs.YtokbdleokihdaaaGreatDoor
open Go.RowKit

set_option maxRecDepth 100000 in
set_option maxHeartbeats 4000000 in
theorem refxright_any {w : World} {x : Ex} (hx : ExAt w x) (env : List (List Dt)) (ve : Value) (hE : EnvS w ve env) : ∀ W, Below w.heap.size w W →
    Calls Tryz.prog 5 #[x.v, ve] W fun e w' => e = .returned (.bool (x.right env)) ∧ Below W.heap.size W w' := by
  induction hx with
  | @mk k t nl l lev col op kids p cap ps ns cs h1 h2 hk hl hks ih =>
    intro W hW
    obtain ⟨hb0, hbz, hbc⟩ := box11 W #[.int .i64 k, .int .i64 t, .bool nl, .int .i64 l.k, .int .i64 l.i, .string l.s, .int .i64 lev, .int .i64 col, .int .i64 op, .slice p kids.length cap, .slice ps ns cs] 30
    have HB := Lib.hid hb0
    have hcap := h1
    by_cases hk1 : k = 1
    · subst hk1
      have hzW : W.heap.size < (W.alloc (.cells #[.int .i64 1, .int .i64 t, .bool nl, .int .i64 l.k, .int .i64 l.i, .string l.s, .int .i64 lev, .int .i64 col, .int .i64 op, .slice p kids.length cap, .slice ps ns cs] 30)).heap.size := by omega
      have HV := Lib.hid (show (Ex.node 1 t nl l lev col op (.slice p kids.length cap) (.slice ps ns cs) kids).right env = rightD l by rw [Ex.right, if_pos rfl])
      simp only [Ex.v]
      obtain ⟨lk, li, ls⟩ := l
      clear hk hks ih hW hb0 hbz hbc
      go_enter Tryz.func5, Tryz.ntmps5
      go_wp2_with (first | (go_at_call 12; refine (refright_any _ _ _ _).mono ?_; rintro e w2 ⟨rfl, hb2⟩; have HB2 := Lib.hid (HB.out.trans (hb2.mono (Nat.le_of_lt hzW))); clear hb2) | fail)
      go_ret
      exact ⟨congrArg (fun b => Ending.returned (.bool b)) HV.out.symm, HB2.out⟩
    · by_cases hk2 : k = 2
      · subst hk2
        have HV := Lib.hid (show (Ex.node 2 t nl l lev col op (.slice p kids.length cap) (.slice ps ns cs) kids).right env = colOk env lev col by rw [Ex.right, if_neg (by decide), if_pos rfl])
        simp only [Ex.v]
        obtain ⟨pe, ce, rfl, he1, he2, he3⟩ := id hE
        have c6 := hbc 6
        have c7 := hbc 7
        simp only [List.getElem?_toArray, List.getElem?_cons_succ, List.getElem?_cons_zero] at c6 c7
        clear hk hks ih
        by_cases c1 : 0 ≤ lev
        · by_cases c2 : lev < (env.length : Int)
          · obtain ⟨eb, eo, rp, ce', rc, hev, heb, hrow, hrd⟩ := hE.row hW c1 c2
            obtain ⟨rfl, rfl⟩ : pe = some ⟨eb, eo, none⟩ ∧ ce = ce' := by injection hev with a _ b; exact ⟨a, b⟩
            have hrow0 := (HB.out.cell (p := ⟨eb, eo + lev.toNat, none⟩) heb).trans hrow
            have heb0 : eb < W.heap.size + 1 := by omega
            have HRD := Lib.hid hrd
            clear hrow hrd he3
            obtain ⟨rw, hrw⟩ : ∃ r, r = env.getD lev.toNat [] := ⟨_, rfl⟩
            have HG := Lib.hid (show colOk env lev col = (decide (0 ≤ col) && decide (col < (rw.length : Int)) && rightD (dnth rw col.toNat)) by unfold colOk; rw [decide_eq_true c1, decide_eq_true c2, ← hrw]; rfl)
            rw [← hrw] at hrow0 HRD
            clear hrw
            by_cases c3 : 0 ≤ col
            · by_cases c4 : col < (rw.length : Int)
              · obtain ⟨db, dof, dc, hdv, hdb, d0, d1, d2⟩ := HRD.out.at c3 c4
                obtain ⟨rfl, rfl⟩ : rp = some ⟨db, dof, none⟩ ∧ rc = dc := by injection hdv with a _ b; exact ⟨a, b⟩
                have HF := Lib.hid (show colOk env lev col = rightD (dnth rw col.toNat) by rw [HG.out, decide_eq_true c3, decide_eq_true c4]; rfl)
                have e0 := (HB.out.cell (p := ⟨db, dof + col.toNat * 3, none⟩) hdb).trans d0
                have e1 := (HB.out.cell (p := ⟨db, dof + col.toNat * 3 + 1, none⟩) hdb).trans d1
                have e2 := (HB.out.cell (p := ⟨db, dof + col.toNat * 3 + 2, none⟩) hdb).trans d2
                have hdb0 : db < W.heap.size + 1 := by omega
                clear d0 d1 d2
                generalize dnth rw col.toNat = dd at *
                obtain ⟨dk, di, ds⟩ := dd
                go_enter Tryz.func5, Tryz.ntmps5
                go_wp2_with (first | (go_at_call 12; refine (refright_any _ _ _ _).mono ?_; rintro e w2 ⟨rfl, hb2⟩; have HB2 := Lib.hid (HB.out.trans (hb2.mono (by omega))); clear hb2) | fail)
                go_ret
                exact ⟨congrArg (fun b => Ending.returned (.bool b)) (HV.out.trans HF.out).symm, HB2.out⟩
              · have HF := Lib.hid (show colOk env lev col = false by rw [HG.out, decide_eq_false c4, Bool.and_false]; rfl)
                have n4 := decide_eq_false c4
                go_enter Tryz.func5, Tryz.ntmps5
                go_wp2_with (first | (go_at_call 12; refine (refright_any _ _ _ _).mono ?_; rintro e w2 ⟨rfl, hb2⟩; have HB2 := Lib.hid (HB.out.trans (hb2.mono (by omega))); clear hb2) | fail)
                go_ret
                exact ⟨congrArg (fun b => Ending.returned (.bool b)) (HV.out.trans HF.out).symm, HB.out⟩
            · have HF := Lib.hid (show colOk env lev col = false by rw [HG.out, decide_eq_false c3]; rfl)
              have n3 := decide_eq_false c3
              go_enter Tryz.func5, Tryz.ntmps5
              go_wp2_with (first | (go_at_call 12; refine (refright_any _ _ _ _).mono ?_; rintro e w2 ⟨rfl, hb2⟩; have HB2 := Lib.hid (HB.out.trans (hb2.mono (by omega))); clear hb2) | fail)
              go_ret
              exact ⟨congrArg (fun b => Ending.returned (.bool b)) (HV.out.trans HF.out).symm, HB.out⟩
          · have HF := Lib.hid (show colOk env lev col = false by unfold colOk; rw [decide_eq_false c2, Bool.and_false]; rfl)
            have n2 := decide_eq_false c2
            go_enter Tryz.func5, Tryz.ntmps5
            go_wp2_with (first | (go_at_call 12; refine (refright_any _ _ _ _).mono ?_; rintro e w2 ⟨rfl, hb2⟩; have HB2 := Lib.hid (HB.out.trans (hb2.mono (by omega))); clear hb2) | fail)
            go_ret
            exact ⟨congrArg (fun b => Ending.returned (.bool b)) (HV.out.trans HF.out).symm, HB.out⟩
        · have HF := Lib.hid (show colOk env lev col = false by unfold colOk; rw [decide_eq_false c1]; rfl)
          have n1 := decide_eq_false c1
          go_enter Tryz.func5, Tryz.ntmps5
          go_wp2_with (first | (go_at_call 12; refine (refright_any _ _ _ _).mono ?_; rintro e w2 ⟨rfl, hb2⟩; have HB2 := Lib.hid (HB.out.trans (hb2.mono (by omega))); clear hb2) | fail)
          go_ret
          exact ⟨congrArg (fun b => Ending.returned (.bool b)) (HV.out.trans HF.out).symm, HB.out⟩
      · by_cases hk3 : k = 3
        · subst hk3
          have HV := Lib.hid (show (Ex.node 3 t nl l lev col op (.slice p kids.length cap) (.slice ps ns cs) kids).right env = (rightL env kids && kidsOk op kids.length) by rw [Ex.right, if_neg (by decide), if_neg (by decide), if_pos rfl])
          have HK := Lib.hid hk
          have HI := Lib.hid ih
          have HKS := Lib.hid hks
          have HW := Lib.hid hW
          have hL : kids.length ≤ 9223372036854775807 := by omega
          have hbz' : W.heap.size < W.heap.size + 1 := by omega
          clear hk ih hks hW hcap h1 h2 hl hb0 hbz hbc
          generalize hlen : kids.length = n at *
          have HL := Lib.hid hlen
          clear hlen
          simp only [Ex.v]
          go_enter Tryz.func5, Tryz.ntmps5
          go_wp2_with fail
          go_loopw [64] (fun iv wr => ∃ j : Nat, j ≤ n ∧ iv = .int .i64 (j : Int) ∧ rightL env (kids.take j) = true ∧ Below W.heap.size W wr ∧ W.heap.size + 1 ≤ wr.heap.size ∧ wr.cell? ⟨W.heap.size, 8, none⟩ = some (.int .i64 op) ∧ wr.cell? ⟨W.heap.size, 9, none⟩ = some (.slice p n cap)) (fun iv _ => n - (intOf iv).toNat)
          case atStart => exact ⟨0, Nat.zero_le _, rfl, by simp [rightL], HB.out, by simp, by rw [World.cell?_alloc_new]; rfl, by rw [World.cell?_alloc_new]; rfl⟩
          case round =>
            obtain ⟨j, hj, rfl, hrl, hbl, hzr, k8, k9⟩ := hrel
            have HBl := Lib.hid hbl
            have HRL := Lib.hid hrl
            have hWr := hbl.size
            have hww := HW.out.size
            clear hbl hrl
            by_cases hlt : j < n
            · have hjl : j < kids.length := by rw [HL.out]; exact hlt
              have hne : kids ≠ [] := fun h => by rw [h] at hjl; simp at hjl
              obtain ⟨b, o, rfl, hbk, hc⟩ := HK.out.resolve_left hne
              obtain ⟨y, hy⟩ : ∃ y, kids[j] = y := ⟨_, rfl⟩
              have hyj : kids[j]? = some y := by rw [List.getElem?_eq_getElem hjl, hy]
              have hmem : y ∈ kids := List.mem_of_getElem? hyj
              have hex := HKS.out y hmem
              have HY := Lib.hid (HI.out y hmem)
              have HTK := Lib.hid (show rightL env (kids.take (j + 1)) = y.right env by
                rw [List.take_succ_eq_append_getElem hjl, hy, rightL_append, HRL.out, Bool.true_and]; simp [rightL])
              have HNO := Lib.hid (show y.right env = false → rightL env kids = false from fun h => Bool.eq_false_iff.2 fun h2 => by rw [(rightL_iff env kids).1 h2 y hmem] at h; exact absurd h (by decide))
              generalize hcy : y.right env = cy at *
              obtain ⟨k', t', nl', l', lev', col', op', kv', sv', kids'⟩ := y
              obtain ⟨p', cap', ps', ns', cs', rfl, rfl⟩ := hex.slices
              obtain ⟨⟨c0, c1, c2, c3⟩, ⟨c4, c5, c6, c7⟩, c8, c9, c10⟩ := hc.at (HW.out.trans (HBl.out.mono HW.out.size)) hbk hyj
              clear hc hex
              simp only [Ex.v] at HY
              cases hcc : cy
              · go_wp2_with (first | (go_at_call 5; refine (HY.out _ (HW.out.trans ((HBl.out.alloc (by omega) _).mono (by omega)))).mono ?_; rintro e w2 ⟨rfl, hb2⟩; have HR := Lib.hid ((HBl.out.alloc (by omega) _).trans (hb2.mono (by simp; omega))); clear hb2) | fail)
                go_ret
                exact ⟨congrArg (fun b => Ending.returned (.bool b)) (HV.out.trans (by rw [HNO.out hcc]; rfl)).symm, HR.out⟩
              · go_wp2_with (first | (go_at_call 5; refine (HY.out _ (HW.out.trans ((HBl.out.alloc (by omega) _).mono (by omega)))).mono ?_; rintro e w2 ⟨rfl, hb2⟩; have HR := Lib.hid ((HBl.out.alloc (by omega) _).trans (hb2.mono (by simp; omega))); have HS2 := Lib.hid hb2; clear hb2) | fail)
                go_roundw
                case rel =>
                  have hb2 := HS2.out
                  have hz2 := hb2.size
                  simp at hz2
                  refine ⟨j + 1, by omega, by go_num, by rw [HTK.out]; exact hcc, HR.out, by omega, ?_, ?_⟩
                  · rw [hb2.cell (p := ⟨W.heap.size, 8, none⟩) (by simp; omega), World.cell?_alloc_past _ _ _ (by show W.heap.size < _; omega)]; exact k8
                  · rw [hb2.cell (p := ⟨W.heap.size, 9, none⟩) (by simp; omega), World.cell?_alloc_past _ _ _ (by show W.heap.size < _; omega)]; exact k9
                case measure => simp [intOf]; omega
            · obtain rfl : j = n := by omega
              go_wp2_with (first | (go_at_call 13; refine (rkids_any _ _ _).mono ?_; rintro e w2 ⟨rfl, hb2⟩; have HBl := Lib.hid (HBl.out.trans (hb2.mono HBl.out.size)); clear hb2) | fail)
              go_ret
              have hE : rightL env kids = true := by have := HRL.out; rwa [List.take_of_length_le (by rw [HL.out]; omega)] at this
              exact ⟨congrArg (fun b => Ending.returned (.bool b)) (HV.out.trans (by rw [hE, Bool.true_and])).symm, HBl.out⟩
        · have HV := Lib.hid (show (Ex.node k t nl l lev col op (.slice p kids.length cap) (.slice ps ns cs) kids).right env = (decide (4 ≤ k) && decide (k ≤ 6)) by rw [Ex.right, if_neg hk1, if_neg hk2, if_neg hk3])
          have hz : W.heap.size + 1 = (W.alloc (.cells #[.int .i64 k, .int .i64 t, .bool nl, .int .i64 l.k, .int .i64 l.i, .string l.s, .int .i64 lev, .int .i64 col, .int .i64 op, .slice p kids.length cap, .slice ps ns cs] 30)).heap.size := hbz.symm
          have b1 : (k == 1) = false := by simpa using hk1
          have b2 : (k == 2) = false := by simpa using hk2
          have b3 : (k == 3) = false := by simpa using hk3
          simp only [Ex.v]
          clear hk ih hks hW hcap h1 h2 hl hb0 hbz hbc hk1 hk2 hk3 hz
          go_enter Tryz.func5, Tryz.ntmps5
          by_cases h4 : 4 ≤ k
          · by_cases h6 : k ≤ 6
            · rw [decide_eq_true h4, decide_eq_true h6] at HV
              go_wp2_with fail
              go_ret
              exact ⟨congrArg (fun b => Ending.returned (.bool b)) HV.out.symm, HB.out⟩
            · rw [decide_eq_true h4, decide_eq_false h6] at HV
              have n6 := decide_eq_false h6
              go_wp2_with fail
              go_ret
              exact ⟨congrArg (fun b => Ending.returned (.bool b)) HV.out.symm, HB.out⟩
          · rw [decide_eq_false h4] at HV
            have n4 := decide_eq_false h4
            go_wp2_with fail
            go_ret
            exact ⟨congrArg (fun b => Ending.returned (.bool b)) HV.out.symm, HB.out⟩
end Go.Proofs.YtokbdleokihdaaaGreatDoor
namespace Go.Proofs.YtokbdleokihdaaaGreatDoor
open Go.ChangeShapes Go.WideShapes Go.ChangeAt Go.RowKit Go.Joins Go.Deep
open Go.ChangeMaps (open_string shut_string)

theorem add_none (g o j : Nat) : (⟨g, o, none⟩ : Addr).add j = ⟨g, o + j, none⟩ := by unfold Addr.add; split <;> simp_all
theorem bulk_one {H : Type} (d : DataW H) : 1 ≤ Rows.uptoBulk d := by
  cases d with
  | lit l => cases l <;> simp [Rows.uptoBulk]
  | _ => simp [Rows.uptoBulk]
theorem bulk_mem {H : Type} {d : DataW H} {l : List (DataW H)} (h : d ∈ l) : Rows.uptoBulk d ≤ Rows.uptoBulkAll l := by
  induction l with
  | nil => cases h
  | cons x r ih =>
    simp only [Rows.uptoBulkAll]
    cases List.mem_cons.1 h with
    | inl e => subst e; omega
    | inr e => have := ih e; omega
theorem bulk_length {H : Type} (l : List (DataW H)) : l.length ≤ Rows.uptoBulkAll l := by
  induction l with
  | nil => simp [Rows.uptoBulkAll]
  | cons x r ih => have := bulk_one x; simp only [Rows.uptoBulkAll, List.length_cons]; omega
theorem bulk_cols {H : Type} (F : Nat → Ex) (D : Nat → DataW H) : ∀ l : List Nat, (∀ i ∈ l, (F i).cols.length ≤ Rows.uptoBulk (D i)) → (colsL (l.map F)).length ≤ Rows.uptoBulkAll (l.map D)
  | [], _ => by simp [colsL]
  | i :: l, h => by
    have h1 := h i (by simp)
    have h2 := bulk_cols F D l (fun j hj => h j (by simp [hj]))
    simp only [List.map_cons, colsL, List.length_append, Rows.uptoBulkAll]
    omega
theorem bulk_cnt {H : Type} (F : Nat → Ex) (D : Nat → DataW H) : ∀ l : List Nat, (∀ i ∈ l, (F i).cnt ≤ Rows.uptoBulk (D i)) → cntL (l.map F) ≤ Rows.uptoBulkAll (l.map D)
  | [], _ => by simp [cntL]
  | i :: l, h => by
    have h1 := h i (by simp)
    have h2 := bulk_cnt F D l (fun j hj => h j (by simp [hj]))
    simp only [List.map_cons, cntL, Rows.uptoBulkAll]
    omega

set_option maxRecDepth 100000 in
set_option maxHeartbeats 1000000 in
theorem open_ex {H : Type} {enc : TypeId × Value → H} {W : World} : ∀ M : Nat, M ≤ 1048576 → ∀ {n : Nat} {cs : List Value} {y : DataW H × List MemPlace}, DataW.trod enc Tryz.prog W 0 (fun _ => true) true n 30 cs = some y → Rows.uptoBulk y.1 ≤ M →
    ∃ x : Ex, cs = x.cells ∧ ExAt W x ∧ x.cnt ≤ Rows.uptoBulk y.1 ∧ x.cols.length ≤ Rows.uptoBulk y.1 ∧ x.wfs := by
  intro M
  induction M with
  | zero => intro _ n cs y _ hb; have := bulk_one y.1; omega
  | succ M ih =>
    intro hM n cs y h hb
    obtain ⟨ys, m, -, rfl, hl, hyl, hf⟩ := DataW.trod_struct Tryz.underlying30 h
    have hl11 : cs.length = 11 := hl.trans (by kernel_rfl)
    match cs, hl11 with
    | [c0, c1, c2, c3, c4, c5, c6, c7, c8, c9, c10], _ =>
      match ys, hyl with
      | [y0, y1, y2, y3, y4, y5, y6, y7, y8], _ =>
        have w1 : Tryz.prog.cellsOf 3 = 1 := by kernel_rfl
        have w2 : Tryz.prog.cellsOf 4 = 1 := by kernel_rfl
        have w3 : Tryz.prog.cellsOf 27 = 3 := by kernel_rfl
        have w4 : Tryz.prog.cellsOf 22 = 1 := by kernel_rfl
        have w5 : Tryz.prog.cellsOf 28 = 1 := by kernel_rfl
        have h0 : DataW.trod enc Tryz.prog W 0 (fun _ => true) true m 3 (([c0, c1, c2, c3, c4, c5, c6, c7, c8, c9, c10].drop 0).take (Tryz.prog.cellsOf 3)) = some y0 := hf 0 _ rfl
        have h1 : DataW.trod enc Tryz.prog W 0 (fun _ => true) true m 3 (([c0, c1, c2, c3, c4, c5, c6, c7, c8, c9, c10].drop 1).take (Tryz.prog.cellsOf 3)) = some y1 := hf 1 _ rfl
        have h2 : DataW.trod enc Tryz.prog W 0 (fun _ => true) true m 4 (([c0, c1, c2, c3, c4, c5, c6, c7, c8, c9, c10].drop 2).take (Tryz.prog.cellsOf 4)) = some y2 := hf 2 _ rfl
        have h3 : DataW.trod enc Tryz.prog W 0 (fun _ => true) true m 27 (([c0, c1, c2, c3, c4, c5, c6, c7, c8, c9, c10].drop 3).take (Tryz.prog.cellsOf 27)) = some y3 := hf 3 _ rfl
        have h4 : DataW.trod enc Tryz.prog W 0 (fun _ => true) true m 3 (([c0, c1, c2, c3, c4, c5, c6, c7, c8, c9, c10].drop 6).take (Tryz.prog.cellsOf 3)) = some y4 := hf 4 _ rfl
        have h5 : DataW.trod enc Tryz.prog W 0 (fun _ => true) true m 3 (([c0, c1, c2, c3, c4, c5, c6, c7, c8, c9, c10].drop 7).take (Tryz.prog.cellsOf 3)) = some y5 := hf 5 _ rfl
        have h6 : DataW.trod enc Tryz.prog W 0 (fun _ => true) true m 3 (([c0, c1, c2, c3, c4, c5, c6, c7, c8, c9, c10].drop 8).take (Tryz.prog.cellsOf 3)) = some y6 := hf 6 _ rfl
        have h7 : DataW.trod enc Tryz.prog W 0 (fun _ => true) true m 22 (([c0, c1, c2, c3, c4, c5, c6, c7, c8, c9, c10].drop 9).take (Tryz.prog.cellsOf 22)) = some y7 := hf 7 _ rfl
        have h8 : DataW.trod enc Tryz.prog W 0 (fun _ => true) true m 28 (([c0, c1, c2, c3, c4, c5, c6, c7, c8, c9, c10].drop 10).take (Tryz.prog.cellsOf 28)) = some y8 := hf 8 _ rfl
        rw [w1] at h0 h1 h4 h5 h6
        rw [w2] at h2
        rw [w3] at h3
        rw [w4] at h7
        rw [w5] at h8
        obtain ⟨n0, e0, -, k0⟩ := DataW.trod_int Tryz.underlying3 h0
        obtain ⟨n1, e1, -, k1⟩ := DataW.trod_int Tryz.underlying3 h1
        obtain ⟨n2, e2, -⟩ := DataW.trod_bool Tryz.underlying4 h2
        obtain ⟨d3, e3, k3⟩ := open_dt1 h3
        obtain ⟨n4, e4, -, k4⟩ := DataW.trod_int Tryz.underlying3 h4
        obtain ⟨n5, e5, -, k5⟩ := DataW.trod_int Tryz.underlying3 h5
        obtain ⟨n6, e6, -, k6⟩ := DataW.trod_int Tryz.underlying3 h6
        have q0 : c0 = .int .i64 n0 := by simpa using e0
        have q1 : c1 = .int .i64 n1 := by simpa using e1
        have q2 : c2 = .bool n2 := by simpa using e2
        have q3 : c3 = .int .i64 d3.k ∧ c4 = .int .i64 d3.i ∧ c5 = .string d3.s := by simpa [Dt.cells] using e3
        have q4 : c6 = .int .i64 n4 := by simpa using e4
        have q5 : c7 = .int .i64 n5 := by simpa using e5
        have q6 : c8 = .int .i64 n6 := by simpa using e6
        obtain ⟨q3, q3', q3''⟩ := q3
        subst q0 q1 q2 q3 q3' q3'' q4 q5 q6
        have hb7 : Rows.uptoBulk y7.1 < Rows.uptoBulk (DataW.agg ([y0, y1, y2, y3, y4, y5, y6, y7, y8].map (·.1))) := by
          have := bulk_mem (d := y7.1) (l := [y0, y1, y2, y3, y4, y5, y6, y7, y8].map (·.1)) (by simp)
          simp only [Rows.uptoBulk]
          omega
        simp only at hb
        have hb8 : Rows.uptoBulk y7.1 ≤ M := by omega
        have h9 : ∃ ps ns cs', c10 = .slice ps ns cs' := by
          rcases open_slice Tryz.underlying28 h8 with ⟨hcs, _⟩ | ⟨a, len, cap, m', n', D, Pl, hcs, _⟩
          · exact ⟨_, _, _, by simpa using hcs⟩
          · exact ⟨_, _, _, by simpa using hcs⟩
        obtain ⟨ps, ns, cs', rfl⟩ := h9
        rcases open_slice Tryz.underlying22 h7 with ⟨hcs, _⟩ | ⟨a, ln, cap, m', n', D, Pl, hcs, _, hlc, hmx, hmm, hy7, hi⟩
        · have q7 : c9 = .slice none 0 0 := by simpa using hcs
          subst q7
          refine ⟨.node n0 n1 n2 d3 n4 n5 n6 (.slice none 0 0) (.slice ps ns cs') [], rfl, .mk (kids := []) none 0 ps ns cs' (Nat.le_refl _) (by decide) (.inl rfl) k3 (by simp), ?_, ?_, ?_⟩
          case refine_2 =>
            unfold Ex.cols
            have := bulk_one (DataW.agg ([y0, y1, y2, y3, y4, y5, y6, y7, y8].map (·.1)))
            dsimp only
            split
            · exact this
            · split <;> simp [colsL]
          case refine_3 =>
            unfold Ex.wfs Ex.cols
            split
            · intro p hp
              simp at hp
              subst hp
              exact ⟨bounds_i64 k4, bounds_i64 k5⟩
            · split <;> simp [colsL]
          unfold Ex.cnt
          have := bulk_one (DataW.agg ([y0, y1, y2, y3, y4, y5, y6, y7, y8].map (·.1)))
          dsimp only
          split
          · simp [cntL]
          · split <;> omega
        · have q7 : c9 = .slice (some a) ln cap := by simpa using hcs
          subst q7
          simp only [if_true] at hmm
          have hmm2 := hmm.symm
          subst hmm2
          have hb9 := congrArg (fun y => Rows.uptoBulk y.1) hy7
          simp only [Rows.uptoBulk] at hb9
          rw [hy7] at hb8
          simp only [Rows.uptoBulk] at hb8
          have hsl : cap ≤ 1048576 := by
            have a1 := bulk_length ((List.range ln).map D)
            have a2 := bulk_length ((List.range (cap - ln)).map fun j => D (ln + j))
            simp at a1 a2
            simp only [Rows.uptoBulk] at hb
            omega
          have hC : Tryz.prog.cellsOf 30 = 11 := by kernel_rfl
          rw [hC] at hi
          have each : ∀ i, i < ln → ∃ x : Ex, W.cells? 0 (a.add (i * 11)) 11 = some x.cells ∧ ExAt W x ∧ x.cnt ≤ Rows.uptoBulk (D i) ∧ x.cols.length ≤ Rows.uptoBulk (D i) ∧ x.wfs := fun i hil => by
            obtain ⟨cs2, g1, g2⟩ := hi i (by omega)
            have hmem := bulk_mem (d := D i) (l := (List.range ln).map D) (List.mem_map.2 ⟨i, by simpa using hil, rfl⟩)
            obtain ⟨x, hx, hx2, hx3⟩ := ih (by omega) g2 (by simp only [Rows.uptoBulk] at hb ⊢; omega)
            exact ⟨x, by rw [g1, hx], hx2, hx3⟩
          haveI : Inhabited Ex := ⟨.node 0 0 false Dt.zero 0 0 0 (.bool false) (.bool false) []⟩
          obtain ⟨F, hF⟩ := choose_lt each
          obtain ⟨kids, hkids⟩ : ∃ kids, kids = (List.range ln).map F := ⟨_, rfl⟩
          have hlen : kids.length = ln := by rw [hkids]; simp
          have hcnt : cntL kids ≤ Rows.uptoBulkAll ((List.range ln).map D) := by
            rw [hkids]
            exact bulk_cnt F D _ (fun i hi => (hF i (by simpa using hi)).2.2.1)
          have hcols : (colsL kids).length ≤ Rows.uptoBulkAll ((List.range ln).map D) := by
            rw [hkids]
            exact bulk_cols F D _ (fun i hi => (hF i (by simpa using hi)).2.2.2.1)
          have hwfs : ∀ x ∈ kids, x.wfs := fun x hx => by
            rw [hkids] at hx
            obtain ⟨i, hi2, rfl⟩ := List.mem_map.1 hx
            exact (hF i (by simpa using hi2)).2.2.2.2
          have hget : ∀ i x, kids[i]? = some x → i < ln ∧ x = F i := fun i x hx => by
            have hil : i < ln := by have := (List.getElem?_eq_some_iff.1 hx).1; omega
            rw [hkids, List.getElem?_map, List.getElem?_range hil] at hx
            exact ⟨hil, by simpa using hx.symm⟩
          have hat : ∀ x ∈ kids, ExAt W x := fun x hx => by
            rw [hkids] at hx
            obtain ⟨i, hi2, rfl⟩ := List.mem_map.1 hx
            exact (hF i (by simpa using hi2)).2.1
          subst hlen
          refine ⟨.node n0 n1 n2 d3 n4 n5 n6 (.slice (some a) kids.length cap) (.slice ps ns cs') kids, rfl, .mk (kids := kids) (some a) cap ps ns cs' hlc hsl ?_ k3 hat, ?_, ?_, ?_⟩
          rotate_left 2
          · unfold Ex.cols
            have := bulk_one (DataW.agg ([y0, y1, y2, y3, y4, y5, y6, y7, y8].map (·.1)))
            dsimp only
            split
            · exact this
            · split
              · omega
              · simp
          · unfold Ex.wfs Ex.cols
            split
            · intro p hp
              simp at hp
              subst hp
              exact ⟨bounds_i64 k4, bounds_i64 k5⟩
            · split
              · intro p hp
                obtain ⟨x, hx, hp⟩ := colsL_mem hp
                exact hwfs x hx p hp
              · simp
          · by_cases h0 : kids = []
            · exact .inl h0
            · right
              have hpos : 0 < kids.length := List.length_pos_iff.2 h0
              obtain ⟨hx0, _⟩ := hF 0 hpos
              obtain ⟨_, _, hat0⟩ := World.cells?_some hx0
              have hc0 := hat0 0 (by omega)
              have e0 : (a.add (0 * 11)).add 0 = a := by simp [Addr.add]
              rw [e0] at hc0
              have hF0 : (F 0).cells[0]? = some (.int .i64 (F 0).k) := by cases F 0; rfl
              have hspot := World.cell?_spot (hc0.trans hF0)
              have hg := World.block_lt_of_cell? W _ (hc0.trans hF0)
              obtain ⟨g, o, sp⟩ := a
              have hsp : sp = none := hspot
              subst hsp
              have hadd : ∀ j, (⟨g, o, none⟩ : Addr).add j = ⟨g, o + j, none⟩ := fun j => add_none g o j
              refine ⟨g, o, rfl, hg, fun i x hx j u hu => ?_⟩
              obtain ⟨hil, rfl⟩ := hget i x hx
              obtain ⟨hxi, _⟩ := hF i hil
              obtain ⟨_, _, hat1⟩ := World.cells?_some hxi
              have hj : j < 11 := by
                have := (List.getElem?_eq_some_iff.1 hu).1
                have hc11 : (F i).cells.length = 11 := by cases F i; rfl
                omega
              have := hat1 j hj
              rw [Go.Deep.add_add, hadd] at this
              rw [show o + i * 11 + j = o + (i * 11 + j) by omega, this]; exact hu
          · unfold Ex.cnt
            have := bulk_one (DataW.agg ([y0, y1, y2, y3, y4, y5, y6, y7, y8].map (·.1)))
            dsimp only
            split
            · omega
            · split <;> omega

set_option maxRecDepth 100000 in
theorem open_datrow {H : Type} {enc : TypeId × Value → H} {W : World} {t : TypeId} (ht : Tryz.prog.underlying t = some (.slice 27)) {n : Nat} {v : Value} {y : DataW H × List MemPlace}
    (hf : DataW.trod enc Tryz.prog W 0 (fun _ => true) true n t [v] = some y) : ∃ ds : List Dt, DatS W v ds ∧ ds.length ≤ Rows.uptoBulk y.1 := by
  rcases open_slice ht hf with ⟨hcs, _⟩ | ⟨a, len, cap, m, n, D, Pl, hcs, _, hl, hm, hmm, hyy, hi⟩
  · simp at hcs
    subst hcs
    exact ⟨[], ⟨none, 0, rfl, Nat.le_refl _, by omega, .inl rfl, by simp⟩, by simp⟩
  · simp at hcs
    subst hcs
    simp only [if_true] at hmm
    unfold maxLen at hm
    have hbl : len ≤ Rows.uptoBulk y.1 := by
      rw [hyy]
      simp only [Rows.uptoBulk]
      have := bulk_length ((List.range len).map D)
      simp at this
      omega
    have hC : Tryz.prog.cellsOf 27 = 3 := by kernel_rfl
    rw [hC] at hi
    have each : ∀ i, i < len → ∃ x : Dt, W.cells? 0 (a.add (i * 3)) 3 = some x.cells ∧ (-9223372036854775808 ≤ x.i ∧ x.i ≤ 9223372036854775807) := fun i hil => by
      obtain ⟨cs, h1, h2⟩ := hi i (by omega)
      obtain ⟨x, hx, h3⟩ := open_dt1 h2
      exact ⟨x, by rw [h1, hx], h3⟩
    obtain ⟨F, hF⟩ := choose_dt each
    refine ⟨(List.range len).map F, ⟨some a, cap, by simp, by simpa using hl, by omega, ?_, ?_⟩, by simpa using hbl⟩
    · by_cases h0 : len = 0
      · subst h0; exact .inl (by simp)
      · right
        obtain ⟨hx0, _⟩ := hF 0 (by omega)
        obtain ⟨_, _, hat⟩ := World.cells?_some hx0
        have hc0 := hat 0 (by omega)
        have e0 : (a.add (0 * 3)).add 0 = a := by simp [Addr.add]
        rw [e0] at hc0
        have hspot := World.cell?_spot (hc0.trans (by rfl : (F 0).cells[0]? = some (.int .i64 (F 0).k)))
        obtain ⟨g, o, sp⟩ := a
        have hsp : sp = none := hspot
        subst hsp
        have hadd : ∀ j, (⟨g, o, none⟩ : Addr).add j = ⟨g, o + j, none⟩ := fun j => add_none g o j
        have hg := World.block_lt_of_cell? W _ (hc0.trans (by rfl : (F 0).cells[0]? = some (.int .i64 (F 0).k)))
        refine ⟨g, o, rfl, hg, fun i hil => ?_⟩
        have hil : i < len := by simpa using hil
        have hxe : dnth ((List.range len).map F) i = F i := by
          unfold dnth
          rw [List.getD_eq_getElem?_getD, List.getElem?_map, List.getElem?_range hil]
          rfl
        rw [hxe]
        obtain ⟨hxi, _⟩ := hF i hil
        obtain ⟨_, _, hat⟩ := World.cells?_some hxi
        have k0 := hat 0 (by omega)
        have k1 := hat 1 (by omega)
        have k2 := hat 2 (by omega)
        rw [Go.Deep.add_add, hadd] at k0 k1 k2
        exact ⟨k0, k1, k2⟩
    · intro x hx
      obtain ⟨i, hi2, rfl⟩ := List.mem_map.1 hx
      exact (hF i (by simpa using hi2)).2
set_option maxRecDepth 100000 in
/-- The rows of the scopes that came in. -/
theorem open_env {H : Type} {enc : TypeId × Value → H} {W : World} {b0 : Nat} {v : Value} {d : DataW H} {p : List MemPlace}
    (hv : Value.okWide Tryz.prog W .any b0 23 v) (h : DataW.Trod enc Tryz.prog W 0 (fun _ => true) true 23 v d p) : ∃ env : List (List Dt), EnvS W v env ∧ (∀ r ∈ env, ∀ d ∈ r, -9223372036854775808 ≤ d.i ∧ d.i ≤ 9223372036854775807) ∧ (∀ n c, v = .slice none n c → c = 0) ∧ env.length ≤ Rows.uptoBulk d ∧ ∀ r ∈ env, r.length ≤ Rows.uptoBulk d := by
  obtain ⟨q, ln, cp, rfl⟩ := okWide_slice Tryz.underlying23 hv
  obtain ⟨fuel, hf⟩ := h
  rcases open_slice1 Tryz.underlying23 (by kernel_rfl) hf with ⟨hcs, _⟩ | ⟨a, len, cap, m, n, V, D, Pl, hcs, _, hl, hm, hmm, hdd, hi⟩
  · simp [Value.cells] at hcs
    obtain ⟨rfl, rfl, rfl⟩ := hcs
    exact ⟨[], ⟨none, 0, rfl, Nat.le_refl _, by omega, .inl rfl⟩, by simp, (fun n c h => by injection h with _ _ h; exact h.symm), by simp, by simp⟩
  · simp [Value.cells] at hcs
    obtain ⟨rfl, rfl, rfl⟩ := hcs
    simp only [if_true] at hmm
    unfold maxLen at hm
    have hdd2 : Rows.uptoBulkAll ((List.range ln).map D) ≤ Rows.uptoBulk d := by
      have := congrArg (fun y => Rows.uptoBulk y.1) hdd
      simp only [Rows.uptoBulk] at this
      omega
    have each : ∀ i, i < ln → ∃ ds : List Dt, (W.cell? (a.add i) = some (V i) ∧ DatS W (V i) ds) ∧ ds.length ≤ Rows.uptoBulk (D i) := fun i hil => by
      obtain ⟨h1, h2⟩ := hi i (by omega)
      obtain ⟨ds, hds, hdl⟩ := open_datrow Tryz.underlying42 h2
      exact ⟨ds, ⟨h1, hds⟩, hdl⟩
    obtain ⟨F, hF⟩ := choose_lt each
    refine ⟨(List.range ln).map F, ⟨some a, cp, by simp, by simpa using hl, by omega, ?_⟩, fun r hr d hd => ?_, (fun n c h => by injection h with h _ _; cases h), ?_, fun r hr => ?_⟩
    rotate_left 2
    · have := bulk_length ((List.range ln).map D)
      simp at this ⊢
      omega
    · obtain ⟨i, hi2, rfl⟩ := List.mem_map.1 hr
      have h1 := (hF i (by simpa using hi2)).2
      have h2 := bulk_mem (d := D i) (l := (List.range ln).map D) (List.mem_map.2 ⟨i, hi2, rfl⟩)
      omega
    · by_cases h0 : ln = 0
      · subst h0; exact .inl (by simp)
      · right
        have hc0 := (hF 0 (by omega)).1.1
        have e0 : a.add 0 = a := by simp [Addr.add]
        rw [e0] at hc0
        have hspot := World.cell?_spot hc0
        obtain ⟨g, o, sp⟩ := a
        have hsp : sp = none := hspot
        subst hsp
        have hadd : ∀ j, (⟨g, o, none⟩ : Addr).add j = ⟨g, o + j, none⟩ := fun j => add_none g o j
        refine ⟨g, o, rfl, World.block_lt_of_cell? W _ hc0, fun i r hr => ?_⟩
        have hil : i < ln := by have := (List.getElem?_eq_some_iff.1 hr).1; simpa using this
        have hre : r = F i := by
          rw [List.getElem?_map, List.getElem?_range hil] at hr
          simpa using hr.symm
        subst hre
        obtain ⟨⟨k1, k2⟩, _⟩ := hF i hil
        rw [hadd] at k1
        exact ⟨_, k1, k2⟩
    · obtain ⟨i, hi2, rfl⟩ := List.mem_map.1 hr
      obtain ⟨_, _, _, _, _, _, h4⟩ := (hF i (by simpa using hi2)).1.2
      exact h4 d hd
set_option maxRecDepth 100000 in
/-- An expression that came in, of a bound bulk. -/
theorem open_expr {H : Type} {enc : TypeId × Value → H} {W : World} {b0 : Nat} {v : Value} {d : DataW H} {p : List MemPlace}
    (hv : Value.okWide Tryz.prog W .any b0 30 v) (h : DataW.Trod enc Tryz.prog W 0 (fun _ => true) true 30 v d p) (hb : Rows.uptoBulk d ≤ 1048576) : ∃ x : Ex, v = x.v ∧ ExAt W x ∧ x.cnt ≤ 1000000000 ∧ x.cols.length ≤ 1048576 ∧ x.wfs := by
  obtain ⟨cs, rfl, _⟩ := okWide_struct Tryz.underlying30 hv
  obtain ⟨n, hf⟩ := h
  obtain ⟨x, hcs, hx, hc, hc2, hc3⟩ := open_ex 1048576 (Nat.le_refl _) hf hb
  refine ⟨x, ?_, hx, Nat.le_trans hc (Nat.le_trans hb (by decide)), Nat.le_trans hc2 hb, hc3⟩
  have h2 : cs.toList = x.cells := hcs
  have h3 : cs = x.cells.toArray := by rw [← h2]
  rw [h3]
  cases x; rfl
end Go.Proofs.YtokbdleokihdaaaGreatDoor
namespace Go.Proofs.YtokbdleokihdaaaGreatDoor
open Go.ChangeShapes Go.WideShapes Go.ChangeAt Go.RowKit Go.Joins Go.Deep

set_option maxRecDepth 100000 in
theorem open_exprs {H : Type} {enc : TypeId × Value → H} {W : World} {b0 : Nat} {v : Value} {d : DataW H} {p : List MemPlace}
    (hv : Value.okWide Tryz.prog W .any b0 22 v) (h : DataW.Trod enc Tryz.prog W 0 (fun _ => true) true 22 v d p) (hb : Rows.uptoBulk d ≤ 1048576) :
    ∃ (q : Option Addr) (cap : Nat) (kids : List Ex), v = .slice q kids.length cap ∧ kids.length ≤ cap ∧ cap ≤ 1048576 ∧ (kids = [] ∨ ∃ g o, q = some ⟨g, o, none⟩ ∧ g < W.heap.size ∧ KCells W g o kids) ∧ ∀ x ∈ kids, ExAt W x ∧ x.cnt ≤ 1000000000 := by
  obtain ⟨q, ln, cp, rfl⟩ := okWide_slice Tryz.underlying22 hv
  obtain ⟨n, hf⟩ := h
  rcases open_slice Tryz.underlying22 hf with ⟨hcs, _⟩ | ⟨a, len, cap, m', n', D, Pl, hcs, _, hlc, hmx, hmm, hy7, hi⟩
  · simp [Value.cells] at hcs
    obtain ⟨rfl, rfl, rfl⟩ := hcs
    exact ⟨none, 0, [], rfl, Nat.le_refl _, by decide, .inl rfl, by simp⟩
  · simp [Value.cells] at hcs
    obtain ⟨rfl, rfl, rfl⟩ := hcs
    simp only [if_true] at hmm
    have hmm2 := hmm.symm
    subst hmm2
    have hb8 : Rows.uptoBulk d ≤ 1048576 := hb
    have hy8 := congrArg (fun y => Rows.uptoBulk y.1) hy7
    simp only [Rows.uptoBulk] at hy8
    have hsl : cp ≤ 1048576 := by
      have a1 := bulk_length ((List.range ln).map D)
      have a2 := bulk_length ((List.range (cp - ln)).map fun j => D (ln + j))
      simp at a1 a2
      omega
    have hC : Tryz.prog.cellsOf 30 = 11 := by kernel_rfl
    rw [hC] at hi
    have each : ∀ i, i < ln → ∃ x : Ex, W.cells? 0 (a.add (i * 11)) 11 = some x.cells ∧ ExAt W x ∧ x.cnt ≤ 1000000000 := fun i hil => by
      obtain ⟨cs2, g1, g2⟩ := hi i (by omega)
      have hmem := bulk_mem (d := D i) (l := (List.range ln).map D) (List.mem_map.2 ⟨i, by simpa using hil, rfl⟩)
      have hbi : Rows.uptoBulk (D i, Pl i).1 ≤ 1048576 := by show Rows.uptoBulk (D i) ≤ _; omega
      obtain ⟨x, hx, hx2, hx3, _⟩ := open_ex 1048576 (Nat.le_refl _) g2 hbi
      exact ⟨x, by rw [g1, hx], hx2, Nat.le_trans hx3 (Nat.le_trans hbi (by decide))⟩
    haveI : Inhabited Ex := ⟨.node 0 0 false Dt.zero 0 0 0 (.bool false) (.bool false) []⟩
    obtain ⟨F, hF⟩ := choose_lt each
    obtain ⟨kids, hkids⟩ : ∃ kids, kids = (List.range ln).map F := ⟨_, rfl⟩
    have hlen : kids.length = ln := by rw [hkids]; simp
    have hget : ∀ i x, kids[i]? = some x → i < ln ∧ x = F i := fun i x hx => by
      have hil : i < ln := by have := (List.getElem?_eq_some_iff.1 hx).1; omega
      rw [hkids, List.getElem?_map, List.getElem?_range hil] at hx
      exact ⟨hil, by simpa using hx.symm⟩
    have hat : ∀ x ∈ kids, ExAt W x ∧ x.cnt ≤ 1000000000 := fun x hx => by
      rw [hkids] at hx
      obtain ⟨i, hi2, rfl⟩ := List.mem_map.1 hx
      exact (hF i (by simpa using hi2)).2
    subst hlen
    refine ⟨some a, cp, kids, rfl, hlc, hsl, ?_, hat⟩
    by_cases h0 : kids = []
    · exact .inl h0
    · right
      have hpos : 0 < kids.length := List.length_pos_iff.2 h0
      obtain ⟨hx0, _⟩ := hF 0 hpos
      obtain ⟨_, _, hat0⟩ := World.cells?_some hx0
      have hc0 := hat0 0 (by omega)
      have e0 : (a.add (0 * 11)).add 0 = a := by simp [Addr.add]
      rw [e0] at hc0
      have hF0 : (F 0).cells[0]? = some (.int .i64 (F 0).k) := by cases F 0; rfl
      have hspot := World.cell?_spot (hc0.trans hF0)
      have hg := World.block_lt_of_cell? W _ (hc0.trans hF0)
      obtain ⟨g, o, sp⟩ := a
      have hsp : sp = none := hspot
      subst hsp
      have hadd : ∀ j, (⟨g, o, none⟩ : Addr).add j = ⟨g, o + j, none⟩ := fun j => add_none g o j
      refine ⟨g, o, rfl, hg, fun i x hx j u hu => ?_⟩
      obtain ⟨hil, rfl⟩ := hget i x hx
      obtain ⟨hxi, _⟩ := hF i hil
      obtain ⟨_, _, hat1⟩ := World.cells?_some hxi
      have hj : j < 11 := by
        have := (List.getElem?_eq_some_iff.1 hu).1
        have hc11 : (F i).cells.length = 11 := by cases F i; rfl
        omega
      have := hat1 j hj
      rw [Go.Deep.add_add, hadd] at this
      rw [show o + i * 11 + j = o + (i * 11 + j) by omega, this]; exact hu
end Go.Proofs.YtokbdleokihdaaaGreatDoor

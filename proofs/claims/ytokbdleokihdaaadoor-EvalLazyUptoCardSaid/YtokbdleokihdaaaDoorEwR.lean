/- The contract of the document's Right, of an expression. -/
import Derived.Test.YtokbdleokihdaaaDoorG18
import Derived.Test.YtokbdleokihdaaaDoorG02
namespace Go.Proofs.YtokbdleokihdaaaDoor
open Go.RowKit

set_option maxRecDepth 100000 in
set_option maxHeartbeats 4000000 in
theorem refxright_any {w : World} {x : Ex} (hx : ExAt w x) (env : List (List Dt)) (ve : Value) (hE : EnvS w ve env) : ∀ W, Below w.heap.size w W →
    Calls Tryd.prog 8 #[x.v, ve] W fun e w' => e = .returned (.bool (x.right env)) ∧ Below W.heap.size W w' := by
  induction hx with
  | @mk k t nl l lev col op kids p cap ps ns cs h1 h2 hk hl hks ih =>
    intro W hW
    obtain ⟨hb0, hbz, hbc⟩ := box11 W #[.int .i64 k, .int .i64 t, .bool nl, .int .i64 l.k, .int .i64 l.i, .string l.s, .int .i64 lev, .int .i64 col, .int .i64 op, .slice p kids.length cap, .slice ps ns cs] 27
    have HB := Lib.hid hb0
    have hcap := h1
    by_cases hk1 : k = 1
    · subst hk1
      have hzW : W.heap.size < (W.alloc (.cells #[.int .i64 1, .int .i64 t, .bool nl, .int .i64 l.k, .int .i64 l.i, .string l.s, .int .i64 lev, .int .i64 col, .int .i64 op, .slice p kids.length cap, .slice ps ns cs] 27)).heap.size := by omega
      have HV := Lib.hid (show (Ex.node 1 t nl l lev col op (.slice p kids.length cap) (.slice ps ns cs) kids).right env = rightD l by rw [Ex.right, if_pos rfl])
      simp only [Ex.v]
      obtain ⟨lk, li, ls⟩ := l
      clear hk hks ih hW hb0 hbz hbc
      go_enter Tryd.func8, Tryd.ntmps8
      go_wp2_with (first | (go_at_call 10; refine (refright_any _ _ _ _).mono ?_; rintro e w2 ⟨rfl, hb2⟩; have HB2 := Lib.hid (HB.out.trans (hb2.mono (Nat.le_of_lt hzW))); clear hb2) | fail)
      go_ret
      exact ⟨congrArg (fun b => Ending.returned (.bool b)) HV.out.symm, HB2.out⟩
    · by_cases hk2 : k = 2
      · subst hk2
        have HV := Lib.hid (show (Ex.node 2 t nl l lev col op (.slice p kids.length cap) (.slice ps ns cs) kids).right env = colOk env lev col by rw [Ex.right, if_neg (by decide), if_pos rfl])
        simp only [Ex.v]
        obtain ⟨pe, ce, rfl, he1, he2, he3⟩ := id hE
        have c6 := hbc 6
        have c7 := hbc 7
        simp only [List.getElem?_toArray, List.getElem?_cons_succ, List.getElem?_cons_zero] at c6 c7
        clear hk hks ih
        by_cases c1 : 0 ≤ lev
        · by_cases c2 : lev < (env.length : Int)
          · obtain ⟨eb, eo, rp, ce', rc, hev, heb, hrow, hrd⟩ := hE.row hW c1 c2
            obtain ⟨rfl, rfl⟩ : pe = some ⟨eb, eo, none⟩ ∧ ce = ce' := by injection hev with a _ b; exact ⟨a, b⟩
            have hrow0 := (HB.out.cell (p := ⟨eb, eo + lev.toNat, none⟩) heb).trans hrow
            have heb0 : eb < W.heap.size + 1 := by omega
            have HRD := Lib.hid hrd
            clear hrow hrd he3
            obtain ⟨rw, hrw⟩ : ∃ r, r = env.getD lev.toNat [] := ⟨_, rfl⟩
            have HG := Lib.hid (show colOk env lev col = (decide (0 ≤ col) && decide (col < (rw.length : Int)) && rightD (dnth rw col.toNat)) by unfold colOk; rw [decide_eq_true c1, decide_eq_true c2, ← hrw]; rfl)
            rw [← hrw] at hrow0 HRD
            clear hrw
            by_cases c3 : 0 ≤ col
            · by_cases c4 : col < (rw.length : Int)
              · obtain ⟨db, dof, dc, hdv, hdb, d0, d1, d2⟩ := HRD.out.at c3 c4
                obtain ⟨rfl, rfl⟩ : rp = some ⟨db, dof, none⟩ ∧ rc = dc := by injection hdv with a _ b; exact ⟨a, b⟩
                have HF := Lib.hid (show colOk env lev col = rightD (dnth rw col.toNat) by rw [HG.out, decide_eq_true c3, decide_eq_true c4]; rfl)
                have e0 := (HB.out.cell (p := ⟨db, dof + col.toNat * 3, none⟩) hdb).trans d0
                have e1 := (HB.out.cell (p := ⟨db, dof + col.toNat * 3 + 1, none⟩) hdb).trans d1
                have e2 := (HB.out.cell (p := ⟨db, dof + col.toNat * 3 + 2, none⟩) hdb).trans d2
                have hdb0 : db < W.heap.size + 1 := by omega
                clear d0 d1 d2
                generalize dnth rw col.toNat = dd at *
                obtain ⟨dk, di, ds⟩ := dd
                go_enter Tryd.func8, Tryd.ntmps8
                go_wp2_with (first | (go_at_call 10; refine (refright_any _ _ _ _).mono ?_; rintro e w2 ⟨rfl, hb2⟩; have HB2 := Lib.hid (HB.out.trans (hb2.mono (by omega))); clear hb2) | fail)
                go_ret
                exact ⟨congrArg (fun b => Ending.returned (.bool b)) (HV.out.trans HF.out).symm, HB2.out⟩
              · have HF := Lib.hid (show colOk env lev col = false by rw [HG.out, decide_eq_false c4, Bool.and_false]; rfl)
                have n4 := decide_eq_false c4
                go_enter Tryd.func8, Tryd.ntmps8
                go_wp2_with (first | (go_at_call 10; refine (refright_any _ _ _ _).mono ?_; rintro e w2 ⟨rfl, hb2⟩; have HB2 := Lib.hid (HB.out.trans (hb2.mono (by omega))); clear hb2) | fail)
                go_ret
                exact ⟨congrArg (fun b => Ending.returned (.bool b)) (HV.out.trans HF.out).symm, HB.out⟩
            · have HF := Lib.hid (show colOk env lev col = false by rw [HG.out, decide_eq_false c3]; rfl)
              have n3 := decide_eq_false c3
              go_enter Tryd.func8, Tryd.ntmps8
              go_wp2_with (first | (go_at_call 10; refine (refright_any _ _ _ _).mono ?_; rintro e w2 ⟨rfl, hb2⟩; have HB2 := Lib.hid (HB.out.trans (hb2.mono (by omega))); clear hb2) | fail)
              go_ret
              exact ⟨congrArg (fun b => Ending.returned (.bool b)) (HV.out.trans HF.out).symm, HB.out⟩
          · have HF := Lib.hid (show colOk env lev col = false by unfold colOk; rw [decide_eq_false c2, Bool.and_false]; rfl)
            have n2 := decide_eq_false c2
            go_enter Tryd.func8, Tryd.ntmps8
            go_wp2_with (first | (go_at_call 10; refine (refright_any _ _ _ _).mono ?_; rintro e w2 ⟨rfl, hb2⟩; have HB2 := Lib.hid (HB.out.trans (hb2.mono (by omega))); clear hb2) | fail)
            go_ret
            exact ⟨congrArg (fun b => Ending.returned (.bool b)) (HV.out.trans HF.out).symm, HB.out⟩
        · have HF := Lib.hid (show colOk env lev col = false by unfold colOk; rw [decide_eq_false c1]; rfl)
          have n1 := decide_eq_false c1
          go_enter Tryd.func8, Tryd.ntmps8
          go_wp2_with (first | (go_at_call 10; refine (refright_any _ _ _ _).mono ?_; rintro e w2 ⟨rfl, hb2⟩; have HB2 := Lib.hid (HB.out.trans (hb2.mono (by omega))); clear hb2) | fail)
          go_ret
          exact ⟨congrArg (fun b => Ending.returned (.bool b)) (HV.out.trans HF.out).symm, HB.out⟩
      · by_cases hk3 : k = 3
        · subst hk3
          have HV := Lib.hid (show (Ex.node 3 t nl l lev col op (.slice p kids.length cap) (.slice ps ns cs) kids).right env = (rightL env kids && kidsOk op kids.length) by rw [Ex.right, if_neg (by decide), if_neg (by decide), if_pos rfl])
          have HK := Lib.hid hk
          have HI := Lib.hid ih
          have HKS := Lib.hid hks
          have HW := Lib.hid hW
          have hL : kids.length ≤ 9223372036854775807 := by omega
          have hbz' : W.heap.size < W.heap.size + 1 := by omega
          clear hk ih hks hW hcap h1 h2 hl hb0 hbz hbc
          generalize hlen : kids.length = n at *
          have HL := Lib.hid hlen
          clear hlen
          simp only [Ex.v]
          go_enter Tryd.func8, Tryd.ntmps8
          go_wp2_with fail
          go_loopw [64] (fun iv wr => ∃ j : Nat, j ≤ n ∧ iv = .int .i64 (j : Int) ∧ rightL env (kids.take j) = true ∧ Below W.heap.size W wr ∧ W.heap.size + 1 ≤ wr.heap.size ∧ wr.cell? ⟨W.heap.size, 8, none⟩ = some (.int .i64 op) ∧ wr.cell? ⟨W.heap.size, 9, none⟩ = some (.slice p n cap)) (fun iv _ => n - (intOf iv).toNat)
          case atStart => exact ⟨0, Nat.zero_le _, rfl, by simp [rightL], HB.out, by simp, by rw [World.cell?_alloc_new]; rfl, by rw [World.cell?_alloc_new]; rfl⟩
          case round =>
            obtain ⟨j, hj, rfl, hrl, hbl, hzr, k8, k9⟩ := hrel
            have HBl := Lib.hid hbl
            have HRL := Lib.hid hrl
            have hWr := hbl.size
            have hww := HW.out.size
            clear hbl hrl
            by_cases hlt : j < n
            · have hjl : j < kids.length := by rw [HL.out]; exact hlt
              have hne : kids ≠ [] := fun h => by rw [h] at hjl; simp at hjl
              obtain ⟨b, o, rfl, hbk, hc⟩ := HK.out.resolve_left hne
              obtain ⟨y, hy⟩ : ∃ y, kids[j] = y := ⟨_, rfl⟩
              have hyj : kids[j]? = some y := by rw [List.getElem?_eq_getElem hjl, hy]
              have hmem : y ∈ kids := List.mem_of_getElem? hyj
              have hex := HKS.out y hmem
              have HY := Lib.hid (HI.out y hmem)
              have HTK := Lib.hid (show rightL env (kids.take (j + 1)) = y.right env by
                rw [List.take_succ_eq_append_getElem hjl, hy, rightL_append, HRL.out, Bool.true_and]; simp [rightL])
              have HNO := Lib.hid (show y.right env = false → rightL env kids = false from fun h => Bool.eq_false_iff.2 fun h2 => by rw [(rightL_iff env kids).1 h2 y hmem] at h; exact absurd h (by decide))
              generalize hcy : y.right env = cy at *
              obtain ⟨k', t', nl', l', lev', col', op', kv', sv', kids'⟩ := y
              obtain ⟨p', cap', ps', ns', cs', rfl, rfl⟩ := hex.slices
              obtain ⟨⟨c0, c1, c2, c3⟩, ⟨c4, c5, c6, c7⟩, c8, c9, c10⟩ := hc.at (HW.out.trans (HBl.out.mono HW.out.size)) hbk hyj
              clear hc hex
              simp only [Ex.v] at HY
              cases hcc : cy
              · go_wp2_with (first | (go_at_call 8; refine (HY.out _ (HW.out.trans ((HBl.out.alloc (by omega) _).mono (by omega)))).mono ?_; rintro e w2 ⟨rfl, hb2⟩; have HR := Lib.hid ((HBl.out.alloc (by omega) _).trans (hb2.mono (by simp; omega))); clear hb2) | fail)
                go_ret
                exact ⟨congrArg (fun b => Ending.returned (.bool b)) (HV.out.trans (by rw [HNO.out hcc]; rfl)).symm, HR.out⟩
              · go_wp2_with (first | (go_at_call 8; refine (HY.out _ (HW.out.trans ((HBl.out.alloc (by omega) _).mono (by omega)))).mono ?_; rintro e w2 ⟨rfl, hb2⟩; have HR := Lib.hid ((HBl.out.alloc (by omega) _).trans (hb2.mono (by simp; omega))); have HS2 := Lib.hid hb2; clear hb2) | fail)
                go_roundw
                case rel =>
                  have hb2 := HS2.out
                  have hz2 := hb2.size
                  simp at hz2
                  refine ⟨j + 1, by omega, by go_num, by rw [HTK.out]; exact hcc, HR.out, by omega, ?_, ?_⟩
                  · rw [hb2.cell (p := ⟨W.heap.size, 8, none⟩) (by simp; omega), World.cell?_alloc_past _ _ _ (by show W.heap.size < _; omega)]; exact k8
                  · rw [hb2.cell (p := ⟨W.heap.size, 9, none⟩) (by simp; omega), World.cell?_alloc_past _ _ _ (by show W.heap.size < _; omega)]; exact k9
                case measure => simp [intOf]; omega
            · obtain rfl : j = n := by omega
              go_wp2_with (first | (go_at_call 20; refine (rkids_any _ _ _).mono ?_; rintro e w2 ⟨rfl, hb2⟩; have HBl := Lib.hid (HBl.out.trans (hb2.mono HBl.out.size)); clear hb2) | fail)
              go_ret
              have hE : rightL env kids = true := by have := HRL.out; rwa [List.take_of_length_le (by rw [HL.out]; omega)] at this
              exact ⟨congrArg (fun b => Ending.returned (.bool b)) (HV.out.trans (by rw [hE, Bool.true_and])).symm, HBl.out⟩
        · have HV := Lib.hid (show (Ex.node k t nl l lev col op (.slice p kids.length cap) (.slice ps ns cs) kids).right env = (decide (4 ≤ k) && decide (k ≤ 6)) by rw [Ex.right, if_neg hk1, if_neg hk2, if_neg hk3])
          have hz : W.heap.size + 1 = (W.alloc (.cells #[.int .i64 k, .int .i64 t, .bool nl, .int .i64 l.k, .int .i64 l.i, .string l.s, .int .i64 lev, .int .i64 col, .int .i64 op, .slice p kids.length cap, .slice ps ns cs] 27)).heap.size := hbz.symm
          have b1 : (k == 1) = false := by simpa using hk1
          have b2 : (k == 2) = false := by simpa using hk2
          have b3 : (k == 3) = false := by simpa using hk3
          simp only [Ex.v]
          clear hk ih hks hW hcap h1 h2 hl hb0 hbz hbc hk1 hk2 hk3 hz
          go_enter Tryd.func8, Tryd.ntmps8
          by_cases h4 : 4 ≤ k
          · by_cases h6 : k ≤ 6
            · rw [decide_eq_true h4, decide_eq_true h6] at HV
              go_wp2_with fail
              go_ret
              exact ⟨congrArg (fun b => Ending.returned (.bool b)) HV.out.symm, HB.out⟩
            · rw [decide_eq_true h4, decide_eq_false h6] at HV
              have n6 := decide_eq_false h6
              go_wp2_with fail
              go_ret
              exact ⟨congrArg (fun b => Ending.returned (.bool b)) HV.out.symm, HB.out⟩
          · rw [decide_eq_false h4] at HV
            have n4 := decide_eq_false h4
            go_wp2_with fail
            go_ret
            exact ⟨congrArg (fun b => Ending.returned (.bool b)) HV.out.symm, HB.out⟩
end Go.Proofs.YtokbdleokihdaaaDoor

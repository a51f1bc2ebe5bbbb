/- The contract of eval.cases. Every value of an expression that may be is of a known kind. -/
import Derived.Test.YtokbdleokihdaaaGreatDoorG23
import Derived.Test.YtokbdleokihdaaaGreatDoorG22
import Derived.Outline
namespace Go.Proofs.YtokbdleokihdaaaGreatDoor
open Go.RowKit

/-- A function value that answers the i-th of some results, in every world from here on. -/
def Kid (w : World) (f : Nat) (caps : Array Value) (rs : List (Dt × Int)) : Prop :=
  ∀ (i : Nat) (r : Dt × Int), rs[i]? = some r → ∀ W, Below w.heap.size w W → Calls Tryz.prog f (#[.int .i64 (i : Int)] ++ caps) W fun e w' => e = .returned (resV r) ∧ Below W.heap.size W w'

theorem caseF_drop {rs : List (Dt × Int)} {i : Nat} {c v : Dt × Int} (hc : rs[i]? = some c) (hv : rs[i + 1]? = some v) :
    caseF (rs.drop i) = if c.2 ≠ 0 then (Dt.zero, c.2) else if 1 < c.1.k then (Dt.zero, 5) else if c.1.k = 1 ∧ c.1.i = 1 then v else caseF (rs.drop (i + 2)) := by
  have hi : i + 1 < rs.length := (List.getElem?_eq_some_iff.1 hv).1
  have h1 : rs[i] = c := (List.getElem?_eq_some_iff.1 hc).2
  have h2 : rs[i + 1] = v := (List.getElem?_eq_some_iff.1 hv).2
  rw [List.drop_eq_getElem_cons (by omega), List.drop_eq_getElem_cons hi, h1, h2]
  rw [caseF]

set_option maxRecDepth 100000 in
set_option maxHeartbeats 4000000 in
theorem evcases_any (caps : Array Value) (rs : List (Dt × Int)) (w : World) (hV : ∀ r ∈ rs, Vok r.1) (hn : rs.length ≤ 1152921504606846976) (hK : Kid w 45 caps rs) :
    Calls Tryz.prog 48 #[.int .i64 (rs.length : Int), .func (.func 45) #[] caps] w fun e w' => e = .returned (resV (caseF rs)) ∧ Below w.heap.size w w' := by
  have HV := Lib.hid hV
  have HK := Lib.hid hK
  clear hV hK
  generalize hlen : rs.length = n at *
  have HL := Lib.hid hlen
  clear hlen
  go_enter Tryz.func48, Tryz.ntmps48
  go_wp2_with fail
  go_loopw [5] (fun iv wr => ∃ i : Nat, i ≤ n + 1 ∧ iv = .int .i64 (i : Int) ∧ caseF rs = caseF (rs.drop i) ∧ Below w.heap.size w wr) (fun iv _ => n + 2 - (intOf iv).toNat)
  case atStart => exact ⟨0, Nat.zero_le _, rfl, rfl, Below.refl _ _⟩
  case round =>
    obtain ⟨i, hi, rfl, hF, hbl⟩ := hrel
    have HF := Lib.hid hF
    have HB := Lib.hid hbl
    have hzr := hbl.size
    clear hF hbl
    by_cases hlt : i + 1 < n
    · obtain ⟨c, hc⟩ : ∃ c, rs[i]? = some c := ⟨rs[i]'(by rw [HL.out]; omega), List.getElem?_eq_getElem _⟩
      obtain ⟨v, hv⟩ : ∃ v, rs[i + 1]? = some v := ⟨rs[i + 1]'(by rw [HL.out]; omega), List.getElem?_eq_getElem _⟩
      have HD := Lib.hid (HF.out.trans (caseF_drop hc hv))
      have HK1 := Lib.hid (HK.out i c hc)
      have HK2 := Lib.hid (HK.out (i + 1) v hv)
      have hcv := HV.out c (List.mem_of_getElem? hc)
      clear hc hv
      obtain ⟨⟨ck, ci, cs⟩, er⟩ := c
      by_cases he : er = 0
      · subst he
        rw [resV_ok] at HK1
        have h0 : 0 ≤ ck := hcv.k
        by_cases hk1 : ck = 1
        · subst hk1
          have hi01 := (hcv.truth rfl).1
          simp only at hi01
          rcases hi01 with rfl | rfl
          · have HE := Lib.hid (show caseF rs = caseF (rs.drop (i + 2)) by rw [HD.out]; rfl)
            clear HD
            go_wp2_with (first
              | (go_at_call 45; refine (HK1.out _ HB.out).mono ?_; rintro e w2 ⟨rfl, hb2⟩; have HB2 := Lib.hid (HB.out.trans (hb2.mono hzr)); clear hb2)
              | (go_at_call 46; refine (evtruth_ok 1 0 cs _).mono ?_; rintro e w3 ⟨rfl, hb3⟩; have HB3 := Lib.hid (HB2.out.trans (hb3.mono HB2.out.size)); clear hb3)
              | fail)
            go_roundw
            case rel => exact ⟨i + 2, by omega, by go_num, HE.out, HB3.out⟩
            case measure => simp [intOf]; omega
          · have HE := Lib.hid (show caseF rs = v by rw [HD.out]; rfl)
            clear HD
            have hq : (1 : Int) = 1 := rfl
            go_wp2_with (first
              | (go_at_call 45; first | (refine (HK1.out _ HB.out).mono ?_; rintro e w2 ⟨rfl, hb2⟩; have HB2 := Lib.hid (HB.out.trans (hb2.mono hzr)); clear hb2) | (refine (HK2.out _ HB3.out).mono ?_; rintro e w4 ⟨rfl, hb4⟩; have HB4 := Lib.hid (HB3.out.trans (hb4.mono HB3.out.size)); clear hb4))
              | (go_at_call 46; refine (evtruth_ok 1 1 cs _).mono ?_; rintro e w3 ⟨rfl, hb3⟩; have HB3 := Lib.hid (HB2.out.trans (hb3.mono HB2.out.size)); clear hb3)
              | fail)
            go_ret
            exact ⟨congrArg Ending.returned (congrArg resV HE.out).symm, HB4.out⟩
        · have b1 : (ck == 1) = false := by simpa using hk1
          by_cases hk0 : ck = 0
          · obtain ⟨rfl, rfl⟩ : ci = 0 ∧ cs = ⟨#[]⟩ := by have := hcv.null hk0; injection this with _ a b; exact ⟨a, b⟩
            subst hk0
            have HE := Lib.hid (show caseF rs = caseF (rs.drop (i + 2)) by rw [HD.out]; rfl)
            clear HD
            have hz : eqD 0 0 ⟨#[]⟩ 0 0 ⟨#[]⟩ = true := eqD_iff.2 ⟨rfl, rfl, rfl⟩
            go_wp2_with (first
              | (go_at_call 45; refine (HK1.out _ HB.out).mono ?_; rintro e w2 ⟨rfl, hb2⟩; have HB2 := Lib.hid (HB.out.trans (hb2.mono hzr)); clear hb2)
              | (go_at_call 46; refine (evtruth_ok 0 0 ⟨#[]⟩ _).mono ?_; rintro e w3 ⟨rfl, hb3⟩; have HB3 := Lib.hid (HB2.out.trans (hb3.mono HB2.out.size)); clear hb3)
              | fail)
            go_roundw
            case rel => exact ⟨i + 2, by omega, by go_num, HE.out, HB3.out⟩
            case measure => simp [intOf]; omega
          · have HE := Lib.hid (show caseF rs = (Dt.zero, 5) by rw [HD.out, if_neg (fun h => h rfl), if_pos (show 1 < ck by omega)])
            have HE2 := Lib.hid (show resV (caseF rs) = .iface 33 (.int .i64 5) by rw [HE.out]; rfl)
            clear HD
            have hz : eqD ck ci cs 0 0 ⟨#[]⟩ = false := Bool.eq_false_iff.2 fun h => hk0 (eqD_iff.1 h).1
            go_wp2_with (first
              | (go_at_call 45; refine (HK1.out _ HB.out).mono ?_; rintro e w2 ⟨rfl, hb2⟩; have HB2 := Lib.hid (HB.out.trans (hb2.mono hzr)); clear hb2)
              | (go_at_call 46; refine (evtruth_ok ck ci cs _).mono ?_; rintro e w3 ⟨rfl, hb3⟩; have HB3 := Lib.hid (HB2.out.trans (hb3.mono HB2.out.size)); clear hb3)
              | fail)
            go_ret
            exact ⟨congrArg Ending.returned HE2.out.symm, HB3.out⟩
      · have HE := Lib.hid (show resV (caseF rs) = .iface 33 (.int .i64 er) by rw [HD.out, if_pos he]; exact if_neg he)
        rw [resV_err (r := (⟨ck, ci, cs⟩, er)) he] at HK1
        have hdz : decide (er = 0) = false := decide_eq_false he
        clear HD
        go_wp2_with (first
          | (go_at_call 45; refine (HK1.out _ HB.out).mono ?_; rintro e w2 ⟨rfl, hb2⟩; have HB2 := Lib.hid (HB.out.trans (hb2.mono hzr)); clear hb2)
          | (go_at_call 46; refine (evtruth_err er he _).mono ?_; rintro e w3 ⟨rfl, hb3⟩; have HB3 := Lib.hid (HB2.out.trans (hb3.mono HB2.out.size)); clear hb3)
          | fail)
        go_ret
        exact ⟨congrArg Ending.returned HE.out.symm, HB3.out⟩
    · by_cases h1 : i < n
      · obtain ⟨c, hc⟩ : ∃ c, rs[i]? = some c := ⟨rs[i]'(by rw [HL.out]; omega), List.getElem?_eq_getElem _⟩
        have hn1 : i + 1 = n := by omega
        have HE := Lib.hid (show caseF rs = c by
          rw [HF.out, List.drop_eq_getElem_cons (by rw [HL.out]; omega), List.drop_eq_nil_of_le (by rw [HL.out]; omega), (List.getElem?_eq_some_iff.1 hc).2, caseF])
        have HK1 := Lib.hid (HK.out i c hc)
        clear hc
        go_wp2_with (first
          | (go_at_call 45; refine (HK1.out _ HB.out).mono ?_; rintro e w2 ⟨rfl, hb2⟩; have HB2 := Lib.hid (HB.out.trans (hb2.mono hzr)); clear hb2)
          | fail)
        go_ret
        exact ⟨congrArg Ending.returned (congrArg resV HE.out).symm, HB2.out⟩
      · have HE := Lib.hid (show resV (caseF rs) = .iface 27 (.agg #[.int .i64 0, .int .i64 0, .string ⟨#[]⟩]) by
          rw [HF.out, List.drop_eq_nil_of_le (by rw [HL.out]; omega), caseF]; rfl)
        go_wp2_with fail
        go_ret
        exact ⟨congrArg Ending.returned HE.out.symm, HB.out⟩
end Go.Proofs.YtokbdleokihdaaaGreatDoor
namespace Go.Proofs.YtokbdleokihdaaaGreatDoor
open Go.RowKit

def In64d (d : Dt) : Prop := -9223372036854775808 ≤ d.i ∧ d.i ≤ 9223372036854775807
theorem valL_mem (env : List (List Dt)) {P : Dt × Int → Prop} : ∀ (l : List Ex) (s : List Dt), (∀ x ∈ l, ∀ n, P (x.val env (s.drop n))) → ∀ r ∈ valL env l s, P r
  | [], _, _, r, hr => by simp [valL] at hr
  | x :: l, s, h, r, hr => by
    unfold valL at hr
    rcases List.mem_cons.1 hr with rfl | hr
    · have := h x (by simp) 0
      simpa using this
    · refine valL_mem env l (s.drop x.cnt) (fun y hy n => ?_) r hr
      rw [List.drop_drop]
      exact h y (by simp [hy]) _
theorem vok_val {w : World} {x : Ex} (hx : ExAt w x) (env : List (List Dt)) (henv : ∀ r ∈ env, ∀ d ∈ r, In64d d) : x.right env = true → ∀ subs : List Dt, (∀ d ∈ subs, Vok d) → Vok (x.val env subs).1 := by
  induction hx with
  | @mk k t nl l lev col op kids p cap ps ns cs h1 h2 hk hl hks ih =>
    intro hr subs hs
    unfold Ex.right at hr
    unfold Ex.val
    by_cases k1 : k = 1
    · rw [if_pos k1] at hr ⊢
      exact vok_right hr hl
    · rw [if_neg k1] at hr ⊢
      by_cases k2 : k = 2
      · rw [if_pos k2] at hr ⊢
        unfold colOk at hr
        simp only [Bool.and_eq_true, decide_eq_true_eq] at hr
        obtain ⟨⟨⟨⟨a1, a2⟩, a3⟩, a4⟩, a5⟩ := hr
        refine vok_right a5 ?_
        have hl1 : lev.toNat < env.length := by omega
        have hl2 : col.toNat < (env.getD lev.toNat []).length := by omega
        refine henv (env.getD lev.toNat []) ?_ _ ?_
        · rw [List.getD_eq_getElem?_getD, List.getElem?_eq_getElem hl1]
          exact List.getElem_mem hl1
        · unfold dnth
          rw [List.getD_eq_getElem?_getD (l := env.getD lev.toNat []), List.getElem?_eq_getElem hl2]
          exact List.getElem_mem hl2
      · rw [if_neg k2] at hr ⊢
        by_cases k3 : k = 3
        · rw [if_pos k3] at hr ⊢
          simp only [Bool.and_eq_true] at hr
          refine vok_callF op _ (valL_mem env (P := fun r => Vok r.1) kids subs fun y hy n => ?_)
          exact ih y hy ((rightL_iff env kids).1 hr.1 y hy) _ (fun d hd => hs d (List.mem_of_mem_drop hd))
        · rw [if_neg k3]
          split
          · show Vok (dnth subs 0)
            cases subs with
            | nil => exact Vok.zero
            | cons d s => exact hs d (by simp)
          · exact Vok.zero
end Go.Proofs.YtokbdleokihdaaaGreatDoor

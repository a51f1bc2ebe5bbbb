/- The contract of eval.call: at AND. The contract of eval.call: at OR. The contract of eval.call: at COALESCE. The contract of eval.call: at the other operators. -/
import Derived.Test.YtokbdleokihdaaaGreatDoorG25
import Derived.Test.YtokbdleokihdaaaGreatDoorG24
namespace Go.Proofs.YtokbdleokihdaaaGreatDoor
open Go.RowKit

theorem short_and : shortF 13 ⟨1, 0, ⟨#[]⟩⟩ = true := by unfold shortF; rw [show eqD 1 0 ⟨#[]⟩ 1 0 ⟨#[]⟩ = true from eqD_iff.2 ⟨rfl, rfl, rfl⟩]; rfl
theorem short_or : shortF 14 ⟨1, 1, ⟨#[]⟩⟩ = true := by unfold shortF; rw [show eqD 1 1 ⟨#[]⟩ 1 1 ⟨#[]⟩ = true from eqD_iff.2 ⟨rfl, rfl, rfl⟩]; rfl
theorem short_and1 {s : ByteArray} : shortF 13 ⟨1, 1, s⟩ = false := by unfold shortF; rw [show eqD 1 1 s 1 0 ⟨#[]⟩ = false from Bool.eq_false_iff.2 fun h => absurd (eqD_iff.1 h).2.1 (by decide)]; rfl
theorem short_or0 {s : ByteArray} : shortF 14 ⟨1, 0, s⟩ = false := by unfold shortF; rw [show eqD 1 0 s 1 1 ⟨#[]⟩ = false from Bool.eq_false_iff.2 fun h => absurd (eqD_iff.1 h).2.1 (by decide)]; rfl
theorem short_no (op : Int) {k i : Int} {s : ByteArray} (h : ¬ k = 1) : shortF op ⟨k, i, s⟩ = false := by
  unfold shortF
  rw [show eqD k i s 1 0 ⟨#[]⟩ = false from Bool.eq_false_iff.2 fun e => h (eqD_iff.1 e).1, show eqD k i s 1 1 ⟨#[]⟩ = false from Bool.eq_false_iff.2 fun e => h (eqD_iff.1 e).1, Bool.and_false, Bool.and_false]; rfl

set_option maxRecDepth 100000 in
set_option maxHeartbeats 16000000 in
theorem call_and {w : World} (k t : Int) (nl : Bool) (l : Dt) (lev col : Int) (p : Option Addr) (cap : Nat) (ps : Option Addr) (ns cs : Nat) (kids : List Ex) (pe : Option Addr) (ne ce : Nat) (pv : Option Addr) (nv cv : Nat) (W : World) (hcap : kids.length ≤ cap) (hcap2 : cap ≤ 1048576)
    (hk : kids = [] ∨ ∃ b o, p = some ⟨b, o, none⟩ ∧ b < w.heap.size ∧ KCells w b o kids) (hks : ∀ x ∈ kids, ExAt w x) (hcnt : cntL kids ≤ 1000000000) (hW : Below w.heap.size w W) (hT : Tabs w)
    (rs : List (Dt × Int)) (hrl : rs.length = kids.length) (hV : ∀ r ∈ rs, Vok r.1) (r0 r1 : Dt × Int) (hrs : rs = [r0, r1])
    (hKid : ∀ w0 v, LB W #[.int .i64 k, .int .i64 t, .bool nl, .int .i64 l.k, .int .i64 l.i, .string l.s, .int .i64 lev, .int .i64 col, .int .i64 13, .slice p kids.length cap, .slice ps ns cs] (.slice pe ne ce) (.slice pv nv cv) v (froms kids kids.length) w0 → Kid w0 45 (caps W) rs) :
    Calls Tryz.prog 31 #[.agg #[.int .i64 k, .int .i64 t, .bool nl, .int .i64 l.k, .int .i64 l.i, .string l.s, .int .i64 lev, .int .i64 col, .int .i64 13, .slice p kids.length cap, .slice ps ns cs], .slice pe ne ce, .slice pv nv cv] W fun e w' => e = .returned (resV (strictF 13 [] rs)) ∧ Below W.heap.size W w' := by
  obtain ⟨i0, hi, hz0, hz1, hz2⟩ := info_parts Intinfo'
  obtain ⟨B1, B2, B3, B4, B5, B6, B7⟩ := boxes4 W #[.int .i64 k, .int .i64 t, .bool nl, .int .i64 l.k, .int .i64 l.i, .string l.s, .int .i64 lev, .int .i64 col, .int .i64 13, .slice p kids.length cap, .slice ps ns cs] #[.slice pe ne ce] #[.slice pv nv cv] #[.slice none 0 0] 30 23 25 79
  have HL0 := Lib.hid (show LB W #[.int .i64 k, .int .i64 t, .bool nl, .int .i64 l.k, .int .i64 l.i, .string l.s, .int .i64 lev, .int .i64 col, .int .i64 13, .slice p kids.length cap, .slice ps ns cs] (.slice pe ne ce) (.slice pv nv cv) (.slice none 0 0) (froms kids 0) _ from
    ⟨B1, by omega, B3, B4 0, B5 0, B6 0, B7 0, World.ownsRow_nil _ _ _ _⟩)
  have HK := Lib.hid hk
  have HKS := Lib.hid hks
  have HW := Lib.hid hW
  have HC := Lib.hid hcnt
  have HKD := Lib.hid hKid
  have HT := Lib.hid (hT.below hW)
  have HV := Lib.hid hV
  clear B1 B2 B3 B4 B5 B6 B7 hk hks hW hcnt hKid hT hV
  generalize hlen : kids.length = n at *
  have HL := Lib.hid hlen
  clear hlen
  go_enter Tryz.func31, Tryz.ntmps31
  go_wp2_with fail
  go_loopw [8, 27] (fun av iv wr => ∃ (j : Nat) (v : Value), j ≤ n ∧ iv = .int .i64 (j : Int) ∧ av = .int .i64 ((cntL (kids.take j) : Nat) : Int) ∧
      LB W #[.int .i64 k, .int .i64 t, .bool nl, .int .i64 l.k, .int .i64 l.i, .string l.s, .int .i64 lev, .int .i64 col, .int .i64 13, .slice p n cap, .slice ps ns cs] (.slice pe ne ce) (.slice pv nv cv) v (froms kids j) wr) (fun _ iv _ => n - (intOf iv).toNat)
  case atStart => exact ⟨0, _, Nat.zero_le _, rfl, by simp [cntL], HL0.out⟩
  case round =>
    obtain ⟨j, v, hj, rfl, rfl, hlb⟩ := hrel
    have HLB := Lib.hid hlb
    have hzr := hlb.n
    have hz3 : W.heap.size + 1 + 1 + 1 < wr.heap.size := by omega
    have k3 := hlb.cell
    have f3 := hlb.fz
    have hWr := hlb.b.size
    have hww := HW.out.size
    have HRW := Lib.hid hlb.row
    obtain ⟨fp, fn, fc, hfv⟩ := owns_slice hlb.row
    subst hfv
    clear hlb
    by_cases hlt : j < n
    · have hjl : j < kids.length := by rw [HL.out]; exact hlt
      have hne : kids ≠ [] := fun h => by rw [h] at hjl; simp at hjl
      obtain ⟨b, o, rfl, hbk, hc⟩ := HK.out.resolve_left hne
      obtain ⟨y, hy⟩ : ∃ y, kids[j] = y := ⟨_, rfl⟩
      have hyj : kids[j]? = some y := by rw [List.getElem?_eq_getElem hjl, hy]
      have hmem : y ∈ kids := List.mem_of_getElem? hyj
      have hex := HKS.out y hmem
      have hct := cntL_take kids j hjl
      rw [hy] at hct
      have hcl := cntL_take_le kids (j + 1)
      have hcc := HC.out
      have HCT := Lib.hid hct
      have hc1 : y.cnt ≤ 1000000000 := by omega
      have hs1 : cntL (kids.take j) + y.cnt ≤ 1000000000 := by omega
      have HY := Lib.hid (evmany_any hex hc1)
      have HFS := Lib.hid (froms_succ kids j)
      have hfl := froms_length kids j
      clear hct hcl hcc
      generalize cntL (kids.take j) = m at *
      generalize hcy : y.cnt = cy at *
      obtain ⟨k', t', nl', l', lev', col', op', kv', sv', kids'⟩ := y
      obtain ⟨p', cap', ps', ns', cs', rfl, rfl⟩ := hex.slices
      obtain ⟨⟨c0, c1, c2, c3⟩, ⟨c4, c5, c6, c7⟩, c8, c9, c10⟩ := hc.at (HW.out.trans (HLB.out.b.mono HW.out.size)) hbk hyj
      clear hc hex
      simp only [Ex.v] at HY
      go_wp2_with (at_builtin; refine wpList_append_own _ rfl _ _ 79 rfl (W.heap.size + 4) 3 i0 (.int .i64 0) 1 8 Tryz.underlying79 hi hz0 hz1 hz2 rfl (by decide) _ _ _ rfl ((HRW.out.alloc _).alloc _) ⟨wr.heap.size + 1, 0, none⟩ 1 1 [.int .i64 (m : Int)] rfl rfl (cell1n2 _ _ _ _) (by simp [Value.oneCell']) (by unfold maxLen; omega) (by omega) (by simp; omega) ?_)
      intro v' w3 hown' hg3 _
      obtain ⟨p3, n3, c3', rfl⟩ := owns_slice hown'
      obtain ⟨q3, g3, HN, hq, hz3'⟩ := HLB.out.app (a := m) (by rw [hfl]; exact hown') hg3
      have d0 := hq 0 _ rfl
      have d1 := hq 1 _ rfl
      have d2 := hq 2 _ rfl
      have d3 := hq 3 _ rfl
      have d4 := hq 4 _ rfl
      have d5 := hq 5 _ rfl
      have d6 := hq 6 _ rfl
      have d7 := hq 7 _ rfl
      have d8 := hq 8 _ rfl
      have d9 := hq 9 _ rfl
      have d10 := hq 10 _ rfl
      clear hown' hg3 hq c0 c1 c2 c3 c4 c5 c6 c7 c8 c9 c10 k3 f3
      have hB3 := HN.out.b
      have HBW := Lib.hid (HW.out.trans (hB3.mono hww))
      clear hB3
      go_wp2_with (first | (go_at_call 15; refine (HY.out _ HBW.out).mono ?_; rintro e w2 ⟨rfl, hb2⟩; have HB2 := Lib.hid hb2; clear hb2) | fail)
      go_roundw
      case rel => exact ⟨j + 1, _, by omega, by go_num, by rw [HCT.out]; go_num, by rw [HFS.out]; exact HN.out.below HB2.out⟩
      case measure => simp [intOf]; omega
    · obtain rfl : j = n := by omega
      have HLB2 := Lib.hid (show LB W #[.int .i64 k, .int .i64 t, .bool nl, .int .i64 l.k, .int .i64 l.i, .string l.s, .int .i64 lev, .int .i64 col, .int .i64 13, .slice p j cap, .slice ps ns cs] (.slice pe ne ce) (.slice pv nv cv) _ (froms kids j) wr from HLB.out)
      have HKID := Lib.hid (HKD.out _ _ HLB2.out)
      have e8 := HLB2.out.e 8
      have e9 := HLB2.out.e 9
      have HB := Lib.hid HLB2.out.b
      simp only [List.getElem?_toArray, List.getElem?_cons_succ, List.getElem?_cons_zero] at e8 e9
      have hnm : j ≤ 1048576 := by omega
      clear HLB HLB2 HKD k3 f3 HRW
      have HK0 := Lib.hid (HKID.out 0 r0 (by rw [hrs]; rfl))
      have HK1 := Lib.hid (show ∀ W1, Below wr.heap.size wr W1 → Calls Tryz.prog 45 #[.int .i64 1, .pointer (some ⟨W.heap.size, 0, none⟩), .pointer (some ⟨W.heap.size + 1, 0, none⟩), .pointer (some ⟨W.heap.size + 1 + 1, 0, none⟩), .pointer (some ⟨W.heap.size + 1 + 1 + 1, 0, none⟩)] W1 fun e w' => e = .returned (resV r1) ∧ Below W1.heap.size W1 w' from HKID.out 1 r1 (by rw [hrs]; rfl))
      have hj2 : j = 2 := by rw [← hrl, hrs]; rfl
      have HV1 := Lib.hid (HV.out r1 (by rw [hrs]; simp))
      have hlb : W.heap.size < wr.heap.size := by omega
      unfold caps at HK0
      obtain ⟨rt, rv, hrv⟩ := resV_form r1
      have HRV := Lib.hid hrv
      rw [hrv] at HK1
      clear hrv
      clear HKID HL0 HK HKS HC
      subst hj2
      obtain ⟨⟨dk, di, ds⟩, er⟩ := r0
      by_cases he : er = 0
      · subst he
        rw [resV_ok] at HK0
        have hvk := HV.out _ (show (⟨dk, di, ds⟩, 0) ∈ rs by rw [hrs]; simp)
        by_cases hd : dk = 1
        · subst hd
          have hi01 := (hvk.truth rfl).1
          simp only at hi01
          rcases hi01 with rfl | rfl
          · have HE := Lib.hid (show resV (strictF 13 [] rs) = .iface 27 (.agg #[.int .i64 1, .int .i64 0, .string ds]) by
              have hs : ds = ⟨#[]⟩ := (hvk.truth rfl).2
              rw [hrs, strictF_two, if_neg (fun h => h rfl), if_pos (by subst hs; exact short_and)]; rfl)
            go_wp2_with (first
              | (go_at_call 45; refine (HK0.out _ (Below.refl _ _)).mono ?_; rintro e w2 ⟨rfl, hb2⟩; have HB2 := Lib.hid hb2; clear hb2)
              | (go_at_call 46; refine (evtruth_ok 1 0 ds _).mono ?_; rintro e w3 ⟨rfl, hb3⟩; have HB3 := Lib.hid (HB2.out.trans (hb3.mono HB2.out.size)); have e83 := (HB3.out.cell (p := ⟨W.heap.size, 8, none⟩) hlb).trans e8; clear hb3)
              | fail)
            go_ret
            exact ⟨congrArg Ending.returned HE.out.symm, HB.out.trans (HB3.out.mono hWr)⟩
          · have HE := Lib.hid (show resV (strictF 13 [] rs) = resV (applyF 13 [] [(⟨1, 1, ds⟩, 0), r1]) by
              rw [hrs, strict_apply rfl (short_and1)])
            go_wp2_with (first
              | (go_at_call 45; refine (HK0.out _ (Below.refl _ _)).mono ?_; rintro e w2 ⟨rfl, hb2⟩; have HB2 := Lib.hid hb2; clear hb2)
              | (go_at_call 46; refine (evtruth_ok 1 1 ds _).mono ?_; rintro e w3 ⟨rfl, hb3⟩; have HB3 := Lib.hid (HB2.out.trans (hb3.mono HB2.out.size)); have e83 := (HB3.out.cell (p := ⟨W.heap.size, 8, none⟩) hlb).trans e8; clear hb3)
              | fail)
            have hs3 := HB3.out.size
            have hlb3 : W.heap.size < w3.heap.size := by omega
            clear HK0 HB2 e8
            go_region_held3 (fun w' => Below w3.heap.size w3 w' ∧ ∀ b o, b < w3.heap.size → w'.cell? ⟨b, o, none⟩ = w3.cell? ⟨b, o, none⟩) ((first | (with_reducible exact held_drew) | (with_reducible exact held_below ‹_› ‹_›) | (with_reducible exact held_alloc ‹_›) | (refine held_of ?_; with_reducible exact (‹KwB w3 _›).b)))
              ((first
                | (go_at_call 45; (with_reducible refine (HK1.out _ (HB3.out.trans ((‹Below w3.heap.size w3 _ ∧ _›.1).mono hs3))).mono ?_); rintro e w4 ⟨rfl, hb4⟩; have hKw := KwB.mk (held_below ‹_› hb4).1)
                | (go_at_call 47; refine (apply_new2 13 (⟨1, 1, ds⟩, 0) r1 _ _ rfl HRV.out.symm _ (HT.out.below (HB.out.trans ((HB3.out.trans (hKw.b.mono hs3)).mono hWr))) hvk.i HV1.out.i).mono ?_; rintro e w5 ⟨rfl, hb5⟩; have hKw5 := KwB.mk (hKw.b.trans (hb5.mono hKw.b.size)); have HB5 := Lib.hid (HB3.out.trans ((hKw.b.trans (hb5.mono hKw.b.size)).mono hs3)))))
            all_goals
              go_wp2_with fail
              go_ret
              exact ⟨congrArg Ending.returned HE.out.symm, HB.out.trans (HB5.out.mono hWr)⟩
        · have bd : (dk == 1) = false := by simpa using hd
          have HE := Lib.hid (show resV (strictF 13 [] rs) = resV (applyF 13 [] [(⟨dk, di, ds⟩, 0), r1]) by
            rw [hrs, strict_apply rfl (short_no 13 hd)])
          go_wp2_with (first
            | (go_at_call 45; refine (HK0.out _ (Below.refl _ _)).mono ?_; rintro e w2 ⟨rfl, hb2⟩; have HB2 := Lib.hid hb2; clear hb2)
            | (go_at_call 46; refine (evtruth_ok dk di ds _).mono ?_; rintro e w3 ⟨rfl, hb3⟩; have HB3 := Lib.hid (HB2.out.trans (hb3.mono HB2.out.size)); have e83 := (HB3.out.cell (p := ⟨W.heap.size, 8, none⟩) hlb).trans e8; clear hb3)
            | fail)
          have hs3 := HB3.out.size
          have hlb3 : W.heap.size < w3.heap.size := by omega
          clear HK0 HB2 e8
          go_region_held3 (fun w' => Below w3.heap.size w3 w' ∧ ∀ b o, b < w3.heap.size → w'.cell? ⟨b, o, none⟩ = w3.cell? ⟨b, o, none⟩) ((first | (with_reducible exact held_drew) | (with_reducible exact held_below ‹_› ‹_›) | (with_reducible exact held_alloc ‹_›) | (refine held_of ?_; with_reducible exact (‹KwB w3 _›).b)))
            ((first
              | (go_at_call 45; (with_reducible refine (HK1.out _ (HB3.out.trans ((‹Below w3.heap.size w3 _ ∧ _›.1).mono hs3))).mono ?_); rintro e w4 ⟨rfl, hb4⟩; have hKw := KwB.mk (held_below ‹_› hb4).1)
              | (go_at_call 47; refine (apply_new2 13 (⟨dk, di, ds⟩, 0) r1 _ _ rfl HRV.out.symm _ (HT.out.below (HB.out.trans ((HB3.out.trans (hKw.b.mono hs3)).mono hWr))) hvk.i HV1.out.i).mono ?_; rintro e w5 ⟨rfl, hb5⟩; have hKw5 := KwB.mk (hKw.b.trans (hb5.mono hKw.b.size)); have HB5 := Lib.hid (HB3.out.trans ((hKw.b.trans (hb5.mono hKw.b.size)).mono hs3)))))
          all_goals
            go_wp2_with fail
            go_ret
            exact ⟨congrArg Ending.returned HE.out.symm, HB.out.trans (HB5.out.mono hWr)⟩
      · have HE := Lib.hid (show resV (strictF 13 [] rs) = .iface 33 (.int .i64 er) by
          rw [hrs, strictF_two, if_pos he]; exact if_neg he)
        rw [resV_err (r := (⟨dk, di, ds⟩, er)) he] at HK0
        go_wp2_with (first
          | (go_at_call 45; refine (HK0.out _ (Below.refl _ _)).mono ?_; rintro e w2 ⟨rfl, hb2⟩; have HB2 := Lib.hid hb2; clear hb2)
          | (go_at_call 46; refine (evtruth_err er he _).mono ?_; rintro e w3 ⟨rfl, hb3⟩; have HB3 := Lib.hid (HB2.out.trans (hb3.mono HB2.out.size)); have e83 := (HB3.out.cell (p := ⟨W.heap.size, 8, none⟩) hlb).trans e8; clear hb3)
          | fail)
        go_ret
        exact ⟨congrArg Ending.returned HE.out.symm, HB.out.trans (HB3.out.mono hWr)⟩
end Go.Proofs.YtokbdleokihdaaaGreatDoor
namespace Go.Proofs.YtokbdleokihdaaaGreatDoor
open Go.RowKit

set_option maxRecDepth 100000 in
set_option maxHeartbeats 16000000 in
theorem call_or {w : World} (k t : Int) (nl : Bool) (l : Dt) (lev col : Int) (p : Option Addr) (cap : Nat) (ps : Option Addr) (ns cs : Nat) (kids : List Ex) (pe : Option Addr) (ne ce : Nat) (pv : Option Addr) (nv cv : Nat) (W : World) (hcap : kids.length ≤ cap) (hcap2 : cap ≤ 1048576)
    (hk : kids = [] ∨ ∃ b o, p = some ⟨b, o, none⟩ ∧ b < w.heap.size ∧ KCells w b o kids) (hks : ∀ x ∈ kids, ExAt w x) (hcnt : cntL kids ≤ 1000000000) (hW : Below w.heap.size w W) (hT : Tabs w)
    (rs : List (Dt × Int)) (hrl : rs.length = kids.length) (hV : ∀ r ∈ rs, Vok r.1) (r0 r1 : Dt × Int) (hrs : rs = [r0, r1])
    (hKid : ∀ w0 v, LB W #[.int .i64 k, .int .i64 t, .bool nl, .int .i64 l.k, .int .i64 l.i, .string l.s, .int .i64 lev, .int .i64 col, .int .i64 14, .slice p kids.length cap, .slice ps ns cs] (.slice pe ne ce) (.slice pv nv cv) v (froms kids kids.length) w0 → Kid w0 45 (caps W) rs) :
    Calls Tryz.prog 31 #[.agg #[.int .i64 k, .int .i64 t, .bool nl, .int .i64 l.k, .int .i64 l.i, .string l.s, .int .i64 lev, .int .i64 col, .int .i64 14, .slice p kids.length cap, .slice ps ns cs], .slice pe ne ce, .slice pv nv cv] W fun e w' => e = .returned (resV (strictF 14 [] rs)) ∧ Below W.heap.size W w' := by
  obtain ⟨i0, hi, hz0, hz1, hz2⟩ := info_parts Intinfo'
  obtain ⟨B1, B2, B3, B4, B5, B6, B7⟩ := boxes4 W #[.int .i64 k, .int .i64 t, .bool nl, .int .i64 l.k, .int .i64 l.i, .string l.s, .int .i64 lev, .int .i64 col, .int .i64 14, .slice p kids.length cap, .slice ps ns cs] #[.slice pe ne ce] #[.slice pv nv cv] #[.slice none 0 0] 30 23 25 79
  have HL0 := Lib.hid (show LB W #[.int .i64 k, .int .i64 t, .bool nl, .int .i64 l.k, .int .i64 l.i, .string l.s, .int .i64 lev, .int .i64 col, .int .i64 14, .slice p kids.length cap, .slice ps ns cs] (.slice pe ne ce) (.slice pv nv cv) (.slice none 0 0) (froms kids 0) _ from
    ⟨B1, by omega, B3, B4 0, B5 0, B6 0, B7 0, World.ownsRow_nil _ _ _ _⟩)
  have HK := Lib.hid hk
  have HKS := Lib.hid hks
  have HW := Lib.hid hW
  have HC := Lib.hid hcnt
  have HKD := Lib.hid hKid
  have HT := Lib.hid (hT.below hW)
  have HV := Lib.hid hV
  clear B1 B2 B3 B4 B5 B6 B7 hk hks hW hcnt hKid hT hV
  generalize hlen : kids.length = n at *
  have HL := Lib.hid hlen
  clear hlen
  go_enter Tryz.func31, Tryz.ntmps31
  go_wp2_with fail
  go_loopw [8, 27] (fun av iv wr => ∃ (j : Nat) (v : Value), j ≤ n ∧ iv = .int .i64 (j : Int) ∧ av = .int .i64 ((cntL (kids.take j) : Nat) : Int) ∧
      LB W #[.int .i64 k, .int .i64 t, .bool nl, .int .i64 l.k, .int .i64 l.i, .string l.s, .int .i64 lev, .int .i64 col, .int .i64 14, .slice p n cap, .slice ps ns cs] (.slice pe ne ce) (.slice pv nv cv) v (froms kids j) wr) (fun _ iv _ => n - (intOf iv).toNat)
  case atStart => exact ⟨0, _, Nat.zero_le _, rfl, by simp [cntL], HL0.out⟩
  case round =>
    obtain ⟨j, v, hj, rfl, rfl, hlb⟩ := hrel
    have HLB := Lib.hid hlb
    have hzr := hlb.n
    have hz3 : W.heap.size + 1 + 1 + 1 < wr.heap.size := by omega
    have k3 := hlb.cell
    have f3 := hlb.fz
    have hWr := hlb.b.size
    have hww := HW.out.size
    have HRW := Lib.hid hlb.row
    obtain ⟨fp, fn, fc, hfv⟩ := owns_slice hlb.row
    subst hfv
    clear hlb
    by_cases hlt : j < n
    · have hjl : j < kids.length := by rw [HL.out]; exact hlt
      have hne : kids ≠ [] := fun h => by rw [h] at hjl; simp at hjl
      obtain ⟨b, o, rfl, hbk, hc⟩ := HK.out.resolve_left hne
      obtain ⟨y, hy⟩ : ∃ y, kids[j] = y := ⟨_, rfl⟩
      have hyj : kids[j]? = some y := by rw [List.getElem?_eq_getElem hjl, hy]
      have hmem : y ∈ kids := List.mem_of_getElem? hyj
      have hex := HKS.out y hmem
      have hct := cntL_take kids j hjl
      rw [hy] at hct
      have hcl := cntL_take_le kids (j + 1)
      have hcc := HC.out
      have HCT := Lib.hid hct
      have hc1 : y.cnt ≤ 1000000000 := by omega
      have hs1 : cntL (kids.take j) + y.cnt ≤ 1000000000 := by omega
      have HY := Lib.hid (evmany_any hex hc1)
      have HFS := Lib.hid (froms_succ kids j)
      have hfl := froms_length kids j
      clear hct hcl hcc
      generalize cntL (kids.take j) = m at *
      generalize hcy : y.cnt = cy at *
      obtain ⟨k', t', nl', l', lev', col', op', kv', sv', kids'⟩ := y
      obtain ⟨p', cap', ps', ns', cs', rfl, rfl⟩ := hex.slices
      obtain ⟨⟨c0, c1, c2, c3⟩, ⟨c4, c5, c6, c7⟩, c8, c9, c10⟩ := hc.at (HW.out.trans (HLB.out.b.mono HW.out.size)) hbk hyj
      clear hc hex
      simp only [Ex.v] at HY
      go_wp2_with (at_builtin; refine wpList_append_own _ rfl _ _ 79 rfl (W.heap.size + 4) 3 i0 (.int .i64 0) 1 8 Tryz.underlying79 hi hz0 hz1 hz2 rfl (by decide) _ _ _ rfl ((HRW.out.alloc _).alloc _) ⟨wr.heap.size + 1, 0, none⟩ 1 1 [.int .i64 (m : Int)] rfl rfl (cell1n2 _ _ _ _) (by simp [Value.oneCell']) (by unfold maxLen; omega) (by omega) (by simp; omega) ?_)
      intro v' w3 hown' hg3 _
      obtain ⟨p3, n3, c3', rfl⟩ := owns_slice hown'
      obtain ⟨q3, g3, HN, hq, hz3'⟩ := HLB.out.app (a := m) (by rw [hfl]; exact hown') hg3
      have d0 := hq 0 _ rfl
      have d1 := hq 1 _ rfl
      have d2 := hq 2 _ rfl
      have d3 := hq 3 _ rfl
      have d4 := hq 4 _ rfl
      have d5 := hq 5 _ rfl
      have d6 := hq 6 _ rfl
      have d7 := hq 7 _ rfl
      have d8 := hq 8 _ rfl
      have d9 := hq 9 _ rfl
      have d10 := hq 10 _ rfl
      clear hown' hg3 hq c0 c1 c2 c3 c4 c5 c6 c7 c8 c9 c10 k3 f3
      have hB3 := HN.out.b
      have HBW := Lib.hid (HW.out.trans (hB3.mono hww))
      clear hB3
      go_wp2_with (first | (go_at_call 15; refine (HY.out _ HBW.out).mono ?_; rintro e w2 ⟨rfl, hb2⟩; have HB2 := Lib.hid hb2; clear hb2) | fail)
      go_roundw
      case rel => exact ⟨j + 1, _, by omega, by go_num, by rw [HCT.out]; go_num, by rw [HFS.out]; exact HN.out.below HB2.out⟩
      case measure => simp [intOf]; omega
    · obtain rfl : j = n := by omega
      have HLB2 := Lib.hid (show LB W #[.int .i64 k, .int .i64 t, .bool nl, .int .i64 l.k, .int .i64 l.i, .string l.s, .int .i64 lev, .int .i64 col, .int .i64 14, .slice p j cap, .slice ps ns cs] (.slice pe ne ce) (.slice pv nv cv) _ (froms kids j) wr from HLB.out)
      have HKID := Lib.hid (HKD.out _ _ HLB2.out)
      have e8 := HLB2.out.e 8
      have e9 := HLB2.out.e 9
      have HB := Lib.hid HLB2.out.b
      simp only [List.getElem?_toArray, List.getElem?_cons_succ, List.getElem?_cons_zero] at e8 e9
      have hnm : j ≤ 1048576 := by omega
      clear HLB HLB2 HKD k3 f3 HRW
      have HK0 := Lib.hid (HKID.out 0 r0 (by rw [hrs]; rfl))
      have HK1 := Lib.hid (show ∀ W1, Below wr.heap.size wr W1 → Calls Tryz.prog 45 #[.int .i64 1, .pointer (some ⟨W.heap.size, 0, none⟩), .pointer (some ⟨W.heap.size + 1, 0, none⟩), .pointer (some ⟨W.heap.size + 1 + 1, 0, none⟩), .pointer (some ⟨W.heap.size + 1 + 1 + 1, 0, none⟩)] W1 fun e w' => e = .returned (resV r1) ∧ Below W1.heap.size W1 w' from HKID.out 1 r1 (by rw [hrs]; rfl))
      have hj2 : j = 2 := by rw [← hrl, hrs]; rfl
      have HV1 := Lib.hid (HV.out r1 (by rw [hrs]; simp))
      have hlb : W.heap.size < wr.heap.size := by omega
      unfold caps at HK0
      obtain ⟨rt, rv, hrv⟩ := resV_form r1
      have HRV := Lib.hid hrv
      rw [hrv] at HK1
      clear hrv
      clear HKID HL0 HK HKS HC
      subst hj2
      obtain ⟨⟨dk, di, ds⟩, er⟩ := r0
      by_cases he : er = 0
      · subst he
        rw [resV_ok] at HK0
        have hvk := HV.out _ (show (⟨dk, di, ds⟩, 0) ∈ rs by rw [hrs]; simp)
        by_cases hd : dk = 1
        · subst hd
          have hi01 := (hvk.truth rfl).1
          simp only at hi01
          rcases hi01 with rfl | rfl
          · have HE := Lib.hid (show resV (strictF 14 [] rs) = resV (applyF 14 [] [(⟨1, 0, ds⟩, 0), r1]) by
              rw [hrs, strict_apply rfl (short_or0)])
            go_wp2_with (first
              | (go_at_call 45; refine (HK0.out _ (Below.refl _ _)).mono ?_; rintro e w2 ⟨rfl, hb2⟩; have HB2 := Lib.hid hb2; clear hb2)
              | (go_at_call 46; refine (evtruth_ok 1 0 ds _).mono ?_; rintro e w3 ⟨rfl, hb3⟩; have HB3 := Lib.hid (HB2.out.trans (hb3.mono HB2.out.size)); have e83 := (HB3.out.cell (p := ⟨W.heap.size, 8, none⟩) hlb).trans e8; clear hb3)
              | fail)
            have hs3 := HB3.out.size
            have hlb3 : W.heap.size < w3.heap.size := by omega
            clear HK0 HB2 e8
            go_region_held3 (fun w' => Below w3.heap.size w3 w' ∧ ∀ b o, b < w3.heap.size → w'.cell? ⟨b, o, none⟩ = w3.cell? ⟨b, o, none⟩) ((first | (with_reducible exact held_drew) | (with_reducible exact held_below ‹_› ‹_›) | (with_reducible exact held_alloc ‹_›) | (refine held_of ?_; with_reducible exact (‹KwB w3 _›).b)))
              ((first
                | (go_at_call 45; (with_reducible refine (HK1.out _ (HB3.out.trans ((‹Below w3.heap.size w3 _ ∧ _›.1).mono hs3))).mono ?_); rintro e w4 ⟨rfl, hb4⟩; have hKw := KwB.mk (held_below ‹_› hb4).1)
                | (go_at_call 47; refine (apply_new2 14 (⟨1, 0, ds⟩, 0) r1 _ _ rfl HRV.out.symm _ (HT.out.below (HB.out.trans ((HB3.out.trans (hKw.b.mono hs3)).mono hWr))) hvk.i HV1.out.i).mono ?_; rintro e w5 ⟨rfl, hb5⟩; have hKw5 := KwB.mk (hKw.b.trans (hb5.mono hKw.b.size)); have HB5 := Lib.hid (HB3.out.trans ((hKw.b.trans (hb5.mono hKw.b.size)).mono hs3)))))
            all_goals
              go_wp2_with fail
              go_ret
              exact ⟨congrArg Ending.returned HE.out.symm, HB.out.trans (HB5.out.mono hWr)⟩
          · have HE := Lib.hid (show resV (strictF 14 [] rs) = .iface 27 (.agg #[.int .i64 1, .int .i64 1, .string ds]) by
              have hs : ds = ⟨#[]⟩ := (hvk.truth rfl).2
              rw [hrs, strictF_two, if_neg (fun h => h rfl), if_pos (by subst hs; exact short_or)]; rfl)
            go_wp2_with (first
              | (go_at_call 45; refine (HK0.out _ (Below.refl _ _)).mono ?_; rintro e w2 ⟨rfl, hb2⟩; have HB2 := Lib.hid hb2; clear hb2)
              | (go_at_call 46; refine (evtruth_ok 1 1 ds _).mono ?_; rintro e w3 ⟨rfl, hb3⟩; have HB3 := Lib.hid (HB2.out.trans (hb3.mono HB2.out.size)); have e83 := (HB3.out.cell (p := ⟨W.heap.size, 8, none⟩) hlb).trans e8; clear hb3)
              | fail)
            go_ret
            exact ⟨congrArg Ending.returned HE.out.symm, HB.out.trans (HB3.out.mono hWr)⟩
        · have bd : (dk == 1) = false := by simpa using hd
          have HE := Lib.hid (show resV (strictF 14 [] rs) = resV (applyF 14 [] [(⟨dk, di, ds⟩, 0), r1]) by
            rw [hrs, strict_apply rfl (short_no 14 hd)])
          go_wp2_with (first
            | (go_at_call 45; refine (HK0.out _ (Below.refl _ _)).mono ?_; rintro e w2 ⟨rfl, hb2⟩; have HB2 := Lib.hid hb2; clear hb2)
            | (go_at_call 46; refine (evtruth_ok dk di ds _).mono ?_; rintro e w3 ⟨rfl, hb3⟩; have HB3 := Lib.hid (HB2.out.trans (hb3.mono HB2.out.size)); have e83 := (HB3.out.cell (p := ⟨W.heap.size, 8, none⟩) hlb).trans e8; clear hb3)
            | fail)
          have hs3 := HB3.out.size
          have hlb3 : W.heap.size < w3.heap.size := by omega
          clear HK0 HB2 e8
          go_region_held3 (fun w' => Below w3.heap.size w3 w' ∧ ∀ b o, b < w3.heap.size → w'.cell? ⟨b, o, none⟩ = w3.cell? ⟨b, o, none⟩) ((first | (with_reducible exact held_drew) | (with_reducible exact held_below ‹_› ‹_›) | (with_reducible exact held_alloc ‹_›) | (refine held_of ?_; with_reducible exact (‹KwB w3 _›).b)))
            ((first
              | (go_at_call 45; (with_reducible refine (HK1.out _ (HB3.out.trans ((‹Below w3.heap.size w3 _ ∧ _›.1).mono hs3))).mono ?_); rintro e w4 ⟨rfl, hb4⟩; have hKw := KwB.mk (held_below ‹_› hb4).1)
              | (go_at_call 47; refine (apply_new2 14 (⟨dk, di, ds⟩, 0) r1 _ _ rfl HRV.out.symm _ (HT.out.below (HB.out.trans ((HB3.out.trans (hKw.b.mono hs3)).mono hWr))) hvk.i HV1.out.i).mono ?_; rintro e w5 ⟨rfl, hb5⟩; have hKw5 := KwB.mk (hKw.b.trans (hb5.mono hKw.b.size)); have HB5 := Lib.hid (HB3.out.trans ((hKw.b.trans (hb5.mono hKw.b.size)).mono hs3)))))
          all_goals
            go_wp2_with fail
            go_ret
            exact ⟨congrArg Ending.returned HE.out.symm, HB.out.trans (HB5.out.mono hWr)⟩
      · have HE := Lib.hid (show resV (strictF 14 [] rs) = .iface 33 (.int .i64 er) by
          rw [hrs, strictF_two, if_pos he]; exact if_neg he)
        rw [resV_err (r := (⟨dk, di, ds⟩, er)) he] at HK0
        go_wp2_with (first
          | (go_at_call 45; refine (HK0.out _ (Below.refl _ _)).mono ?_; rintro e w2 ⟨rfl, hb2⟩; have HB2 := Lib.hid hb2; clear hb2)
          | (go_at_call 46; refine (evtruth_err er he _).mono ?_; rintro e w3 ⟨rfl, hb3⟩; have HB3 := Lib.hid (HB2.out.trans (hb3.mono HB2.out.size)); have e83 := (HB3.out.cell (p := ⟨W.heap.size, 8, none⟩) hlb).trans e8; clear hb3)
          | fail)
        go_ret
        exact ⟨congrArg Ending.returned HE.out.symm, HB.out.trans (HB3.out.mono hWr)⟩
end Go.Proofs.YtokbdleokihdaaaGreatDoor
namespace Go.Proofs.YtokbdleokihdaaaGreatDoor
open Go.RowKit

theorem coalF_drop {rs : List (Dt × Int)} {i : Nat} {c : Dt × Int} (hc : rs[i]? = some c) : coalF (rs.drop i) = if c.2 ≠ 0 then (Dt.zero, c.2) else if c.1.k ≠ 0 then c else coalF (rs.drop (i + 1)) := by
  have hi : i < rs.length := (List.getElem?_eq_some_iff.1 hc).1
  have h1 : rs[i] = c := (List.getElem?_eq_some_iff.1 hc).2
  rw [List.drop_eq_getElem_cons hi, h1]
  rw [coalF]

set_option maxRecDepth 100000 in
set_option maxHeartbeats 16000000 in
theorem call_coal {w : World} (k t : Int) (nl : Bool) (l : Dt) (lev col : Int) (p : Option Addr) (cap : Nat) (ps : Option Addr) (ns cs : Nat) (kids : List Ex) (pe : Option Addr) (ne ce : Nat) (pv : Option Addr) (nv cv : Nat) (W : World) (hcap : kids.length ≤ cap) (hcap2 : cap ≤ 1048576)
    (hk : kids = [] ∨ ∃ b o, p = some ⟨b, o, none⟩ ∧ b < w.heap.size ∧ KCells w b o kids) (hks : ∀ x ∈ kids, ExAt w x) (hcnt : cntL kids ≤ 1000000000) (hW : Below w.heap.size w W) (hT : Tabs w)
    (rs : List (Dt × Int)) (hrl : rs.length = kids.length) (hV : ∀ r ∈ rs, Vok r.1)
    (hKid : ∀ w0 v, LB W #[.int .i64 k, .int .i64 t, .bool nl, .int .i64 l.k, .int .i64 l.i, .string l.s, .int .i64 lev, .int .i64 col, .int .i64 17, .slice p kids.length cap, .slice ps ns cs] (.slice pe ne ce) (.slice pv nv cv) v (froms kids kids.length) w0 → Kid w0 45 (caps W) rs) :
    Calls Tryz.prog 31 #[.agg #[.int .i64 k, .int .i64 t, .bool nl, .int .i64 l.k, .int .i64 l.i, .string l.s, .int .i64 lev, .int .i64 col, .int .i64 17, .slice p kids.length cap, .slice ps ns cs], .slice pe ne ce, .slice pv nv cv] W fun e w' => e = .returned (resV (coalF rs)) ∧ Below W.heap.size W w' := by
  obtain ⟨i0, hi, hz0, hz1, hz2⟩ := info_parts Intinfo'
  obtain ⟨B1, B2, B3, B4, B5, B6, B7⟩ := boxes4 W #[.int .i64 k, .int .i64 t, .bool nl, .int .i64 l.k, .int .i64 l.i, .string l.s, .int .i64 lev, .int .i64 col, .int .i64 17, .slice p kids.length cap, .slice ps ns cs] #[.slice pe ne ce] #[.slice pv nv cv] #[.slice none 0 0] 30 23 25 79
  have HL0 := Lib.hid (show LB W #[.int .i64 k, .int .i64 t, .bool nl, .int .i64 l.k, .int .i64 l.i, .string l.s, .int .i64 lev, .int .i64 col, .int .i64 17, .slice p kids.length cap, .slice ps ns cs] (.slice pe ne ce) (.slice pv nv cv) (.slice none 0 0) (froms kids 0) _ from
    ⟨B1, by omega, B3, B4 0, B5 0, B6 0, B7 0, World.ownsRow_nil _ _ _ _⟩)
  have HK := Lib.hid hk
  have HKS := Lib.hid hks
  have HW := Lib.hid hW
  have HC := Lib.hid hcnt
  have HKD := Lib.hid hKid
  have HT := Lib.hid (hT.below hW)
  have HV := Lib.hid hV
  clear B1 B2 B3 B4 B5 B6 B7 hk hks hW hcnt hKid hT hV
  generalize hlen : kids.length = n at *
  have HL := Lib.hid hlen
  clear hlen
  go_enter Tryz.func31, Tryz.ntmps31
  go_wp2_with fail
  go_loopw [8, 27] (fun av iv wr => ∃ (j : Nat) (v : Value), j ≤ n ∧ iv = .int .i64 (j : Int) ∧ av = .int .i64 ((cntL (kids.take j) : Nat) : Int) ∧
      LB W #[.int .i64 k, .int .i64 t, .bool nl, .int .i64 l.k, .int .i64 l.i, .string l.s, .int .i64 lev, .int .i64 col, .int .i64 17, .slice p n cap, .slice ps ns cs] (.slice pe ne ce) (.slice pv nv cv) v (froms kids j) wr) (fun _ iv _ => n - (intOf iv).toNat)
  case atStart => exact ⟨0, _, Nat.zero_le _, rfl, by simp [cntL], HL0.out⟩
  case round =>
    obtain ⟨j, v, hj, rfl, rfl, hlb⟩ := hrel
    have HLB := Lib.hid hlb
    have hzr := hlb.n
    have hz3 : W.heap.size + 1 + 1 + 1 < wr.heap.size := by omega
    have k3 := hlb.cell
    have f3 := hlb.fz
    have hWr := hlb.b.size
    have hww := HW.out.size
    have HRW := Lib.hid hlb.row
    obtain ⟨fp, fn, fc, hfv⟩ := owns_slice hlb.row
    subst hfv
    clear hlb
    by_cases hlt : j < n
    · have hjl : j < kids.length := by rw [HL.out]; exact hlt
      have hne : kids ≠ [] := fun h => by rw [h] at hjl; simp at hjl
      obtain ⟨b, o, rfl, hbk, hc⟩ := HK.out.resolve_left hne
      obtain ⟨y, hy⟩ : ∃ y, kids[j] = y := ⟨_, rfl⟩
      have hyj : kids[j]? = some y := by rw [List.getElem?_eq_getElem hjl, hy]
      have hmem : y ∈ kids := List.mem_of_getElem? hyj
      have hex := HKS.out y hmem
      have hct := cntL_take kids j hjl
      rw [hy] at hct
      have hcl := cntL_take_le kids (j + 1)
      have hcc := HC.out
      have HCT := Lib.hid hct
      have hc1 : y.cnt ≤ 1000000000 := by omega
      have hs1 : cntL (kids.take j) + y.cnt ≤ 1000000000 := by omega
      have HY := Lib.hid (evmany_any hex hc1)
      have HFS := Lib.hid (froms_succ kids j)
      have hfl := froms_length kids j
      clear hct hcl hcc
      generalize cntL (kids.take j) = m at *
      generalize hcy : y.cnt = cy at *
      obtain ⟨k', t', nl', l', lev', col', op', kv', sv', kids'⟩ := y
      obtain ⟨p', cap', ps', ns', cs', rfl, rfl⟩ := hex.slices
      obtain ⟨⟨c0, c1, c2, c3⟩, ⟨c4, c5, c6, c7⟩, c8, c9, c10⟩ := hc.at (HW.out.trans (HLB.out.b.mono HW.out.size)) hbk hyj
      clear hc hex
      simp only [Ex.v] at HY
      go_wp2_with (at_builtin; refine wpList_append_own _ rfl _ _ 79 rfl (W.heap.size + 4) 3 i0 (.int .i64 0) 1 8 Tryz.underlying79 hi hz0 hz1 hz2 rfl (by decide) _ _ _ rfl ((HRW.out.alloc _).alloc _) ⟨wr.heap.size + 1, 0, none⟩ 1 1 [.int .i64 (m : Int)] rfl rfl (cell1n2 _ _ _ _) (by simp [Value.oneCell']) (by unfold maxLen; omega) (by omega) (by simp; omega) ?_)
      intro v' w3 hown' hg3 _
      obtain ⟨p3, n3, c3', rfl⟩ := owns_slice hown'
      obtain ⟨q3, g3, HN, hq, hz3'⟩ := HLB.out.app (a := m) (by rw [hfl]; exact hown') hg3
      have d0 := hq 0 _ rfl
      have d1 := hq 1 _ rfl
      have d2 := hq 2 _ rfl
      have d3 := hq 3 _ rfl
      have d4 := hq 4 _ rfl
      have d5 := hq 5 _ rfl
      have d6 := hq 6 _ rfl
      have d7 := hq 7 _ rfl
      have d8 := hq 8 _ rfl
      have d9 := hq 9 _ rfl
      have d10 := hq 10 _ rfl
      clear hown' hg3 hq c0 c1 c2 c3 c4 c5 c6 c7 c8 c9 c10 k3 f3
      have hB3 := HN.out.b
      have HBW := Lib.hid (HW.out.trans (hB3.mono hww))
      clear hB3
      go_wp2_with (first | (go_at_call 15; refine (HY.out _ HBW.out).mono ?_; rintro e w2 ⟨rfl, hb2⟩; have HB2 := Lib.hid hb2; clear hb2) | fail)
      go_roundw
      case rel => exact ⟨j + 1, _, by omega, by go_num, by rw [HCT.out]; go_num, by rw [HFS.out]; exact HN.out.below HB2.out⟩
      case measure => simp [intOf]; omega
    · obtain rfl : j = n := by omega
      have HLB2 := Lib.hid (show LB W #[.int .i64 k, .int .i64 t, .bool nl, .int .i64 l.k, .int .i64 l.i, .string l.s, .int .i64 lev, .int .i64 col, .int .i64 17, .slice p j cap, .slice ps ns cs] (.slice pe ne ce) (.slice pv nv cv) _ (froms kids j) wr from HLB.out)
      have HKID := Lib.hid (HKD.out _ _ HLB2.out)
      have e8 := HLB2.out.e 8
      have e9 := HLB2.out.e 9
      have HB := Lib.hid HLB2.out.b
      simp only [List.getElem?_toArray, List.getElem?_cons_succ, List.getElem?_cons_zero] at e8 e9
      have hnm : j ≤ 1048576 := by omega
      clear HLB HLB2 HKD k3 f3 HRW
      clear HL0 HK HKS HC
      unfold caps at HKID
      generalize wr = w1 at *
      go_wp2_with fail
      go_loopw [88] (fun iv wr => ∃ i : Nat, i ≤ j ∧ iv = .int .i64 (i : Int) ∧ coalF rs = coalF (rs.drop i) ∧ Below w1.heap.size w1 wr) (fun iv _ => j - (intOf iv).toNat)
      case atStart => exact ⟨0, Nat.zero_le _, rfl, rfl, Below.refl _ _⟩
      case round =>
        obtain ⟨i, hij, rfl, hF, hbl⟩ := hrel
        have HF := Lib.hid hF
        have HBr := Lib.hid hbl
        have hzr2 := hbl.size
        clear hF hbl
        by_cases hlt2 : i < j
        · obtain ⟨c, hc⟩ : ∃ c, rs[i]? = some c := ⟨rs[i]'(by rw [hrl]; omega), List.getElem?_eq_getElem _⟩
          have HD := Lib.hid (HF.out.trans (coalF_drop hc))
          have HK1 := Lib.hid (HKID.out i c hc)
          have hcv := HV.out c (List.mem_of_getElem? hc)
          clear hc HF
          obtain ⟨⟨ck, ci, cs⟩, er⟩ := c
          by_cases he : er = 0
          · subst he
            rw [resV_ok] at HK1
            by_cases hk0 : ck = 0
            · obtain ⟨rfl, rfl⟩ : ci = 0 ∧ cs = ⟨#[]⟩ := by have := hcv.null hk0; injection this with _ a b; exact ⟨a, b⟩
              subst hk0
              have HE := Lib.hid (show coalF rs = coalF (rs.drop (i + 1)) by rw [HD.out]; rfl)
              clear HD
              have hz : eqD 0 0 ⟨#[]⟩ 0 0 ⟨#[]⟩ = true := eqD_iff.2 ⟨rfl, rfl, rfl⟩
              go_wp2_with (first
                | (go_at_call 45; refine (HK1.out _ HBr.out).mono ?_; rintro e w2 ⟨rfl, hb2⟩; have HB2 := Lib.hid (HBr.out.trans (hb2.mono hzr2)); clear hb2)
                | fail)
              go_roundw
              case rel => exact ⟨i + 1, by omega, by go_num, HE.out, HB2.out⟩
              case measure => simp [intOf]; omega
            · have HE := Lib.hid (show coalF rs = (⟨ck, ci, cs⟩, 0) by rw [HD.out, if_neg (fun h => h rfl), if_pos hk0])
              have HE2 := Lib.hid (show resV (coalF rs) = .iface 27 (.agg #[.int .i64 ck, .int .i64 ci, .string cs]) by rw [HE.out]; rfl)
              clear HD
              have hz : eqD ck ci cs 0 0 ⟨#[]⟩ = false := Bool.eq_false_iff.2 fun h => hk0 (eqD_iff.1 h).1
              go_wp2_with (first
                | (go_at_call 45; refine (HK1.out _ HBr.out).mono ?_; rintro e w2 ⟨rfl, hb2⟩; have HB2 := Lib.hid (HBr.out.trans (hb2.mono hzr2)); clear hb2)
                | fail)
              go_ret
              exact ⟨congrArg Ending.returned HE2.out.symm, HB.out.trans (HB2.out.mono hWr)⟩
          · have HE := Lib.hid (show resV (coalF rs) = .iface 33 (.int .i64 er) by rw [HD.out, if_pos he]; exact if_neg he)
            rw [resV_err (r := (⟨ck, ci, cs⟩, er)) he] at HK1
            clear HD
            go_wp2_with (first
              | (go_at_call 45; refine (HK1.out _ HBr.out).mono ?_; rintro e w2 ⟨rfl, hb2⟩; have HB2 := Lib.hid (HBr.out.trans (hb2.mono hzr2)); clear hb2)
              | fail)
            go_ret
            exact ⟨congrArg Ending.returned HE.out.symm, HB.out.trans (HB2.out.mono hWr)⟩
        · obtain rfl : i = j := by omega
          have HE := Lib.hid (show resV (coalF rs) = .iface 27 (.agg #[.int .i64 0, .int .i64 0, .string ⟨#[]⟩]) by
            rw [HF.out, List.drop_eq_nil_of_le (by rw [hrl]; omega), coalF]; rfl)
          go_wp2_with fail
          go_ret
          exact ⟨congrArg Ending.returned HE.out.symm, HB.out.trans (HBr.out.mono hWr)⟩
end Go.Proofs.YtokbdleokihdaaaGreatDoor
namespace Go.Proofs.YtokbdleokihdaaaGreatDoor
open Go.RowKit

theorem Resinfo : (Tryz.prog.info? 45).map (fun i => (i.zero, i.size, i.bytes)) = some (some .nilIface, 1, 16) := by kernel_rfl
def resVals (rs : List (Dt × Int)) : List Value := rs.map resV
theorem resVals_snoc (rs : List (Dt × Int)) (r : Dt × Int) : resVals (rs ++ [r]) = resVals rs ++ [resV r] := by simp [resVals]
theorem res_of_row {w : World} {B : Nat} {e : TypeId} {v : Value} {rs : List (Dt × Int)} (h : w.ownsRow B e 1 v rs.length (resVals rs)) (hne : 0 < rs.length) : ∃ g cap, v = .slice (some ⟨g, 0, none⟩) rs.length cap ∧ g < w.heap.size ∧ ResCells w g 0 rs := by
  have h0 := h
  rcases h.2 with ⟨_, hn⟩ | ⟨g, cap, cur, rfl, _, hg, _⟩
  · omega
  · refine ⟨g, cap, rfl, (Array.getElem?_eq_some_iff.1 hg).1, fun i r hr => ?_⟩
    have hi : i < rs.length := (List.getElem?_eq_some_iff.1 hr).1
    have := h0.cellAt i (by omega)
    simp only [resVals, List.getElem?_map, hr, Option.map_some] at this
    simpa using this

set_option maxRecDepth 100000 in
set_option maxHeartbeats 16000000 in
theorem call_oth {w : World} (k t : Int) (nl : Bool) (l : Dt) (lev col op : Int) (p : Option Addr) (cap : Nat) (ps : Option Addr) (ns cs : Nat) (kids : List Ex) (pe : Option Addr) (ne ce : Nat) (pv : Option Addr) (nv cv : Nat) (W : World) (hcap : kids.length ≤ cap) (_hcap2 : cap ≤ 1048576)
    (hk : kids = [] ∨ ∃ b o, p = some ⟨b, o, none⟩ ∧ b < w.heap.size ∧ KCells w b o kids) (hks : ∀ x ∈ kids, ExAt w x) (hcnt : cntL kids ≤ 1000000000) (hW : Below w.heap.size w W) (hT : Tabs w)
    (rs : List (Dt × Int)) (hrl : rs.length = kids.length) (hV : ∀ r ∈ rs, Vok r.1) (ho1 : ¬ op = 13) (ho2 : ¬ op = 14) (ho3 : ¬ op = 16) (ho4 : ¬ op = 17) (hn5 : kids.length ≤ 5) (hn0 : 0 < kids.length)
    (hKid : ∀ w0 v, LB W #[.int .i64 k, .int .i64 t, .bool nl, .int .i64 l.k, .int .i64 l.i, .string l.s, .int .i64 lev, .int .i64 col, .int .i64 op, .slice p kids.length cap, .slice ps ns cs] (.slice pe ne ce) (.slice pv nv cv) v (froms kids kids.length) w0 → Kid w0 45 (caps W) rs) :
    Calls Tryz.prog 31 #[.agg #[.int .i64 k, .int .i64 t, .bool nl, .int .i64 l.k, .int .i64 l.i, .string l.s, .int .i64 lev, .int .i64 col, .int .i64 op, .slice p kids.length cap, .slice ps ns cs], .slice pe ne ce, .slice pv nv cv] W fun e w' => e = .returned (resV (applyF op [] rs)) ∧ Below W.heap.size W w' := by
  obtain ⟨i0, hi, hz0, hz1, hz2⟩ := info_parts Intinfo'
  obtain ⟨B1, B2, B3, B4, B5, B6, B7⟩ := boxes4 W #[.int .i64 k, .int .i64 t, .bool nl, .int .i64 l.k, .int .i64 l.i, .string l.s, .int .i64 lev, .int .i64 col, .int .i64 op, .slice p kids.length cap, .slice ps ns cs] #[.slice pe ne ce] #[.slice pv nv cv] #[.slice none 0 0] 30 23 25 79
  have HL0 := Lib.hid (show LB W #[.int .i64 k, .int .i64 t, .bool nl, .int .i64 l.k, .int .i64 l.i, .string l.s, .int .i64 lev, .int .i64 col, .int .i64 op, .slice p kids.length cap, .slice ps ns cs] (.slice pe ne ce) (.slice pv nv cv) (.slice none 0 0) (froms kids 0) _ from
    ⟨B1, by omega, B3, B4 0, B5 0, B6 0, B7 0, World.ownsRow_nil _ _ _ _⟩)
  have HK := Lib.hid hk
  have HKS := Lib.hid hks
  have HW := Lib.hid hW
  have HC := Lib.hid hcnt
  have HKD := Lib.hid hKid
  have HT := Lib.hid (hT.below hW)
  have HV := Lib.hid hV
  clear B1 B2 B3 B4 B5 B6 B7 hk hks hW hcnt hKid hT hV
  generalize hlen : kids.length = n at *
  have HL := Lib.hid hlen
  clear hlen
  go_enter Tryz.func31, Tryz.ntmps31
  go_wp2_with fail
  go_loopw [8, 27] (fun av iv wr => ∃ (j : Nat) (v : Value), j ≤ n ∧ iv = .int .i64 (j : Int) ∧ av = .int .i64 ((cntL (kids.take j) : Nat) : Int) ∧
      LB W #[.int .i64 k, .int .i64 t, .bool nl, .int .i64 l.k, .int .i64 l.i, .string l.s, .int .i64 lev, .int .i64 col, .int .i64 op, .slice p n cap, .slice ps ns cs] (.slice pe ne ce) (.slice pv nv cv) v (froms kids j) wr) (fun _ iv _ => n - (intOf iv).toNat)
  case atStart => exact ⟨0, _, Nat.zero_le _, rfl, by simp [cntL], HL0.out⟩
  case round =>
    obtain ⟨j, v, hj, rfl, rfl, hlb⟩ := hrel
    have HLB := Lib.hid hlb
    have hzr := hlb.n
    have hz3 : W.heap.size + 1 + 1 + 1 < wr.heap.size := by omega
    have k3 := hlb.cell
    have f3 := hlb.fz
    have hWr := hlb.b.size
    have hww := HW.out.size
    have HRW := Lib.hid hlb.row
    obtain ⟨fp, fn, fc, hfv⟩ := owns_slice hlb.row
    subst hfv
    clear hlb
    by_cases hlt : j < n
    · have hjl : j < kids.length := by rw [HL.out]; exact hlt
      have hne : kids ≠ [] := fun h => by rw [h] at hjl; simp at hjl
      obtain ⟨b, o, rfl, hbk, hc⟩ := HK.out.resolve_left hne
      obtain ⟨y, hy⟩ : ∃ y, kids[j] = y := ⟨_, rfl⟩
      have hyj : kids[j]? = some y := by rw [List.getElem?_eq_getElem hjl, hy]
      have hmem : y ∈ kids := List.mem_of_getElem? hyj
      have hex := HKS.out y hmem
      have hct := cntL_take kids j hjl
      rw [hy] at hct
      have hcl := cntL_take_le kids (j + 1)
      have hcc := HC.out
      have HCT := Lib.hid hct
      have hc1 : y.cnt ≤ 1000000000 := by omega
      have hs1 : cntL (kids.take j) + y.cnt ≤ 1000000000 := by omega
      have HY := Lib.hid (evmany_any hex hc1)
      have HFS := Lib.hid (froms_succ kids j)
      have hfl := froms_length kids j
      clear hct hcl hcc
      generalize cntL (kids.take j) = m at *
      generalize hcy : y.cnt = cy at *
      obtain ⟨k', t', nl', l', lev', col', op', kv', sv', kids'⟩ := y
      obtain ⟨p', cap', ps', ns', cs', rfl, rfl⟩ := hex.slices
      obtain ⟨⟨c0, c1, c2, c3⟩, ⟨c4, c5, c6, c7⟩, c8, c9, c10⟩ := hc.at (HW.out.trans (HLB.out.b.mono HW.out.size)) hbk hyj
      clear hc hex
      simp only [Ex.v] at HY
      go_wp2_with (at_builtin; refine wpList_append_own _ rfl _ _ 79 rfl (W.heap.size + 4) 3 i0 (.int .i64 0) 1 8 Tryz.underlying79 hi hz0 hz1 hz2 rfl (by decide) _ _ _ rfl ((HRW.out.alloc _).alloc _) ⟨wr.heap.size + 1, 0, none⟩ 1 1 [.int .i64 (m : Int)] rfl rfl (cell1n2 _ _ _ _) (by simp [Value.oneCell']) (by unfold maxLen; omega) (by omega) (by simp; omega) ?_)
      intro v' w3 hown' hg3 _
      obtain ⟨p3, n3, c3', rfl⟩ := owns_slice hown'
      obtain ⟨q3, g3, HN, hq, hz3'⟩ := HLB.out.app (a := m) (by rw [hfl]; exact hown') hg3
      have d0 := hq 0 _ rfl
      have d1 := hq 1 _ rfl
      have d2 := hq 2 _ rfl
      have d3 := hq 3 _ rfl
      have d4 := hq 4 _ rfl
      have d5 := hq 5 _ rfl
      have d6 := hq 6 _ rfl
      have d7 := hq 7 _ rfl
      have d8 := hq 8 _ rfl
      have d9 := hq 9 _ rfl
      have d10 := hq 10 _ rfl
      clear hown' hg3 hq c0 c1 c2 c3 c4 c5 c6 c7 c8 c9 c10 k3 f3
      have hB3 := HN.out.b
      have HBW := Lib.hid (HW.out.trans (hB3.mono hww))
      clear hB3
      go_wp2_with (first | (go_at_call 15; refine (HY.out _ HBW.out).mono ?_; rintro e w2 ⟨rfl, hb2⟩; have HB2 := Lib.hid hb2; clear hb2) | fail)
      go_roundw
      case rel => exact ⟨j + 1, _, by omega, by go_num, by rw [HCT.out]; go_num, by rw [HFS.out]; exact HN.out.below HB2.out⟩
      case measure => simp [intOf]; omega
    · obtain rfl : j = n := by omega
      have HLB2 := Lib.hid (show LB W #[.int .i64 k, .int .i64 t, .bool nl, .int .i64 l.k, .int .i64 l.i, .string l.s, .int .i64 lev, .int .i64 col, .int .i64 op, .slice p j cap, .slice ps ns cs] (.slice pe ne ce) (.slice pv nv cv) _ (froms kids j) wr from HLB.out)
      have HKID := Lib.hid (HKD.out _ _ HLB2.out)
      have e8 := HLB2.out.e 8
      have e9 := HLB2.out.e 9
      have HB := Lib.hid HLB2.out.b
      simp only [List.getElem?_toArray, List.getElem?_cons_succ, List.getElem?_cons_zero] at e8 e9
      have hnm : j ≤ 1048576 := by omega
      clear HLB HLB2 HKD k3 f3 HRW
      clear HL0 HK HKS HC
      have b13 : (op == 13) = false := by simpa using ho1
      have b14 : (op == 14) = false := by simpa using ho2
      have b16 : (op == 16) = false := by simpa using ho3
      have b17 : (op == 17) = false := by simpa using ho4
      obtain ⟨r0, ri, rz0, rz1, rz2⟩ := info_parts Resinfo
      clear ho1 ho2 ho3 ho4 i0 hi hz0 hz1 hz2
      unfold caps at HKID
      have hlb : W.heap.size < wr.heap.size := by omega
      generalize wr = w1 at *
      go_wp2_with fail
      go_loopw [19, 105] (fun lv iv wr => ∃ i : Nat, i ≤ j ∧ iv = .int .i64 (i : Int) ∧ wr.ownsRow w1.heap.size 45 1 lv i (resVals (rs.take i)) ∧ applyF op [] rs = applyF op ((rs.take i).map (·.1)) (rs.drop i) ∧ Below w1.heap.size w1 wr) (fun _ iv _ => j - (intOf iv).toNat)
      case atStart => exact ⟨0, Nat.zero_le _, rfl, World.ownsRow_nil _ _ _ _, rfl, Below.refl _ _⟩
      case round =>
        obtain ⟨i, hij, rfl, hrow, hF, hbl⟩ := hrel
        have HF := Lib.hid hF
        have HBr := Lib.hid hbl
        have HRW := Lib.hid hrow
        have hzr2 := hbl.size
        obtain ⟨lp, ln, lc, hlv⟩ := owns_slice hrow
        subst hlv
        clear hF hbl hrow
        by_cases hlt2 : i < j
        · obtain ⟨c, hc⟩ : ∃ c, rs[i]? = some c := ⟨rs[i]'(by rw [hrl]; omega), List.getElem?_eq_getElem _⟩
          have HK1 := Lib.hid (HKID.out i c hc)
          obtain ⟨⟨ck, ci, cs⟩, er⟩ := c
          by_cases he : er = 0
          · subst he
            rw [resV_ok] at HK1
            have HST := Lib.hid (applyF_step (op := op) (acc := (rs.take i).map (·.1)) hc rfl)
            have HTK := Lib.hid (show resVals (rs.take (i + 1)) = resVals (rs.take i) ++ [.iface 27 (.agg #[.int .i64 ck, .int .i64 ci, .string cs])] by rw [List.take_add_one, hc]; exact resVals_snoc _ _)
            have HMK := Lib.hid (show (rs.take (i + 1)).map (·.1) = (rs.take i).map (·.1) ++ [⟨ck, ci, cs⟩] by rw [List.take_add_one, hc, List.map_append]; rfl)
            clear hc
            go_wp2_with (first
              | (go_at_call 45; refine (HK1.out _ HBr.out).mono ?_; rintro e w2 ⟨rfl, hb2⟩; have HB2 := Lib.hid (HBr.out.trans (hb2.mono hzr2)); have HRW2 := Lib.hid (ownsRow_later HRW.out hb2); have hz2 := hb2.size; clear hb2)
              | (at_builtin; refine wpList_append_own _ rfl _ _ 86 rfl w1.heap.size 45 r0 .nilIface 1 16 Tryz.underlying86 ri rz0 rz1 rz2 rfl (by decide) _ _ _ rfl (HRW2.out.alloc _) ⟨w2.heap.size, 0, none⟩ 1 1 [.iface 27 (.agg #[.int .i64 ck, .int .i64 ci, .string cs])] rfl rfl (cell1n _ _ _) (by simp [Value.oneCell']) (by unfold maxLen; omega) (by omega) (by simp; omega) ?_; intro v' w3 hown' hg3 _; have HO3 := Lib.hid hown'; have HG3 := Lib.hid hg3; clear hown' hg3; go_frame)
              | fail)
            go_roundw
            case rel =>
              refine ⟨i + 1, by omega, by go_num, by rw [HTK.out]; exact HO3.out, by rw [HF.out, HST.out, HMK.out], ?_⟩
              exact (HB2.out.alloc HB2.out.size _).grown HG3.out (by simp; omega) (fun j hj => (HRW.out.lt j hj).1)
            case measure => simp [intOf]; omega
          · have HBD := Lib.hid (applyF_bad (op := op) (acc := (rs.take i).map (·.1)) hc he)
            have HE := Lib.hid (show resV (applyF op [] rs) = .iface 33 (.int .i64 er) by rw [HF.out, HBD.out]; exact if_neg he)
            rw [resV_err (r := (⟨ck, ci, cs⟩, er)) he] at HK1
            clear hc HBD
            go_wp2_with (first
              | (go_at_call 45; refine (HK1.out _ HBr.out).mono ?_; rintro e w2 ⟨rfl, hb2⟩; have HB2 := Lib.hid (HBr.out.trans (hb2.mono hzr2)); clear hb2)
              | fail)
            go_ret
            exact ⟨congrArg Ending.returned HE.out.symm, HB.out.trans (HB2.out.mono hWr)⟩
        · obtain rfl : i = j := by omega
          obtain ⟨g, gc, hgv, hg, hgc⟩ := res_of_row (rs := rs) (by have := HRW.out; rw [List.take_of_length_le (by rw [hrl]; omega)] at this; rw [hrl]; exact this) (by omega)
          obtain ⟨rfl, rfl, rfl⟩ : lp = some ⟨g, 0, none⟩ ∧ ln = rs.length ∧ lc = gc := by injection hgv with a b c; exact ⟨a, b, c⟩
          have HT4 := Lib.hid (HT.out.below (HB.out.trans (HBr.out.mono hWr)))
          have HAP := Lib.hid (evapply_any op rs g 0 lc wr (by omega) hg hgc HT4.out (fun r hr => (HV.out r hr).i))
          rw [hrl] at HAP
          have e8w := (HBr.out.cell (p := ⟨W.heap.size, 8, none⟩) hlb).trans e8
          clear HT4 hgc hgv HRW HF
          go_wp2_with (first | (go_at_call 47; refine HAP.out.mono ?_; rintro e w2 ⟨rfl, hb2⟩; have HB2 := Lib.hid (HBr.out.trans (hb2.mono hzr2)); clear hb2) | fail)
          go_ret
          exact ⟨rfl, HB.out.trans (HB2.out.mono hWr)⟩
end Go.Proofs.YtokbdleokihdaaaGreatDoor

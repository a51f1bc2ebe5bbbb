/- The walk of EvalParts: it answers true. -/
import Derived.Test.YtokbdleokihdaaaGreatDoorG27
import Derived.Test.YtokbdleokihdaaaGreatDoorEAlive
import Derived.Test.YtokbdleokihdaaaGreatDoorG28
import Derived.Test.YtokbdleokihdaaaGreatDoorG25
import Derived.Laws.OwnMore
namespace Go.Proofs.YtokbdleokihdaaaGreatDoor
open Go.RowKit

theorem eqD_me4 (k i : Int) (s : ByteArray) : eqD k i s k i s = true := eqD_iff.2 ⟨rfl, rfl, rfl⟩
theorem val_in64 {w : World} {x : Ex} (hx : ExAt w x) (env : List (List Dt)) (henv : ∀ r ∈ env, ∀ d ∈ r, In64d d) : In64d (valueF x env []).1 := by
  unfold valueF
  split
  · rename_i h
    split
    · exact (vok_val hx env henv h.1 [] (by simp)).i
    · show In64d Dt.zero
      exact ⟨by decide, by decide⟩
  · show In64d Dt.zero
    exact ⟨by decide, by decide⟩

/-- A value's cells. -/
structure D3 (u : World) (b o : Nat) (k i : Int) (s : ByteArray) : Prop where
  c0 : u.cell? ⟨b, o, none⟩ = some (.int .i64 k)
  c1 : u.cell? ⟨b, o + 1, none⟩ = some (.int .i64 i)
  c2 : u.cell? ⟨b, o + 2, none⟩ = some (.string s)
  lt : b < u.heap.size
theorem D3.below {u u' : World} {b o : Nat} {k i : Int} {s : ByteArray} (h : D3 u b o k i s) (hb : Below u.heap.size u u') : D3 u' b o k i s :=
  ⟨(hb.cell (p := ⟨b, o, none⟩) h.lt).trans h.c0, (hb.cell (p := ⟨b, o + 1, none⟩) h.lt).trans h.c1, (hb.cell (p := ⟨b, o + 2, none⟩) h.lt).trans h.c2, Nat.lt_of_lt_of_le h.lt hb.size⟩
theorem D3.alloc {u : World} {b o : Nat} {k i : Int} {s : ByteArray} (h : D3 u b o k i s) (x : Obj) : D3 (u.alloc x) b o k i s := h.below ((Below.refl _ _).alloc (Nat.le_refl _) _)

set_option maxRecDepth 100000 in
set_option maxHeartbeats 16000000 in
theorem parts_walk {w : World} (op : Int) (p : Option Addr) (cap : Nat) (kids : List Ex) (hx : ∀ o' : Int, ExAt w (callX o' (.slice p kids.length cap) kids)) (hk : kids = [] ∨ ∃ b o, p = some ⟨b, o, none⟩ ∧ b < w.heap.size ∧ KCells w b o kids) (hks : ∀ x ∈ kids, ExAt w x) (hcap : kids.length ≤ cap) (hcm : cap ≤ 1048576) (hcn : ∀ x ∈ kids, x.cnt ≤ 1000000000)
    (env : List (List Dt)) (ve : Value) (hE : EnvS w ve env) (henv : ∀ r ∈ env, ∀ d ∈ r, In64d d) (hT : Tabs w) (hP : Pow w) :
    Calls Tryz.prog 3 #[.int .i64 op, .slice p kids.length cap, ve] w fun e w' => e = .returned (.bool true) ∧ Below w.heap.size w w' := by
  have HA := Lib.hid (alive_any w hT hP)
  obtain ⟨i0, hi, hz0, hz1, hz2⟩ := info_parts Dtinfo
  have HE := Lib.hid hE
  obtain ⟨pe, ce, rfl, -, -, -⟩ := id hE
  have HT := Lib.hid hT
  have HX := Lib.hid (hx op)
  have HK := Lib.hid hk
  have HKS := Lib.hid hks
  have HCN := Lib.hid hcn
  have HEN := Lib.hid henv
  have HPL := Lib.hid (fun (ds : List Dt) (h : Parts env kids ds) (h16 : op ≠ 16) (h17 : op ≠ 17) => parts_law h h16 h17 (.slice p kids.length cap))
  have hL : kids.length ≤ 9223372036854775807 := by omega
  clear hT hP hx hk hks hcn henv hE
  by_cases h16 : op = 16
  · subst h16
    go_enter Tryz.func3, Tryz.ntmps3
    go_wp2_with (first | (go_at_call 4; refine (HA.out).mono ?_; rintro e w1 ⟨rfl, hb⟩) | fail)
    go_ret
    exact ⟨rfl, hb⟩
  by_cases h17 : op = 17
  · subst h17
    go_enter Tryz.func3, Tryz.ntmps3
    go_wp2_with (first | (go_at_call 4; refine (HA.out).mono ?_; rintro e w1 ⟨rfl, hb⟩) | fail)
    go_ret
    exact ⟨rfl, hb⟩
  have b16 : (op == 16) = false := by simpa using h16
  have b17 : (op == 17) = false := by simpa using h17
  by_cases h4 : 4 < kids.length
  · have b4 : decide ((4 : Int) < (kids.length : Int)) = true := by simp; omega
    go_enter Tryz.func3, Tryz.ntmps3
    go_wp2_with (first | (go_at_call 4; refine (HA.out).mono ?_; rintro e w1 ⟨rfl, hb⟩) | fail)
    go_ret
    exact ⟨rfl, hb⟩
  have b4 : decide ((4 : Int) < (kids.length : Int)) = false := by simp; omega
  generalize hlen : kids.length = n at *
  have HL := Lib.hid hlen
  clear hlen
  have hn4 : n ≤ 4 := by omega
  go_enter Tryz.func3, Tryz.ntmps3
  go_wp2_with (first | (go_at_call 4; refine (HA.out).mono ?_; rintro e w1 ⟨rfl, hb⟩; have HB1 := Lib.hid hb; clear hb) | fail)
  clear b4 HA
  go_loopw [7, 31] (fun lv iv wr => ∃ (i : Nat) (ds : List Dt), i ≤ n ∧ iv = .int .i64 (i : Int) ∧ wr.ownsRow w.heap.size 27 3 lv i (dtCells ds) ∧ Parts env (kids.take i) ds ∧ (∀ d ∈ ds, In64d d) ∧ Below w.heap.size w wr)
    (fun _ iv _ => n - (intOf iv).toNat)
  case atStart => exact ⟨0, [], Nat.zero_le _, rfl, World.ownsRow_nil _ _ _ _, trivial, by simp, HB1.out⟩
  case round =>
    obtain ⟨i, ds, hi', rfl, hrow, hP, hI, hnx⟩ := hrel
    have HROW := Lib.hid hrow
    have HNX := Lib.hid hnx
    have HP := Lib.hid hP
    have HI := Lib.hid hI
    have hzr := hnx.size
    clear hrow hnx hP hI HB1
    obtain ⟨lp, ln, lc, hlv⟩ := owns_slice HROW.out
    subst hlv
    by_cases hlt : i < n
    · have hjl : i < kids.length := by rw [HL.out]; exact hlt
      have hne : kids ≠ [] := fun h => by rw [h] at hjl; simp at hjl
      obtain ⟨b, o, rfl, hbk, hc⟩ := HK.out.resolve_left hne
      obtain ⟨y, hy⟩ : ∃ y, kids[i] = y := ⟨_, rfl⟩
      have hyj : kids[i]? = some y := by rw [List.getElem?_eq_getElem hjl, hy]
      have hmem : y ∈ kids := List.mem_of_getElem? hyj
      have hex := HKS.out y hmem
      have hcy := HCN.out y hmem
      have HR := Lib.hid (refxright_any hex env (.slice pe env.length ce) HE.out)
      have HS := Lib.hid (refsubs_any hex hcy)
      have HV := Lib.hid (fun W hW => evValue_any hex env (.slice pe env.length ce) HE.out HT.out HEN.out hcy [] (.slice none 0 0) W hW (nil_dats W))
      have HPO := Lib.hid (fun hr hc hv => part_of (env := env) hex hr hc hv)
      have HIN := Lib.hid (val_in64 hex env HEN.out)
      have HTK := Lib.hid (show kids.take (i + 1) = kids.take i ++ [y] by rw [List.take_add_one, hyj]; rfl)
      clear hmem hy HPL HX
      obtain ⟨k', t', nl', l', lev', col', op', kv', sv', kids'⟩ := y
      obtain ⟨p', cap', ps', ns', cs', rfl, rfl⟩ := hex.slices
      obtain ⟨⟨c0, c1, c2, c3⟩, ⟨c4, c5, c6, c7⟩, c8, c9, c10⟩ := hc.at HNX.out hbk hyj
      have hbw := Nat.lt_of_lt_of_le hbk hzr
      clear hc hex hyj
      simp only [Ex.v] at HR HS HV
      generalize (Ex.node k' t' nl' l' lev' col' op' (.slice p' kids'.length cap') (.slice ps' ns' cs') kids').right env = R at HR HPO
      generalize (Ex.node k' t' nl' l' lev' col' op' (.slice p' kids'.length cap') (.slice ps' ns' cs') kids').cnt = C at HS HPO hcy
      generalize valueF (Ex.node k' t' nl' l' lev' col' op' (.slice p' kids'.length cap') (.slice ps' ns' cs') kids') env [] = F at HV HPO HIN
      obtain ⟨⟨fk, fi, fs⟩, fe⟩ := F
      have BK0 := Lib.hid (Bk.new wr #[.int .i64 k', .int .i64 t', .bool nl', .int .i64 l'.k, .int .i64 l'.i, .string l'.s, .int .i64 lev', .int .i64 col', .int .i64 op', .slice p' kids'.length cap', .slice ps' ns' cs'] 30)
      have HN0 := Lib.hid (HNX.out.alloc HNX.out.size (.cells #[.int .i64 k', .int .i64 t', .bool nl', .int .i64 l'.k, .int .i64 l'.i, .string l'.s, .int .i64 lev', .int .i64 col', .int .i64 op', .slice p' kids'.length cap', .slice ps' ns' cs'] 30))
      obtain ⟨⟨xz0, xz1, xz2, xz3⟩, ⟨xz4, xz5, xz6, xz7⟩, xz8, xz9, xz10⟩ := BK0.out.cells
      cases R with
      | false =>
        go_wp2_with (first
          | (go_at_call 5; refine (HR.out _ HN0.out).mono ?_; rintro e w2 ⟨rfl, hb2⟩; have HB2 := Lib.hid (HN0.out.trans (hb2.mono HN0.out.size)); clear hb2)
          | fail)
        go_ret
        exact ⟨rfl, HB2.out⟩
      | true =>
        by_cases hC : C = 0
        · subst hC
          by_cases hF : fe = 0
          · subst hF
            have HPA := Lib.hid (HP.out.snoc (HPO.out rfl rfl rfl))
            have HDC := Lib.hid (dtCells_snoc ds ⟨fk, fi, fs⟩)
            go_wp2_with (first
              | (go_at_call 5; refine (HR.out _ HN0.out).mono ?_; rintro e w2 ⟨rfl, hb2⟩; have HB2 := Lib.hid (HN0.out.trans (hb2.mono HN0.out.size)); have BK2 := Lib.hid (BK0.out.below hb2); have RW2 := Lib.hid (ownsRow_later (HROW.out.alloc _) hb2); obtain ⟨⟨xa0, xa1, xa2, xa3⟩, ⟨xa4, xa5, xa6, xa7⟩, xa8, xa9, xa10⟩ := BK2.out.cells; clear hb2)
              | (go_at_call 6; refine (HS.out _ HB2.out).mono ?_; rintro e w3 ⟨v3, rfl, ⟨g3, cp3, xs3, rfl, -, -⟩, hb3⟩; have HB3 := Lib.hid (HB2.out.trans (hb3.mono HB2.out.size)); have BK3 := Lib.hid (BK2.out.below hb3); have RW3 := Lib.hid (ownsRow_later RW2.out hb3); obtain ⟨⟨xb0, xb1, xb2, xb3⟩, ⟨xb4, xb5, xb6, xb7⟩, xb8, xb9, xb10⟩ := BK3.out.cells; clear hb3)
              | (go_at_call 7; refine (HV.out _ HB3.out).mono ?_; rintro e w4 ⟨rfl, hb4⟩; have HB4 := Lib.hid (HB3.out.trans (hb4.mono HB3.out.size)); have RW4 := Lib.hid (ownsRow_later RW3.out hb4); have hz4 := HB4.out.size; clear hb4)
              | (at_builtin; refine wpList_append_own _ rfl _ _ 25 rfl w.heap.size 27 i0 (.agg #[.int .i64 0, .int .i64 0, .string ⟨#[]⟩]) 3 32 Tryz.underlying25 hi hz0 hz1 hz2 rfl (by decide) _ _ _ rfl ((RW4.out.alloc _).alloc _) ⟨w4.heap.size + 1, 0, none⟩ 1 1 [.int .i64 fk, .int .i64 fi, .string fs] rfl rfl (cell3n2 _ _ _ _ _ _) (by simp [Value.oneCell']) (by unfold maxLen; omega) (by omega) (by simp; omega) ?_; intro v' w5 hown' hg5 _; have HO5 := Lib.hid hown'; have HG5 := Lib.hid hg5; clear hown' hg5; go_frame)
              | fail)
            go_roundw
            case rel =>
              refine ⟨i + 1, ds ++ [⟨fk, fi, fs⟩], by omega, by go_num, by rw [HDC.out]; exact HO5.out, by rw [HTK.out]; exact HPA.out, fun d hd => ?_, ?_⟩
              · rcases List.mem_append.1 hd with hd | hd
                · exact HI.out d hd
                · simp at hd; subst hd; exact HIN.out
              · exact ((HB4.out.alloc hz4 _).alloc (by simp; omega) _).grown HG5.out (by simp; omega) (fun j hj => (RW4.out.lt j hj).1)
            case measure => simp [intOf]; omega
          · have bF : (fe != 0) = true := by simpa using hF
            go_wp2_with (first
              | (go_at_call 5; refine (HR.out _ HN0.out).mono ?_; rintro e w2 ⟨rfl, hb2⟩; have HB2 := Lib.hid (HN0.out.trans (hb2.mono HN0.out.size)); have BK2 := Lib.hid (BK0.out.below hb2); obtain ⟨⟨xa0, xa1, xa2, xa3⟩, ⟨xa4, xa5, xa6, xa7⟩, xa8, xa9, xa10⟩ := BK2.out.cells; clear hb2)
              | (go_at_call 6; refine (HS.out _ HB2.out).mono ?_; rintro e w3 ⟨v3, rfl, ⟨g3, cp3, xs3, rfl, -, -⟩, hb3⟩; have HB3 := Lib.hid (HB2.out.trans (hb3.mono HB2.out.size)); have BK3 := Lib.hid (BK2.out.below hb3); obtain ⟨⟨xb0, xb1, xb2, xb3⟩, ⟨xb4, xb5, xb6, xb7⟩, xb8, xb9, xb10⟩ := BK3.out.cells; clear hb3)
              | (go_at_call 7; refine (HV.out _ HB3.out).mono ?_; rintro e w4 ⟨rfl, hb4⟩; have HB4 := Lib.hid (HB3.out.trans (hb4.mono HB3.out.size)); clear hb4)
              | fail)
            go_ret
            exact ⟨rfl, HB4.out.alloc HB4.out.size _⟩
        · have bC : ((C : Int) != 0) = true := by simp; omega
          go_wp2_with (first
            | (go_at_call 5; refine (HR.out _ HN0.out).mono ?_; rintro e w2 ⟨rfl, hb2⟩; have HB2 := Lib.hid (HN0.out.trans (hb2.mono HN0.out.size)); have BK2 := Lib.hid (BK0.out.below hb2); obtain ⟨⟨xa0, xa1, xa2, xa3⟩, ⟨xa4, xa5, xa6, xa7⟩, xa8, xa9, xa10⟩ := BK2.out.cells; clear hb2)
            | (go_at_call 6; refine (HS.out _ HB2.out).mono ?_; rintro e w3 ⟨v3, rfl, ⟨g3, cp3, xs3, rfl, -, -⟩, hb3⟩; have HB3 := Lib.hid (HB2.out.trans (hb3.mono HB2.out.size)); clear hb3)
            | fail)
          go_ret
          exact ⟨rfl, HB3.out⟩
    · obtain rfl : i = n := by omega
      have hTK : kids.take i = kids := List.take_of_length_le (by rw [HL.out]; omega)
      rw [hTK] at HP
      have hdl : ds.length = i := by rw [HP.out.len, HL.out]
      have HDS := Lib.hid (show DatS wr (.slice lp ln lc) ds from datS_of_row (by have := HROW.out; rw [hdl]; exact this) HI.out)
      obtain ⟨lp', lc', hlv, hlc, hlm, hat, -⟩ := id HDS.out
      injection hlv with e1 e2 e3
      subst e1 e2 e3
      clear hTK hlt hi'
      subst hdl
      have HAP := Lib.hid ((both_any_args op _ _ wr HDS.out (by omega) (HT.out.below HNX.out)).2)
      have HPV := Lib.hid (HPL.out ds HP.out h16 h17)
      have HCX := Lib.hid (fun W => callx_any op p ds.length cap W)
      have HVX := Lib.hid (fun W hW => evValue_any HX.out env (.slice pe env.length ce) HE.out HT.out HEN.out (by rw [call_cnt, HP.out.cnt]; omega) [] (.slice none 0 0) W hW (nil_dats W))
      rw [HPV.out] at HVX
      simp only [callX, Ex.v, Dt.zero] at HVX
      have HAT := Lib.hid hat
      have HBF : Hid (∀ W, Calls Tryz.prog 10 #[.bool false] W fun e w' => e = .returned (.agg #[.int .i64 1, .int .i64 0, .string ⟨#[]⟩]) ∧ Below W.heap.size W w') := Lib.hid (fun W => refbool_any false W)
      have HBT : Hid (∀ W, Calls Tryz.prog 10 #[.bool true] W fun e w' => e = .returned (.agg #[.int .i64 1, .int .i64 1, .string ⟨#[]⟩]) ∧ Below W.heap.size W w') := Lib.hid (fun W => refbool_any true W)
      have HSH : Hid (op = 13 ∨ op = 14 → (appF op ds).2 = 5 → ∃ d l, ds = d :: l) := Lib.hid (fun ho h5 => by
        cases ds with
        | cons d l => exact ⟨d, l, rfl⟩
        | nil =>
          exfalso
          have h1 : appF op [] = (Dt.zero, 1) := by
            unfold appF
            rw [if_pos]
            right
            rcases ho with rfl | rfl <;> decide
          rw [h1] at h5
          exact absurd h5 (by decide))
      obtain ⟨A, hA⟩ : ∃ A, A = appF op ds := ⟨_, rfl⟩
      rw [← hA] at HAP HVX HSH
      clear hA HPV HPL HX hat
      obtain ⟨⟨ak, ai, asx⟩, ae⟩ := A
      have qa := eqD_me4 ak ai asx
      by_cases h5 : ae = 5
      · subst h5
        by_cases h13 : op = 13 ∨ op = 14
        · obtain ⟨⟨dk, di, dss⟩, l, rfl⟩ := HSH.out h13 rfl
          obtain ⟨db, dof, rfl, hdb, hdc⟩ := HAT.out.resolve_left (by simp)
          obtain ⟨d0, d1, d2⟩ := hdc 0 (by simp)
          rw [show dnth ((⟨dk, di, dss⟩ : Dt) :: l) 0 = ⟨dk, di, dss⟩ from rfl] at d0 d1 d2
          have qd := eqD_me4 dk di dss
          simp only [Nat.zero_mul, Nat.add_zero] at d0 d1 d2
          have hlp : 0 < ((⟨dk, di, dss⟩ : Dt) :: l).length := by simp
          generalize hll : ((⟨dk, di, dss⟩ : Dt) :: l).length = m at *
          simp only [shortL, shortF, dnth, List.getD_cons_zero] at HVX
          clear hdc HAT hll HDS HP HROW HSH
          have DV := Lib.hid (D3.mk d0 d1 d2 hdb)
          rcases h13 with rfl | rfl
          · cases hsh : eqD dk di dss 1 0 ⟨#[]⟩
            · rw [hsh] at HVX
              simp only [Bool.and_false, beq_self_eq_true, Bool.false_eq_true, and_false, if_false, show ((13 : Int) == 14) = false from rfl, Bool.false_and, Bool.or_self] at HVX
              go_wp2_with (first
                | (go_at_call 8; refine (HAP.out _ (Below.refl _ _)).mono ?_; rintro e w2 ⟨rfl, hb2⟩; have HB2 := Lib.hid (HNX.out.trans (hb2.mono hzr)); have DV2 := Lib.hid (DV.out.below hb2); clear hb2; have BA := Lib.hid (Bk.new w2 #[.int .i64 ak, .int .i64 ai, .string asx] 27); have HB3 := Lib.hid (HB2.out.alloc HB2.out.size (.cells #[.int .i64 ak, .int .i64 ai, .string asx] 27)))
                | (go_at_call 9; refine (HCX.out _).mono ?_; rintro e w4 ⟨rfl, hb4⟩; have HB4 := Lib.hid (HB3.out.trans (hb4.mono HB3.out.size)); have BA4 := Lib.hid (BA.out.below hb4); have DV4 := Lib.hid ((DV2.out.alloc _).below hb4); clear hb4)
                | (go_at_call 7; refine (HVX.out _ HB4.out).mono ?_; rintro e w5 ⟨rfl, hb5⟩; have HB5 := Lib.hid (HB4.out.trans (hb5.mono HB4.out.size)); have BA5 := Lib.hid (BA4.out.below hb5); obtain ⟨q0, q1, q2⟩ := BA5.out.cells3; have ql := BA5.out.lt; have hz5 := HB5.out.size; have HBZ := Lib.hid (HB5.out.alloc HB5.out.size (.cells #[.int .i64 ak, .int .i64 ai, .string asx] 27)); have DV5 := Lib.hid (DV4.out.below hb5); obtain ⟨i0', i1', i2', il⟩ := DV5.out; clear hb5)
                | fail)
              have BC := Lib.hid (Bk.new w5 #[.int .i64 ak, .int .i64 ai, .string asx] 27)
              have BA6 := Lib.hid (BA5.out.alloc (.cells #[.int .i64 ak, .int .i64 ai, .string asx] 27))
              have DV6 := Lib.hid (DV5.out.alloc (.cells #[.int .i64 ak, .int .i64 ai, .string asx] 27))
              clear q0 q1 q2 ql hz5 HB5 BA5 DV5 i0' i1' i2' il
              generalize w5.alloc (.cells #[.int .i64 ak, .int .i64 ai, .string asx] 27) = W2 at *
              generalize w5.heap.size = n5 at *
              generalize w2.heap.size = n2 at *
              have hgn := GW.ne (Inv := After W2) (Below.refl _ _)
              obtain ⟨i0', i1', i2', il⟩ := DV6.out
              have z0 := after_cell i0' il
              have z1 := after_cell i1' il
              have z2 := after_cell i2' il
              clear i0' i1' i2' il
              refine wp_region_grow (After W2) (by kernel_rfl) (by kernel_rfl) (Below.refl _ _).drew ?_
              repeat (go_big_quiet_step (first | (go_at_call 10; refine (HBF.out _).mono ?_; rintro e w6 ⟨rfl, hb6⟩; exact ⟨rfl, below_next _ hb6⟩) | fail))
              refine wpQuiet_nil ?_
              intro w7 hw'
              obtain ⟨⟨wx, h7⟩, hw''⟩ := hw'
              subst hw''
              have HB7 := Lib.hid (HBZ.out.trans (h7.mono HBZ.out.size))
              obtain ⟨q0, q1, q2⟩ := (BA6.out.below h7).cells3
              have ql := (BA6.out.below h7).lt
              obtain ⟨g0, g1, g2⟩ := (BC.out.below h7).cells3
              have gl := (BC.out.below h7).lt
              obtain ⟨i0', i1', i2', il⟩ := DV6.out.below h7
              clear h7 hgn z0 z1 z2
              go_wp2_with fail
              go_ret
              exact ⟨rfl, HB7.out⟩
            · rw [hsh] at HVX
              simp only [beq_self_eq_true, Bool.and_self, Bool.true_or, and_self, if_true] at HVX
              go_wp2_with (first
                | (go_at_call 8; refine (HAP.out _ (Below.refl _ _)).mono ?_; rintro e w2 ⟨rfl, hb2⟩; have HB2 := Lib.hid (HNX.out.trans (hb2.mono hzr)); have DV2 := Lib.hid (DV.out.below hb2); clear hb2; have BA := Lib.hid (Bk.new w2 #[.int .i64 ak, .int .i64 ai, .string asx] 27); have HB3 := Lib.hid (HB2.out.alloc HB2.out.size (.cells #[.int .i64 ak, .int .i64 ai, .string asx] 27)))
                | (go_at_call 9; refine (HCX.out _).mono ?_; rintro e w4 ⟨rfl, hb4⟩; have HB4 := Lib.hid (HB3.out.trans (hb4.mono HB3.out.size)); have BA4 := Lib.hid (BA.out.below hb4); have DV4 := Lib.hid ((DV2.out.alloc _).below hb4); clear hb4)
                | (go_at_call 7; refine (HVX.out _ HB4.out).mono ?_; rintro e w5 ⟨rfl, hb5⟩; have HB5 := Lib.hid (HB4.out.trans (hb5.mono HB4.out.size)); have BA5 := Lib.hid (BA4.out.below hb5); obtain ⟨q0, q1, q2⟩ := BA5.out.cells3; have ql := BA5.out.lt; have hz5 := HB5.out.size; have HBZ := Lib.hid (HB5.out.alloc HB5.out.size (.cells #[.int .i64 dk, .int .i64 di, .string dss] 27)); have DV5 := Lib.hid (DV4.out.below hb5); obtain ⟨i0', i1', i2', il⟩ := DV5.out; clear hb5)
                | fail)
              have BC := Lib.hid (Bk.new w5 #[.int .i64 dk, .int .i64 di, .string dss] 27)
              have BA6 := Lib.hid (BA5.out.alloc (.cells #[.int .i64 dk, .int .i64 di, .string dss] 27))
              have DV6 := Lib.hid (DV5.out.alloc (.cells #[.int .i64 dk, .int .i64 di, .string dss] 27))
              clear q0 q1 q2 ql hz5 HB5 BA5 DV5 i0' i1' i2' il
              generalize w5.alloc (.cells #[.int .i64 dk, .int .i64 di, .string dss] 27) = W2 at *
              generalize w5.heap.size = n5 at *
              generalize w2.heap.size = n2 at *
              have hgn := GW.ne (Inv := After W2) (Below.refl _ _)
              obtain ⟨i0', i1', i2', il⟩ := DV6.out
              have z0 := after_cell i0' il
              have z1 := after_cell i1' il
              have z2 := after_cell i2' il
              clear i0' i1' i2' il
              refine wp_region_grow (After W2) (by kernel_rfl) (by kernel_rfl) (Below.refl _ _).drew ?_
              repeat (go_big_quiet_step (first | (go_at_call 10; refine (HBF.out _).mono ?_; rintro e w6 ⟨rfl, hb6⟩; exact ⟨rfl, below_next _ hb6⟩) | fail))
              refine wpQuiet_nil ?_
              intro w7 hw'
              obtain ⟨⟨wx, h7⟩, hw''⟩ := hw'
              subst hw''
              have HB7 := Lib.hid (HBZ.out.trans (h7.mono HBZ.out.size))
              obtain ⟨q0, q1, q2⟩ := (BA6.out.below h7).cells3
              have ql := (BA6.out.below h7).lt
              obtain ⟨g0, g1, g2⟩ := (BC.out.below h7).cells3
              have gl := (BC.out.below h7).lt
              obtain ⟨i0', i1', i2', il⟩ := DV6.out.below h7
              clear h7 hgn z0 z1 z2
              go_wp2_with fail
              have y0 := after_cell i0' il
              have y1 := after_cell i1' il
              have y2 := after_cell i2' il
              have y3 := after_cell g0 gl
              have y4 := after_cell g1 gl
              have y5 := after_cell g2 gl
              have hgm := GW.ne (Inv := After w7) (Below.refl _ _)
              clear i0' i1' i2' il g0 g1 g2 gl
              refine wp_region_grow (After w7) (by kernel_rfl) (by kernel_rfl) (Below.refl _ _).drew ?_
              repeat (go_big_quiet_step (fail))
              refine wpQuiet_nil ?_
              intro w8 hw'
              obtain ⟨⟨wx, h8⟩, hw''⟩ := hw'
              subst hw''
              have HB8 := Lib.hid (HB7.out.trans (h8.mono HB7.out.size))
              go_wp2_with fail
              go_ret
              exact ⟨rfl, HB8.out⟩
          · cases hsh : eqD dk di dss 1 1 ⟨#[]⟩
            · rw [hsh] at HVX
              simp only [Bool.and_false, beq_self_eq_true, Bool.false_eq_true, and_false, if_false, show ((14 : Int) == 13) = false from rfl, Bool.false_and, Bool.or_self] at HVX
              go_wp2_with (first
                | (go_at_call 8; refine (HAP.out _ (Below.refl _ _)).mono ?_; rintro e w2 ⟨rfl, hb2⟩; have HB2 := Lib.hid (HNX.out.trans (hb2.mono hzr)); have DV2 := Lib.hid (DV.out.below hb2); clear hb2; have BA := Lib.hid (Bk.new w2 #[.int .i64 ak, .int .i64 ai, .string asx] 27); have HB3 := Lib.hid (HB2.out.alloc HB2.out.size (.cells #[.int .i64 ak, .int .i64 ai, .string asx] 27)))
                | (go_at_call 9; refine (HCX.out _).mono ?_; rintro e w4 ⟨rfl, hb4⟩; have HB4 := Lib.hid (HB3.out.trans (hb4.mono HB3.out.size)); have BA4 := Lib.hid (BA.out.below hb4); have DV4 := Lib.hid ((DV2.out.alloc _).below hb4); clear hb4)
                | (go_at_call 7; refine (HVX.out _ HB4.out).mono ?_; rintro e w5 ⟨rfl, hb5⟩; have HB5 := Lib.hid (HB4.out.trans (hb5.mono HB4.out.size)); have BA5 := Lib.hid (BA4.out.below hb5); obtain ⟨q0, q1, q2⟩ := BA5.out.cells3; have ql := BA5.out.lt; have hz5 := HB5.out.size; have HBZ := Lib.hid (HB5.out.alloc HB5.out.size (.cells #[.int .i64 ak, .int .i64 ai, .string asx] 27)); have DV5 := Lib.hid (DV4.out.below hb5); obtain ⟨i0', i1', i2', il⟩ := DV5.out; clear hb5)
                | fail)
              have BC := Lib.hid (Bk.new w5 #[.int .i64 ak, .int .i64 ai, .string asx] 27)
              have BA6 := Lib.hid (BA5.out.alloc (.cells #[.int .i64 ak, .int .i64 ai, .string asx] 27))
              have DV6 := Lib.hid (DV5.out.alloc (.cells #[.int .i64 ak, .int .i64 ai, .string asx] 27))
              clear q0 q1 q2 ql hz5 HB5 BA5 DV5 i0' i1' i2' il
              generalize w5.alloc (.cells #[.int .i64 ak, .int .i64 ai, .string asx] 27) = W2 at *
              generalize w5.heap.size = n5 at *
              generalize w2.heap.size = n2 at *
              have hgn := GW.ne (Inv := After W2) (Below.refl _ _)
              obtain ⟨i0', i1', i2', il⟩ := DV6.out
              have z0 := after_cell i0' il
              have z1 := after_cell i1' il
              have z2 := after_cell i2' il
              clear i0' i1' i2' il
              refine wp_region_grow (After W2) (by kernel_rfl) (by kernel_rfl) (Below.refl _ _).drew ?_
              repeat (go_big_quiet_step (first | (go_at_call 10; refine (HBT.out _).mono ?_; rintro e w6 ⟨rfl, hb6⟩; exact ⟨rfl, below_next _ hb6⟩) | fail))
              refine wpQuiet_nil ?_
              intro w7 hw'
              obtain ⟨⟨wx, h7⟩, hw''⟩ := hw'
              subst hw''
              have HB7 := Lib.hid (HBZ.out.trans (h7.mono HBZ.out.size))
              obtain ⟨q0, q1, q2⟩ := (BA6.out.below h7).cells3
              have ql := (BA6.out.below h7).lt
              obtain ⟨g0, g1, g2⟩ := (BC.out.below h7).cells3
              have gl := (BC.out.below h7).lt
              obtain ⟨i0', i1', i2', il⟩ := DV6.out.below h7
              clear h7 hgn z0 z1 z2
              go_wp2_with fail
              go_ret
              exact ⟨rfl, HB7.out⟩
            · rw [hsh] at HVX
              simp only [beq_self_eq_true, Bool.and_self, Bool.or_true, and_self, if_true] at HVX
              go_wp2_with (first
                | (go_at_call 8; refine (HAP.out _ (Below.refl _ _)).mono ?_; rintro e w2 ⟨rfl, hb2⟩; have HB2 := Lib.hid (HNX.out.trans (hb2.mono hzr)); have DV2 := Lib.hid (DV.out.below hb2); clear hb2; have BA := Lib.hid (Bk.new w2 #[.int .i64 ak, .int .i64 ai, .string asx] 27); have HB3 := Lib.hid (HB2.out.alloc HB2.out.size (.cells #[.int .i64 ak, .int .i64 ai, .string asx] 27)))
                | (go_at_call 9; refine (HCX.out _).mono ?_; rintro e w4 ⟨rfl, hb4⟩; have HB4 := Lib.hid (HB3.out.trans (hb4.mono HB3.out.size)); have BA4 := Lib.hid (BA.out.below hb4); have DV4 := Lib.hid ((DV2.out.alloc _).below hb4); clear hb4)
                | (go_at_call 7; refine (HVX.out _ HB4.out).mono ?_; rintro e w5 ⟨rfl, hb5⟩; have HB5 := Lib.hid (HB4.out.trans (hb5.mono HB4.out.size)); have BA5 := Lib.hid (BA4.out.below hb5); obtain ⟨q0, q1, q2⟩ := BA5.out.cells3; have ql := BA5.out.lt; have hz5 := HB5.out.size; have HBZ := Lib.hid (HB5.out.alloc HB5.out.size (.cells #[.int .i64 dk, .int .i64 di, .string dss] 27)); have DV5 := Lib.hid (DV4.out.below hb5); obtain ⟨i0', i1', i2', il⟩ := DV5.out; clear hb5)
                | fail)
              have BC := Lib.hid (Bk.new w5 #[.int .i64 dk, .int .i64 di, .string dss] 27)
              have BA6 := Lib.hid (BA5.out.alloc (.cells #[.int .i64 dk, .int .i64 di, .string dss] 27))
              have DV6 := Lib.hid (DV5.out.alloc (.cells #[.int .i64 dk, .int .i64 di, .string dss] 27))
              clear q0 q1 q2 ql hz5 HB5 BA5 DV5 i0' i1' i2' il
              generalize w5.alloc (.cells #[.int .i64 dk, .int .i64 di, .string dss] 27) = W2 at *
              generalize w5.heap.size = n5 at *
              generalize w2.heap.size = n2 at *
              have hgn := GW.ne (Inv := After W2) (Below.refl _ _)
              obtain ⟨i0', i1', i2', il⟩ := DV6.out
              have z0 := after_cell i0' il
              have z1 := after_cell i1' il
              have z2 := after_cell i2' il
              clear i0' i1' i2' il
              refine wp_region_grow (After W2) (by kernel_rfl) (by kernel_rfl) (Below.refl _ _).drew ?_
              repeat (go_big_quiet_step (first | (go_at_call 10; refine (HBT.out _).mono ?_; rintro e w6 ⟨rfl, hb6⟩; exact ⟨rfl, below_next _ hb6⟩) | fail))
              refine wpQuiet_nil ?_
              intro w7 hw'
              obtain ⟨⟨wx, h7⟩, hw''⟩ := hw'
              subst hw''
              have HB7 := Lib.hid (HBZ.out.trans (h7.mono HBZ.out.size))
              obtain ⟨q0, q1, q2⟩ := (BA6.out.below h7).cells3
              have ql := (BA6.out.below h7).lt
              obtain ⟨g0, g1, g2⟩ := (BC.out.below h7).cells3
              have gl := (BC.out.below h7).lt
              obtain ⟨i0', i1', i2', il⟩ := DV6.out.below h7
              clear h7 hgn z0 z1 z2
              go_wp2_with fail
              have y0 := after_cell i0' il
              have y1 := after_cell i1' il
              have y2 := after_cell i2' il
              have y3 := after_cell g0 gl
              have y4 := after_cell g1 gl
              have y5 := after_cell g2 gl
              have hgm := GW.ne (Inv := After w7) (Below.refl _ _)
              clear i0' i1' i2' il g0 g1 g2 gl
              refine wp_region_grow (After w7) (by kernel_rfl) (by kernel_rfl) (Below.refl _ _).drew ?_
              repeat (go_big_quiet_step (fail))
              refine wpQuiet_nil ?_
              intro w8 hw'
              obtain ⟨⟨wx, h8⟩, hw''⟩ := hw'
              subst hw''
              have HB8 := Lib.hid (HB7.out.trans (h8.mono HB7.out.size))
              go_wp2_with fail
              go_ret
              exact ⟨rfl, HB8.out⟩
        · have b13 : (op == 13) = false := by simp; omega
          have b14 : (op == 14) = false := by simp; omega
          rw [if_neg (fun h => by have := h.2; unfold shortL at this; split at this; exact absurd this (by decide); rw [shortF_other (by omega) (by omega)] at this; exact absurd this (by decide))] at HVX
          go_wp2_with (first
            | (go_at_call 8; refine (HAP.out _ (Below.refl _ _)).mono ?_; rintro e w2 ⟨rfl, hb2⟩; have HB2 := Lib.hid (HNX.out.trans (hb2.mono hzr)); clear hb2; have BA := Lib.hid (Bk.new w2 #[.int .i64 ak, .int .i64 ai, .string asx] 27); have HB3 := Lib.hid (HB2.out.alloc HB2.out.size (.cells #[.int .i64 ak, .int .i64 ai, .string asx] 27)))
            | (go_at_call 9; refine (HCX.out _).mono ?_; rintro e w4 ⟨rfl, hb4⟩; have HB4 := Lib.hid (HB3.out.trans (hb4.mono HB3.out.size)); have BA4 := Lib.hid (BA.out.below hb4); clear hb4)
            | (go_at_call 7; refine (HVX.out _ HB4.out).mono ?_; rintro e w5 ⟨rfl, hb5⟩; have HB5 := Lib.hid (HB4.out.trans (hb5.mono HB4.out.size)); have BA5 := Lib.hid (BA4.out.below hb5); obtain ⟨q0, q1, q2⟩ := BA5.out.cells3; have ql := BA5.out.lt; have hz5 := HB5.out.size; have HBZ := Lib.hid (HB5.out.alloc HB5.out.size (.cells #[.int .i64 ak, .int .i64 ai, .string asx] 27)); clear hb5)
            | fail)
          have BC := Lib.hid (Bk.new w5 #[.int .i64 ak, .int .i64 ai, .string asx] 27)
          have BA6 := Lib.hid (BA5.out.alloc (.cells #[.int .i64 ak, .int .i64 ai, .string asx] 27))
          clear q0 q1 q2 ql hz5 HB5 BA5
          generalize w5.alloc (.cells #[.int .i64 ak, .int .i64 ai, .string asx] 27) = W2 at *
          generalize w5.heap.size = n5 at *
          generalize w2.heap.size = n2 at *
          have hgn := GW.ne (Inv := After W2) (Below.refl _ _)
          refine wp_region_grow (After W2) (by kernel_rfl) (by kernel_rfl) (Below.refl _ _).drew ?_
          repeat (go_big_quiet_step (fail))
          refine wpQuiet_nil ?_
          intro w7 hw'
          obtain ⟨⟨wx, h7⟩, hw''⟩ := hw'
          subst hw''
          have HB7 := Lib.hid (HBZ.out.trans (h7.mono HBZ.out.size))
          obtain ⟨q0, q1, q2⟩ := (BA6.out.below h7).cells3
          have ql := (BA6.out.below h7).lt
          obtain ⟨g0, g1, g2⟩ := (BC.out.below h7).cells3
          have gl := (BC.out.below h7).lt
          clear h7 hgn
          go_wp2_with fail
          go_ret
          exact ⟨rfl, HB7.out⟩
      · rw [if_neg (fun h => h5 h.1)] at HVX
        have b5 : (ae == 5) = false := by simpa using h5
        go_wp2_with (first
          | (go_at_call 8; refine (HAP.out _ (Below.refl _ _)).mono ?_; rintro e w2 ⟨rfl, hb2⟩; have HB2 := Lib.hid (HNX.out.trans (hb2.mono hzr)); clear hb2; have BA := Lib.hid (Bk.new w2 #[.int .i64 ak, .int .i64 ai, .string asx] 27); have HB3 := Lib.hid (HB2.out.alloc HB2.out.size (.cells #[.int .i64 ak, .int .i64 ai, .string asx] 27)))
          | (go_at_call 9; refine (HCX.out _).mono ?_; rintro e w4 ⟨rfl, hb4⟩; have HB4 := Lib.hid (HB3.out.trans (hb4.mono HB3.out.size)); have BA4 := Lib.hid (BA.out.below hb4); clear hb4)
          | (go_at_call 7; refine (HVX.out _ HB4.out).mono ?_; rintro e w5 ⟨rfl, hb5⟩; have HB5 := Lib.hid (HB4.out.trans (hb5.mono HB4.out.size)); have BA5 := Lib.hid (BA4.out.below hb5); obtain ⟨q0, q1, q2⟩ := BA5.out.cells3; have ql := BA5.out.lt; have hz5 := HB5.out.size; have HBZ := Lib.hid (HB5.out.alloc HB5.out.size (.cells #[.int .i64 ak, .int .i64 ai, .string asx] 27)); clear hb5)
          | fail)
        have BC := Lib.hid (Bk.new w5 #[.int .i64 ak, .int .i64 ai, .string asx] 27)
        have BA6 := Lib.hid (BA5.out.alloc (.cells #[.int .i64 ak, .int .i64 ai, .string asx] 27))
        clear q0 q1 q2 ql hz5 HB5 BA5
        generalize w5.alloc (.cells #[.int .i64 ak, .int .i64 ai, .string asx] 27) = W2 at *
        generalize w5.heap.size = n5 at *
        generalize w2.heap.size = n2 at *
        have hgn := GW.ne (Inv := After W2) (Below.refl _ _)
        refine wp_region_grow (After W2) (by kernel_rfl) (by kernel_rfl) (Below.refl _ _).drew ?_
        repeat (go_big_quiet_step (fail))
        refine wpQuiet_nil ?_
        intro w7 hw'
        obtain ⟨⟨wx, h7⟩, hw''⟩ := hw'
        subst hw''
        have HB7 := Lib.hid (HBZ.out.trans (h7.mono HBZ.out.size))
        obtain ⟨q0, q1, q2⟩ := (BA6.out.below h7).cells3
        have ql := (BA6.out.below h7).lt
        obtain ⟨g0, g1, g2⟩ := (BC.out.below h7).cells3
        have gl := (BC.out.below h7).lt
        clear h7 hgn
        go_wp2_with fail
        go_ret
        exact ⟨rfl, HB7.out⟩
end Go.Proofs.YtokbdleokihdaaaGreatDoor

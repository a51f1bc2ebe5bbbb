/- The contract of the document's call: at AND. The contract of the document's call: at OR. The contract of the document's Of, by induction. -/
import Derived.Test.YtokbdleokihdaaaDoorG23
namespace Go.Proofs.YtokbdleokihdaaaDoor
open Go.RowKit

set_option maxRecDepth 100000 in
set_option maxHeartbeats 1200000 in
theorem refcall_and (k t : Int) (nl : Bool) (l : Dt) (lev col : Int) (p : Option Addr) (n cap : Nat) (ps : Option Addr) (ns cs : Nat) (pe : Option Addr) (ne ce : Nat) (pv : Option Addr) (nv cv : Nat) (W : World) (hnm : n ≤ 1048576)
    (rs : List (Dt × Int)) (hrl : rs.length = n) (hV : ∀ r ∈ rs, Vok r.1) (hn5 : n ≤ 5) (hT : Tabs W)
    (hKid : RKid W #[.int .i64 k, .int .i64 t, .bool nl, .int .i64 l.k, .int .i64 l.i, .string l.s, .int .i64 lev, .int .i64 col, .int .i64 13, .slice p n cap, .slice ps ns cs] (.slice pe ne ce) (.slice pv nv cv) rs) :
    Calls Tryd.prog 22 #[.agg #[.int .i64 k, .int .i64 t, .bool nl, .int .i64 l.k, .int .i64 l.i, .string l.s, .int .i64 lev, .int .i64 col, .int .i64 13, .slice p n cap, .slice ps ns cs], .slice pe ne ce, .slice pv nv cv] W fun e w' => e = .returned (outV (strictF 13 [] rs)) ∧ Below W.heap.size W w' := by
  have HVB := Lib.hid (VB.new W #[.int .i64 k, .int .i64 t, .bool nl, .int .i64 l.k, .int .i64 l.i, .string l.s, .int .i64 lev, .int .i64 col, .int .i64 13, .slice p n cap, .slice ps ns cs] 27 23)
  have HKD := Lib.hid hKid
  have HV := Lib.hid hV
  have HRL := Lib.hid hrl
  clear hKid hV hrl
  obtain ⟨i0, hi', hz0, hz1, hz2⟩ := info_parts Dtinfo
  have HN := Lib.hid (ownsRow_new ((W.alloc (.cells #[.int .i64 k, .int .i64 t, .bool nl, .int .i64 l.k, .int .i64 l.i, .string l.s, .int .i64 lev, .int .i64 col, .int .i64 13, .slice p n cap, .slice ps ns cs] 27)).alloc (.cells #[.int .i64 0, .int .i64 0, .string ⟨#[]⟩] 23)) (W.heap.size + 2) (by simp) 23 3 0 #[] rfl (Nat.zero_le _))
  simp only [World.size_alloc] at HN
  have HT := Lib.hid hT
  clear hT
  go_enter Tryd.func22, Tryd.ntmps22
  go_wp2_with fail
  go_loopw [12, 13] (fun lv iv wr => ∃ i : Nat, i ≤ n ∧ iv = .int .i64 (i : Int) ∧ strictF 13 [] rs = strictF 13 ((rs.take i).map (·.1)) (rs.drop i) ∧ VB W #[.int .i64 k, .int .i64 t, .bool nl, .int .i64 l.k, .int .i64 l.i, .string l.s, .int .i64 lev, .int .i64 col, .int .i64 13, .slice p n cap, .slice ps ns cs] wr ∧ wr.ownsRow (W.heap.size + 2) 23 3 lv i (dtCells ((rs.take i).map (·.1)))) (fun _ iv _ => n - (intOf iv).toNat)
  case atStart => exact ⟨0, Nat.zero_le _, rfl, rfl, HVB.out.below ((Below.refl _ _).alloc (Nat.le_refl _) _), HN.out⟩
  case round =>
    obtain ⟨i, hi, rfl, hF, hvb, hrow⟩ := hrel
    have HF := Lib.hid hF
    have VBr := Lib.hid hvb
    have HROW := Lib.hid hrow
    obtain ⟨lp, ln, lc, hlv⟩ := owns_slice hrow
    subst hlv
    have hzr := hvb.n
    have hzz := hvb.n1
    have hzy := hvb.n0
    obtain ⟨⟨a0, a1, a2, a3⟩, ⟨a4, a5, a6, a7⟩, a8, a9, a10⟩ := hvb.cells
    obtain ⟨r0, r1, r2⟩ := hvb.r
    have f0 := hvb.f 0
    have f1 := hvb.f 1
    have f2 := hvb.f 2
    clear hF hvb hrow HN HVB
    by_cases hlt : i < n
    · obtain ⟨c, hc⟩ : ∃ c, rs[i]? = some c := ⟨rs[i]'(by rw [HRL.out]; omega), List.getElem?_eq_getElem _⟩
      have HK1 := Lib.hid (HKD.out i c hc)
      have hcv := HV.out c (List.mem_of_getElem? hc)
      have HCI := Lib.hid hc
      clear hc
      obtain ⟨⟨ck, ci, cs'⟩, er⟩ := c
      by_cases he : er = 0
      · subst he
        rw [outV_ok'] at HK1
        have HTK := Lib.hid (show dtCells ((rs.take (i + 1)).map (·.1)) = dtCells ((rs.take i).map (·.1)) ++ [.int .i64 ck, .int .i64 ci, .string cs'] by rw [List.take_add_one, HCI.out, List.map_append]; exact dtCells_snoc _ _)
        cases hz : eqD ck ci cs' 1 0 ⟨#[]⟩
        · have HE := Lib.hid (HF.out.trans ((strict_step HCI.out rfl).trans (if_neg (fun h => by have h2 := h.2; simp [shortF, hz] at h2))))
          go_wp2_with (first | (go_at_call 28; refine (HK1.out _ VBr.out.b).mono ?_; rintro e wV2 ⟨rfl, hb2⟩; have V2 := Lib.hid (VBr.out.below hb2); have zV2 := V2.out.n; have zzV2 := V2.out.n1; have zyV2 := V2.out.n0; obtain ⟨⟨a0V2, a1V2, a2V2, a3V2⟩, ⟨a4V2, a5V2, a6V2, a7V2⟩, a8V2, a9V2, a10V2⟩ := V2.out.cells; obtain ⟨r0V2, r1V2, r2V2⟩ := V2.out.r; have f0V2 := V2.out.f 0; have f1V2 := V2.out.f 1; have f2V2 := V2.out.f 2; have HRW2 := Lib.hid (ownsRow_later HROW.out hb2); clear hb2) | fail)
          obtain ⟨W0, hW0⟩ : ∃ W0, W0 = wV2.alloc (.cells #[.int .i64 ck, .int .i64 ci, .string cs'] 23) := ⟨_, rfl⟩
          have VB0 := Lib.hid (show VB W #[.int .i64 k, .int .i64 t, .bool nl, .int .i64 l.k, .int .i64 l.i, .string l.s, .int .i64 lev, .int .i64 col, .int .i64 13, .slice p n cap, .slice ps ns cs] W0 by rw [hW0]; exact V2.out.below ((Below.refl _ _).alloc (Nat.le_refl _) _))
          have HR0 := Lib.hid (show W0.ownsRow (W.heap.size + 2) 23 3 (.slice lp ln lc) i (dtCells ((rs.take i).map (·.1))) by rw [hW0]; exact HRW2.out.alloc _)
          have hnb : wV2.heap.size < W0.heap.size := by rw [hW0]; simp
          have q0 : W0.cell? ⟨wV2.heap.size, 0, none⟩ = some (.int .i64 ck) := by rw [hW0, World.cell?_alloc_new]; rfl
          have q1 : W0.cell? ⟨wV2.heap.size, 1, none⟩ = some (.int .i64 ci) := by rw [hW0, World.cell?_alloc_new]; rfl
          have q2 : W0.cell? ⟨wV2.heap.size, 2, none⟩ = some (.string cs') := by rw [hW0, World.cell?_alloc_new]; rfl
          rw [← hW0]
          clear hW0 HRW2 V2 zV2 zzV2 zyV2 a0V2 a1V2 a2V2 a3V2 a4V2 a5V2 a6V2 a7V2 a8V2 a9V2 a10V2 r0V2 r1V2 r2V2 f0V2 f1V2 f2V2
          generalize wV2.heap.size = nb at *
          have zn0 := VB0.out.n0
          have g8 := after_cell (show W0.cell? ⟨W.heap.size, 8, none⟩ = some (.int .i64 13) from VB0.out.cells.2.2.1) zn0
          have g0 := after_cell q0 hnb
          have g1 := after_cell q1 hnb
          have g2 := after_cell q2 hnb
          have hgn := GW.ne (Inv := After W0) (Below.refl _ _)
          refine wp_region_grow (After W0) (by kernel_rfl) (by kernel_rfl) (Below.refl _ _).drew ?_
          repeat (go_big_quiet_step (first | (go_at_call 29; refine (refbool_f _).mono ?_; rintro e w1 ⟨rfl, hb⟩; exact ⟨rfl, below_next _ hb⟩) | fail))
          refine wpQuiet_nil ?_
          intro w4 hw'
          obtain ⟨⟨wx, h4⟩, hw''⟩ := hw'
          subst hw''
          have VB4 := Lib.hid (VB0.out.below h4)
          have HR4 := Lib.hid (ownsRow_later HR0.out h4)
          have p0 := (h4.cell (p := ⟨nb, 0, none⟩) hnb).trans q0
          have p1 := (h4.cell (p := ⟨nb, 1, none⟩) hnb).trans q1
          have p2 := (h4.cell (p := ⟨nb, 2, none⟩) hnb).trans q2
          have z4 := VB4.out.n
          have zz4 := VB4.out.n1
          obtain ⟨r04, r14, r24⟩ := VB4.out.r
          have f04 := VB4.out.f 0
          have f14 := VB4.out.f 1
          have f24 := VB4.out.f 2
          clear h4 hgn g8 g0 g1 g2 q0 q1 q2 hnb VB0 HR0 zn0
          go_wp2_with (at_builtin; go_loud (refine wpList_append_own _ rfl _ _ 29 rfl (W.heap.size + 2) 23 i0 (.agg #[.int .i64 0, .int .i64 0, .string ⟨#[]⟩]) 3 32 Tryd.underlying29 hi' hz0 hz1 hz2 rfl (by decide) _ _ _ rfl (HR4.out.alloc _) ⟨w4.heap.size, 0, none⟩ 1 1 [.int .i64 ck, .int .i64 ci, .string cs'] rfl rfl (cell3n _ _ _ _ _) (by simp [Value.oneCell']) (by unfold maxLen; omega) (by omega) (by simp; omega) ?_); intro v' w5 hown' hg5 _; have HO5 := Lib.hid hown'; have HG5 := Lib.hid hg5; clear hown' hg5; go_frame)
          go_roundw
          case rel => exact ⟨i + 1, by omega, by go_num, HE.out, VB4.out.belowB (Nat.le_refl _) (((Below.refl _ _).alloc (by omega) _).grown HG5.out (by simp; omega) (fun j hj => (HR4.out.lt j hj).1)), by rw [HTK.out]; exact HO5.out⟩
          case measure => simp [intOf]; omega
        · by_cases h0 : i = 0
          · have HE := Lib.hid (show outV (strictF 13 [] rs) = .tuple #[.agg #[.int .i64 ck, .int .i64 ci, .string cs'], .int .i64 0] by
              rw [HF.out, strict_step HCI.out rfl, if_pos ⟨h0, by simp [shortF, hz]⟩]; rfl)
            have bi0 : ((i : Int) == 0) = true := by simp; omega
            clear h0
            go_wp2_with (first | (go_at_call 28; refine (HK1.out _ VBr.out.b).mono ?_; rintro e wV2 ⟨rfl, hb2⟩; have V2 := Lib.hid (VBr.out.below hb2); have zV2 := V2.out.n; have zzV2 := V2.out.n1; have zyV2 := V2.out.n0; obtain ⟨⟨a0V2, a1V2, a2V2, a3V2⟩, ⟨a4V2, a5V2, a6V2, a7V2⟩, a8V2, a9V2, a10V2⟩ := V2.out.cells; obtain ⟨r0V2, r1V2, r2V2⟩ := V2.out.r; have f0V2 := V2.out.f 0; have f1V2 := V2.out.f 1; have f2V2 := V2.out.f 2; have HRW2 := Lib.hid (ownsRow_later HROW.out hb2); clear hb2) | fail)
            obtain ⟨W0, hW0⟩ : ∃ W0, W0 = wV2.alloc (.cells #[.int .i64 ck, .int .i64 ci, .string cs'] 23) := ⟨_, rfl⟩
            have VB0 := Lib.hid (show VB W #[.int .i64 k, .int .i64 t, .bool nl, .int .i64 l.k, .int .i64 l.i, .string l.s, .int .i64 lev, .int .i64 col, .int .i64 13, .slice p n cap, .slice ps ns cs] W0 by rw [hW0]; exact V2.out.below ((Below.refl _ _).alloc (Nat.le_refl _) _))
            have HR0 := Lib.hid (show W0.ownsRow (W.heap.size + 2) 23 3 (.slice lp ln lc) i (dtCells ((rs.take i).map (·.1))) by rw [hW0]; exact HRW2.out.alloc _)
            have hnb : wV2.heap.size < W0.heap.size := by rw [hW0]; simp
            have q0 : W0.cell? ⟨wV2.heap.size, 0, none⟩ = some (.int .i64 ck) := by rw [hW0, World.cell?_alloc_new]; rfl
            have q1 : W0.cell? ⟨wV2.heap.size, 1, none⟩ = some (.int .i64 ci) := by rw [hW0, World.cell?_alloc_new]; rfl
            have q2 : W0.cell? ⟨wV2.heap.size, 2, none⟩ = some (.string cs') := by rw [hW0, World.cell?_alloc_new]; rfl
            rw [← hW0]
            clear hW0 HRW2 V2 zV2 zzV2 zyV2 a0V2 a1V2 a2V2 a3V2 a4V2 a5V2 a6V2 a7V2 a8V2 a9V2 a10V2 r0V2 r1V2 r2V2 f0V2 f1V2 f2V2
            generalize wV2.heap.size = nb at *
            have zn0 := VB0.out.n0
            have g8 := after_cell (show W0.cell? ⟨W.heap.size, 8, none⟩ = some (.int .i64 13) from VB0.out.cells.2.2.1) zn0
            have g0 := after_cell q0 hnb
            have g1 := after_cell q1 hnb
            have g2 := after_cell q2 hnb
            have hgn := GW.ne (Inv := After W0) (Below.refl _ _)
            refine wp_region_grow (After W0) (by kernel_rfl) (by kernel_rfl) (Below.refl _ _).drew ?_
            repeat (go_big_quiet_step (first | (go_at_call 29; refine (refbool_f _).mono ?_; rintro e w1 ⟨rfl, hb⟩; exact ⟨rfl, below_next _ hb⟩) | fail))
            refine wpQuiet_nil ?_
            intro w4 hw'
            obtain ⟨⟨wx, h4⟩, hw''⟩ := hw'
            subst hw''
            have VB4 := Lib.hid (VB0.out.below h4)
            have HR4 := Lib.hid (ownsRow_later HR0.out h4)
            have p0 := (h4.cell (p := ⟨nb, 0, none⟩) hnb).trans q0
            have p1 := (h4.cell (p := ⟨nb, 1, none⟩) hnb).trans q1
            have p2 := (h4.cell (p := ⟨nb, 2, none⟩) hnb).trans q2
            have z4 := VB4.out.n
            have zz4 := VB4.out.n1
            obtain ⟨r04, r14, r24⟩ := VB4.out.r
            have f04 := VB4.out.f 0
            have f14 := VB4.out.f 1
            have f24 := VB4.out.f 2
            clear h4 hgn g8 g0 g1 g2 q0 q1 q2 hnb VB0 HR0 zn0
            go_wp2_with fail
            refine bodyPost_ret (v := .tuple #[.agg #[.int .i64 ck, .int .i64 ci, .string cs'], .int .i64 0]) (by simp [results, Tryd.results22, go_sem, r04, r14, r24]) rfl ⟨congrArg Ending.returned HE.out.symm, ?_⟩
            exact (((VB4.out.b.setCell (p := ⟨W.heap.size + 1, 0, none⟩) (Nat.le_succ _) _).setCell (p := ⟨W.heap.size + 1, 1, none⟩) (Nat.le_succ _) _).setCell (p := ⟨W.heap.size + 1, 2, none⟩) (Nat.le_succ _) _)
          · have bi0 : ((i : Int) == 0) = false := by simp; omega
            have HE := Lib.hid (HF.out.trans ((strict_step HCI.out rfl).trans (if_neg (fun h => h0 h.1))))
            go_wp2_with (first | (go_at_call 28; refine (HK1.out _ VBr.out.b).mono ?_; rintro e wV2 ⟨rfl, hb2⟩; have V2 := Lib.hid (VBr.out.below hb2); have zV2 := V2.out.n; have zzV2 := V2.out.n1; have zyV2 := V2.out.n0; obtain ⟨⟨a0V2, a1V2, a2V2, a3V2⟩, ⟨a4V2, a5V2, a6V2, a7V2⟩, a8V2, a9V2, a10V2⟩ := V2.out.cells; obtain ⟨r0V2, r1V2, r2V2⟩ := V2.out.r; have f0V2 := V2.out.f 0; have f1V2 := V2.out.f 1; have f2V2 := V2.out.f 2; have HRW2 := Lib.hid (ownsRow_later HROW.out hb2); clear hb2) | fail)
            obtain ⟨W0, hW0⟩ : ∃ W0, W0 = wV2.alloc (.cells #[.int .i64 ck, .int .i64 ci, .string cs'] 23) := ⟨_, rfl⟩
            have VB0 := Lib.hid (show VB W #[.int .i64 k, .int .i64 t, .bool nl, .int .i64 l.k, .int .i64 l.i, .string l.s, .int .i64 lev, .int .i64 col, .int .i64 13, .slice p n cap, .slice ps ns cs] W0 by rw [hW0]; exact V2.out.below ((Below.refl _ _).alloc (Nat.le_refl _) _))
            have HR0 := Lib.hid (show W0.ownsRow (W.heap.size + 2) 23 3 (.slice lp ln lc) i (dtCells ((rs.take i).map (·.1))) by rw [hW0]; exact HRW2.out.alloc _)
            have hnb : wV2.heap.size < W0.heap.size := by rw [hW0]; simp
            have q0 : W0.cell? ⟨wV2.heap.size, 0, none⟩ = some (.int .i64 ck) := by rw [hW0, World.cell?_alloc_new]; rfl
            have q1 : W0.cell? ⟨wV2.heap.size, 1, none⟩ = some (.int .i64 ci) := by rw [hW0, World.cell?_alloc_new]; rfl
            have q2 : W0.cell? ⟨wV2.heap.size, 2, none⟩ = some (.string cs') := by rw [hW0, World.cell?_alloc_new]; rfl
            rw [← hW0]
            clear hW0 HRW2 V2 zV2 zzV2 zyV2 a0V2 a1V2 a2V2 a3V2 a4V2 a5V2 a6V2 a7V2 a8V2 a9V2 a10V2 r0V2 r1V2 r2V2 f0V2 f1V2 f2V2
            generalize wV2.heap.size = nb at *
            have zn0 := VB0.out.n0
            have g8 := after_cell (show W0.cell? ⟨W.heap.size, 8, none⟩ = some (.int .i64 13) from VB0.out.cells.2.2.1) zn0
            have g0 := after_cell q0 hnb
            have g1 := after_cell q1 hnb
            have g2 := after_cell q2 hnb
            have hgn := GW.ne (Inv := After W0) (Below.refl _ _)
            refine wp_region_grow (After W0) (by kernel_rfl) (by kernel_rfl) (Below.refl _ _).drew ?_
            repeat (go_big_quiet_step (first | (go_at_call 29; refine (refbool_f _).mono ?_; rintro e w1 ⟨rfl, hb⟩; exact ⟨rfl, below_next _ hb⟩) | fail))
            refine wpQuiet_nil ?_
            intro w4 hw'
            obtain ⟨⟨wx, h4⟩, hw''⟩ := hw'
            subst hw''
            have VB4 := Lib.hid (VB0.out.below h4)
            have HR4 := Lib.hid (ownsRow_later HR0.out h4)
            have p0 := (h4.cell (p := ⟨nb, 0, none⟩) hnb).trans q0
            have p1 := (h4.cell (p := ⟨nb, 1, none⟩) hnb).trans q1
            have p2 := (h4.cell (p := ⟨nb, 2, none⟩) hnb).trans q2
            have z4 := VB4.out.n
            have zz4 := VB4.out.n1
            obtain ⟨r04, r14, r24⟩ := VB4.out.r
            have f04 := VB4.out.f 0
            have f14 := VB4.out.f 1
            have f24 := VB4.out.f 2
            clear h4 hgn g8 g0 g1 g2 q0 q1 q2 hnb VB0 HR0 zn0
            go_wp2_with (at_builtin; go_loud (refine wpList_append_own _ rfl _ _ 29 rfl (W.heap.size + 2) 23 i0 (.agg #[.int .i64 0, .int .i64 0, .string ⟨#[]⟩]) 3 32 Tryd.underlying29 hi' hz0 hz1 hz2 rfl (by decide) _ _ _ rfl (HR4.out.alloc _) ⟨w4.heap.size, 0, none⟩ 1 1 [.int .i64 ck, .int .i64 ci, .string cs'] rfl rfl (cell3n _ _ _ _ _) (by simp [Value.oneCell']) (by unfold maxLen; omega) (by omega) (by simp; omega) ?_); intro v' w5 hown' hg5 _; have HO5 := Lib.hid hown'; have HG5 := Lib.hid hg5; clear hown' hg5; go_frame)
            go_roundw
            case rel => exact ⟨i + 1, by omega, by go_num, HE.out, VB4.out.belowB (Nat.le_refl _) (((Below.refl _ _).alloc (by omega) _).grown HG5.out (by simp; omega) (fun j hj => (HR4.out.lt j hj).1)), by rw [HTK.out]; exact HO5.out⟩
            case measure => simp [intOf]; omega
      · have HE := Lib.hid (show outV (strictF 13 [] rs) = .tuple #[.agg #[.int .i64 0, .int .i64 0, .string ⟨#[]⟩], .int .i64 er] by rw [HF.out, strict_bad HCI.out he]; exact outV_bad' (r := (Dt.zero, er)) he)
        rw [outV_bad' (r := (⟨ck, ci, cs'⟩, er)) he] at HK1
        go_wp2_with (first | (go_at_call 28; refine (HK1.out _ VBr.out.b).mono ?_; rintro e wV2 ⟨rfl, hb2⟩; have V2 := Lib.hid (VBr.out.below hb2); have zV2 := V2.out.n; have zzV2 := V2.out.n1; have zyV2 := V2.out.n0; obtain ⟨⟨a0V2, a1V2, a2V2, a3V2⟩, ⟨a4V2, a5V2, a6V2, a7V2⟩, a8V2, a9V2, a10V2⟩ := V2.out.cells; obtain ⟨r0V2, r1V2, r2V2⟩ := V2.out.r; have f0V2 := V2.out.f 0; have f1V2 := V2.out.f 1; have f2V2 := V2.out.f 2; have HRW2 := Lib.hid (ownsRow_later HROW.out hb2); clear hb2) | fail)
        refine bodyPost_ret (v := .tuple #[.agg #[.int .i64 0, .int .i64 0, .string ⟨#[]⟩], .int .i64 er]) (by simp [results, Tryd.results22, go_sem, r0V2, r1V2, r2V2, World.cell?_alloc_past, zzV2]) rfl ⟨congrArg Ending.returned HE.out.symm, ?_⟩
        exact (((V2.out.b.setCell (p := ⟨W.heap.size + 1, 0, none⟩) (Nat.le_succ _) _).setCell (p := ⟨W.heap.size + 1, 1, none⟩) (Nat.le_succ _) _).setCell (p := ⟨W.heap.size + 1, 2, none⟩) (Nat.le_succ _) _).alloc (Nat.le_trans V2.out.b.size (by simp)) _
    · obtain rfl : i = n := by omega
      have HDS := Lib.hid (show DatS wr (.slice lp ln lc) (rs.map (·.1)) from datS_of_row (by have := HROW.out; rw [List.take_of_length_le (by rw [HRL.out]; omega)] at this; rw [List.length_map, HRL.out]; exact this) (fun d hd => by
        obtain ⟨r, hr, rfl⟩ := List.mem_map.1 hd
        exact (HV.out r hr).i))
      have HFF := Lib.hid (show outV (strictF 13 [] rs) = .tuple #[(appF 13 (rs.map (·.1))).1.v, .int .i64 (appF 13 (rs.map (·.1))).2] by
        rw [HF.out, List.take_of_length_le (by rw [HRL.out]; omega), List.drop_eq_nil_of_le (by rw [HRL.out]; omega), strictF, outV_appF])
      have HAP := Lib.hid ((both_any_args 13 _ _ wr HDS.out (by rw [List.length_map, HRL.out]; exact hn5) (HT.out.below VBr.out.b)).2)
      clear HROW HDS HF
      generalize appF 13 (rs.map (·.1)) = R at *
      obtain ⟨⟨tk, ti, ts⟩, te⟩ := R
      go_wp2_with (first | (go_at_call 30; refine (HAP.out _ (Below.refl _ _)).mono ?_; rintro e w2 ⟨rfl, hb2⟩; have V2 := Lib.hid (VBr.out.below hb2); have zV2 := V2.out.n; have zzV2 := V2.out.n1; obtain ⟨r0V2, r1V2, r2V2⟩ := V2.out.r; have f0V2 := V2.out.f 0; have f1V2 := V2.out.f 1; have f2V2 := V2.out.f 2; clear hb2) | fail)
      refine bodyPost_ret (v := .tuple #[.agg #[.int .i64 tk, .int .i64 ti, .string ts], .int .i64 te]) (by simp [results, Tryd.results22, go_sem, r0V2, r1V2, r2V2]) rfl ⟨congrArg Ending.returned HFF.out.symm, ?_⟩
      exact (((V2.out.b.setCell (p := ⟨W.heap.size + 1, 0, none⟩) (Nat.le_succ _) _).setCell (p := ⟨W.heap.size + 1, 1, none⟩) (Nat.le_succ _) _).setCell (p := ⟨W.heap.size + 1, 2, none⟩) (Nat.le_succ _) _)
end Go.Proofs.YtokbdleokihdaaaDoor
namespace Go.Proofs.YtokbdleokihdaaaDoor
open Go.RowKit

set_option maxRecDepth 100000 in
set_option maxHeartbeats 1200000 in
theorem refcall_or (k t : Int) (nl : Bool) (l : Dt) (lev col : Int) (p : Option Addr) (n cap : Nat) (ps : Option Addr) (ns cs : Nat) (pe : Option Addr) (ne ce : Nat) (pv : Option Addr) (nv cv : Nat) (W : World) (hnm : n ≤ 1048576)
    (rs : List (Dt × Int)) (hrl : rs.length = n) (hV : ∀ r ∈ rs, Vok r.1) (hn5 : n ≤ 5) (hT : Tabs W)
    (hKid : RKid W #[.int .i64 k, .int .i64 t, .bool nl, .int .i64 l.k, .int .i64 l.i, .string l.s, .int .i64 lev, .int .i64 col, .int .i64 14, .slice p n cap, .slice ps ns cs] (.slice pe ne ce) (.slice pv nv cv) rs) :
    Calls Tryd.prog 22 #[.agg #[.int .i64 k, .int .i64 t, .bool nl, .int .i64 l.k, .int .i64 l.i, .string l.s, .int .i64 lev, .int .i64 col, .int .i64 14, .slice p n cap, .slice ps ns cs], .slice pe ne ce, .slice pv nv cv] W fun e w' => e = .returned (outV (strictF 14 [] rs)) ∧ Below W.heap.size W w' := by
  have HVB := Lib.hid (VB.new W #[.int .i64 k, .int .i64 t, .bool nl, .int .i64 l.k, .int .i64 l.i, .string l.s, .int .i64 lev, .int .i64 col, .int .i64 14, .slice p n cap, .slice ps ns cs] 27 23)
  have HKD := Lib.hid hKid
  have HV := Lib.hid hV
  have HRL := Lib.hid hrl
  clear hKid hV hrl
  obtain ⟨i0, hi', hz0, hz1, hz2⟩ := info_parts Dtinfo
  have HN := Lib.hid (ownsRow_new ((W.alloc (.cells #[.int .i64 k, .int .i64 t, .bool nl, .int .i64 l.k, .int .i64 l.i, .string l.s, .int .i64 lev, .int .i64 col, .int .i64 14, .slice p n cap, .slice ps ns cs] 27)).alloc (.cells #[.int .i64 0, .int .i64 0, .string ⟨#[]⟩] 23)) (W.heap.size + 2) (by simp) 23 3 0 #[] rfl (Nat.zero_le _))
  simp only [World.size_alloc] at HN
  have HT := Lib.hid hT
  clear hT
  go_enter Tryd.func22, Tryd.ntmps22
  go_wp2_with fail
  go_loopw [12, 13] (fun lv iv wr => ∃ i : Nat, i ≤ n ∧ iv = .int .i64 (i : Int) ∧ strictF 14 [] rs = strictF 14 ((rs.take i).map (·.1)) (rs.drop i) ∧ VB W #[.int .i64 k, .int .i64 t, .bool nl, .int .i64 l.k, .int .i64 l.i, .string l.s, .int .i64 lev, .int .i64 col, .int .i64 14, .slice p n cap, .slice ps ns cs] wr ∧ wr.ownsRow (W.heap.size + 2) 23 3 lv i (dtCells ((rs.take i).map (·.1)))) (fun _ iv _ => n - (intOf iv).toNat)
  case atStart => exact ⟨0, Nat.zero_le _, rfl, rfl, HVB.out.below ((Below.refl _ _).alloc (Nat.le_refl _) _), HN.out⟩
  case round =>
    obtain ⟨i, hi, rfl, hF, hvb, hrow⟩ := hrel
    have HF := Lib.hid hF
    have VBr := Lib.hid hvb
    have HROW := Lib.hid hrow
    obtain ⟨lp, ln, lc, hlv⟩ := owns_slice hrow
    subst hlv
    have hzr := hvb.n
    have hzz := hvb.n1
    have hzy := hvb.n0
    obtain ⟨⟨a0, a1, a2, a3⟩, ⟨a4, a5, a6, a7⟩, a8, a9, a10⟩ := hvb.cells
    obtain ⟨r0, r1, r2⟩ := hvb.r
    have f0 := hvb.f 0
    have f1 := hvb.f 1
    have f2 := hvb.f 2
    clear hF hvb hrow HN HVB
    by_cases hlt : i < n
    · obtain ⟨c, hc⟩ : ∃ c, rs[i]? = some c := ⟨rs[i]'(by rw [HRL.out]; omega), List.getElem?_eq_getElem _⟩
      have HK1 := Lib.hid (HKD.out i c hc)
      have hcv := HV.out c (List.mem_of_getElem? hc)
      have HCI := Lib.hid hc
      clear hc
      obtain ⟨⟨ck, ci, cs'⟩, er⟩ := c
      by_cases he : er = 0
      · subst he
        rw [outV_ok'] at HK1
        have HTK := Lib.hid (show dtCells ((rs.take (i + 1)).map (·.1)) = dtCells ((rs.take i).map (·.1)) ++ [.int .i64 ck, .int .i64 ci, .string cs'] by rw [List.take_add_one, HCI.out, List.map_append]; exact dtCells_snoc _ _)
        cases hz : eqD ck ci cs' 1 1 ⟨#[]⟩
        · have HE := Lib.hid (HF.out.trans ((strict_step HCI.out rfl).trans (if_neg (fun h => by have h2 := h.2; simp [shortF, hz] at h2))))
          go_wp2_with (first | (go_at_call 28; refine (HK1.out _ VBr.out.b).mono ?_; rintro e wV2 ⟨rfl, hb2⟩; have V2 := Lib.hid (VBr.out.below hb2); have zV2 := V2.out.n; have zzV2 := V2.out.n1; have zyV2 := V2.out.n0; obtain ⟨⟨a0V2, a1V2, a2V2, a3V2⟩, ⟨a4V2, a5V2, a6V2, a7V2⟩, a8V2, a9V2, a10V2⟩ := V2.out.cells; obtain ⟨r0V2, r1V2, r2V2⟩ := V2.out.r; have f0V2 := V2.out.f 0; have f1V2 := V2.out.f 1; have f2V2 := V2.out.f 2; have HRW2 := Lib.hid (ownsRow_later HROW.out hb2); clear hb2) | fail)
          obtain ⟨W0, hW0⟩ : ∃ W0, W0 = wV2.alloc (.cells #[.int .i64 ck, .int .i64 ci, .string cs'] 23) := ⟨_, rfl⟩
          have VB0 := Lib.hid (show VB W #[.int .i64 k, .int .i64 t, .bool nl, .int .i64 l.k, .int .i64 l.i, .string l.s, .int .i64 lev, .int .i64 col, .int .i64 14, .slice p n cap, .slice ps ns cs] W0 by rw [hW0]; exact V2.out.below ((Below.refl _ _).alloc (Nat.le_refl _) _))
          have HR0 := Lib.hid (show W0.ownsRow (W.heap.size + 2) 23 3 (.slice lp ln lc) i (dtCells ((rs.take i).map (·.1))) by rw [hW0]; exact HRW2.out.alloc _)
          have hnb : wV2.heap.size < W0.heap.size := by rw [hW0]; simp
          have q0 : W0.cell? ⟨wV2.heap.size, 0, none⟩ = some (.int .i64 ck) := by rw [hW0, World.cell?_alloc_new]; rfl
          have q1 : W0.cell? ⟨wV2.heap.size, 1, none⟩ = some (.int .i64 ci) := by rw [hW0, World.cell?_alloc_new]; rfl
          have q2 : W0.cell? ⟨wV2.heap.size, 2, none⟩ = some (.string cs') := by rw [hW0, World.cell?_alloc_new]; rfl
          rw [← hW0]
          clear hW0 HRW2 V2 zV2 zzV2 zyV2 a0V2 a1V2 a2V2 a3V2 a4V2 a5V2 a6V2 a7V2 a8V2 a9V2 a10V2 r0V2 r1V2 r2V2 f0V2 f1V2 f2V2
          generalize wV2.heap.size = nb at *
          have zn0 := VB0.out.n0
          have g8 := after_cell (show W0.cell? ⟨W.heap.size, 8, none⟩ = some (.int .i64 14) from VB0.out.cells.2.2.1) zn0
          have g0 := after_cell q0 hnb
          have g1 := after_cell q1 hnb
          have g2 := after_cell q2 hnb
          have hgn := GW.ne (Inv := After W0) (Below.refl _ _)
          refine wp_region_grow (After W0) (by kernel_rfl) (by kernel_rfl) (Below.refl _ _).drew ?_
          repeat (go_big_quiet_step (first | (go_at_call 29; refine (refbool_t _).mono ?_; rintro e w1 ⟨rfl, hb⟩; exact ⟨rfl, below_next _ hb⟩) | fail))
          refine wpQuiet_nil ?_
          intro w4 hw'
          obtain ⟨⟨wx, h4⟩, hw''⟩ := hw'
          subst hw''
          have VB4 := Lib.hid (VB0.out.below h4)
          have HR4 := Lib.hid (ownsRow_later HR0.out h4)
          have p0 := (h4.cell (p := ⟨nb, 0, none⟩) hnb).trans q0
          have p1 := (h4.cell (p := ⟨nb, 1, none⟩) hnb).trans q1
          have p2 := (h4.cell (p := ⟨nb, 2, none⟩) hnb).trans q2
          have z4 := VB4.out.n
          have zz4 := VB4.out.n1
          obtain ⟨r04, r14, r24⟩ := VB4.out.r
          have f04 := VB4.out.f 0
          have f14 := VB4.out.f 1
          have f24 := VB4.out.f 2
          clear h4 hgn g8 g0 g1 g2 q0 q1 q2 hnb VB0 HR0 zn0
          go_wp2_with (at_builtin; go_loud (refine wpList_append_own _ rfl _ _ 29 rfl (W.heap.size + 2) 23 i0 (.agg #[.int .i64 0, .int .i64 0, .string ⟨#[]⟩]) 3 32 Tryd.underlying29 hi' hz0 hz1 hz2 rfl (by decide) _ _ _ rfl (HR4.out.alloc _) ⟨w4.heap.size, 0, none⟩ 1 1 [.int .i64 ck, .int .i64 ci, .string cs'] rfl rfl (cell3n _ _ _ _ _) (by simp [Value.oneCell']) (by unfold maxLen; omega) (by omega) (by simp; omega) ?_); intro v' w5 hown' hg5 _; have HO5 := Lib.hid hown'; have HG5 := Lib.hid hg5; clear hown' hg5; go_frame)
          go_roundw
          case rel => exact ⟨i + 1, by omega, by go_num, HE.out, VB4.out.belowB (Nat.le_refl _) (((Below.refl _ _).alloc (by omega) _).grown HG5.out (by simp; omega) (fun j hj => (HR4.out.lt j hj).1)), by rw [HTK.out]; exact HO5.out⟩
          case measure => simp [intOf]; omega
        · by_cases h0 : i = 0
          · have HE := Lib.hid (show outV (strictF 14 [] rs) = .tuple #[.agg #[.int .i64 ck, .int .i64 ci, .string cs'], .int .i64 0] by
              rw [HF.out, strict_step HCI.out rfl, if_pos ⟨h0, by simp [shortF, hz]⟩]; rfl)
            have bi0 : ((i : Int) == 0) = true := by simp; omega
            clear h0
            go_wp2_with (first | (go_at_call 28; refine (HK1.out _ VBr.out.b).mono ?_; rintro e wV2 ⟨rfl, hb2⟩; have V2 := Lib.hid (VBr.out.below hb2); have zV2 := V2.out.n; have zzV2 := V2.out.n1; have zyV2 := V2.out.n0; obtain ⟨⟨a0V2, a1V2, a2V2, a3V2⟩, ⟨a4V2, a5V2, a6V2, a7V2⟩, a8V2, a9V2, a10V2⟩ := V2.out.cells; obtain ⟨r0V2, r1V2, r2V2⟩ := V2.out.r; have f0V2 := V2.out.f 0; have f1V2 := V2.out.f 1; have f2V2 := V2.out.f 2; have HRW2 := Lib.hid (ownsRow_later HROW.out hb2); clear hb2) | fail)
            obtain ⟨W0, hW0⟩ : ∃ W0, W0 = wV2.alloc (.cells #[.int .i64 ck, .int .i64 ci, .string cs'] 23) := ⟨_, rfl⟩
            have VB0 := Lib.hid (show VB W #[.int .i64 k, .int .i64 t, .bool nl, .int .i64 l.k, .int .i64 l.i, .string l.s, .int .i64 lev, .int .i64 col, .int .i64 14, .slice p n cap, .slice ps ns cs] W0 by rw [hW0]; exact V2.out.below ((Below.refl _ _).alloc (Nat.le_refl _) _))
            have HR0 := Lib.hid (show W0.ownsRow (W.heap.size + 2) 23 3 (.slice lp ln lc) i (dtCells ((rs.take i).map (·.1))) by rw [hW0]; exact HRW2.out.alloc _)
            have hnb : wV2.heap.size < W0.heap.size := by rw [hW0]; simp
            have q0 : W0.cell? ⟨wV2.heap.size, 0, none⟩ = some (.int .i64 ck) := by rw [hW0, World.cell?_alloc_new]; rfl
            have q1 : W0.cell? ⟨wV2.heap.size, 1, none⟩ = some (.int .i64 ci) := by rw [hW0, World.cell?_alloc_new]; rfl
            have q2 : W0.cell? ⟨wV2.heap.size, 2, none⟩ = some (.string cs') := by rw [hW0, World.cell?_alloc_new]; rfl
            rw [← hW0]
            clear hW0 HRW2 V2 zV2 zzV2 zyV2 a0V2 a1V2 a2V2 a3V2 a4V2 a5V2 a6V2 a7V2 a8V2 a9V2 a10V2 r0V2 r1V2 r2V2 f0V2 f1V2 f2V2
            generalize wV2.heap.size = nb at *
            have zn0 := VB0.out.n0
            have g8 := after_cell (show W0.cell? ⟨W.heap.size, 8, none⟩ = some (.int .i64 14) from VB0.out.cells.2.2.1) zn0
            have g0 := after_cell q0 hnb
            have g1 := after_cell q1 hnb
            have g2 := after_cell q2 hnb
            have hgn := GW.ne (Inv := After W0) (Below.refl _ _)
            refine wp_region_grow (After W0) (by kernel_rfl) (by kernel_rfl) (Below.refl _ _).drew ?_
            repeat (go_big_quiet_step (first | (go_at_call 29; refine (refbool_t _).mono ?_; rintro e w1 ⟨rfl, hb⟩; exact ⟨rfl, below_next _ hb⟩) | fail))
            refine wpQuiet_nil ?_
            intro w4 hw'
            obtain ⟨⟨wx, h4⟩, hw''⟩ := hw'
            subst hw''
            have VB4 := Lib.hid (VB0.out.below h4)
            have HR4 := Lib.hid (ownsRow_later HR0.out h4)
            have p0 := (h4.cell (p := ⟨nb, 0, none⟩) hnb).trans q0
            have p1 := (h4.cell (p := ⟨nb, 1, none⟩) hnb).trans q1
            have p2 := (h4.cell (p := ⟨nb, 2, none⟩) hnb).trans q2
            have z4 := VB4.out.n
            have zz4 := VB4.out.n1
            obtain ⟨r04, r14, r24⟩ := VB4.out.r
            have f04 := VB4.out.f 0
            have f14 := VB4.out.f 1
            have f24 := VB4.out.f 2
            clear h4 hgn g8 g0 g1 g2 q0 q1 q2 hnb VB0 HR0 zn0
            go_wp2_with fail
            refine bodyPost_ret (v := .tuple #[.agg #[.int .i64 ck, .int .i64 ci, .string cs'], .int .i64 0]) (by simp [results, Tryd.results22, go_sem, r04, r14, r24]) rfl ⟨congrArg Ending.returned HE.out.symm, ?_⟩
            exact (((VB4.out.b.setCell (p := ⟨W.heap.size + 1, 0, none⟩) (Nat.le_succ _) _).setCell (p := ⟨W.heap.size + 1, 1, none⟩) (Nat.le_succ _) _).setCell (p := ⟨W.heap.size + 1, 2, none⟩) (Nat.le_succ _) _)
          · have bi0 : ((i : Int) == 0) = false := by simp; omega
            have HE := Lib.hid (HF.out.trans ((strict_step HCI.out rfl).trans (if_neg (fun h => h0 h.1))))
            go_wp2_with (first | (go_at_call 28; refine (HK1.out _ VBr.out.b).mono ?_; rintro e wV2 ⟨rfl, hb2⟩; have V2 := Lib.hid (VBr.out.below hb2); have zV2 := V2.out.n; have zzV2 := V2.out.n1; have zyV2 := V2.out.n0; obtain ⟨⟨a0V2, a1V2, a2V2, a3V2⟩, ⟨a4V2, a5V2, a6V2, a7V2⟩, a8V2, a9V2, a10V2⟩ := V2.out.cells; obtain ⟨r0V2, r1V2, r2V2⟩ := V2.out.r; have f0V2 := V2.out.f 0; have f1V2 := V2.out.f 1; have f2V2 := V2.out.f 2; have HRW2 := Lib.hid (ownsRow_later HROW.out hb2); clear hb2) | fail)
            obtain ⟨W0, hW0⟩ : ∃ W0, W0 = wV2.alloc (.cells #[.int .i64 ck, .int .i64 ci, .string cs'] 23) := ⟨_, rfl⟩
            have VB0 := Lib.hid (show VB W #[.int .i64 k, .int .i64 t, .bool nl, .int .i64 l.k, .int .i64 l.i, .string l.s, .int .i64 lev, .int .i64 col, .int .i64 14, .slice p n cap, .slice ps ns cs] W0 by rw [hW0]; exact V2.out.below ((Below.refl _ _).alloc (Nat.le_refl _) _))
            have HR0 := Lib.hid (show W0.ownsRow (W.heap.size + 2) 23 3 (.slice lp ln lc) i (dtCells ((rs.take i).map (·.1))) by rw [hW0]; exact HRW2.out.alloc _)
            have hnb : wV2.heap.size < W0.heap.size := by rw [hW0]; simp
            have q0 : W0.cell? ⟨wV2.heap.size, 0, none⟩ = some (.int .i64 ck) := by rw [hW0, World.cell?_alloc_new]; rfl
            have q1 : W0.cell? ⟨wV2.heap.size, 1, none⟩ = some (.int .i64 ci) := by rw [hW0, World.cell?_alloc_new]; rfl
            have q2 : W0.cell? ⟨wV2.heap.size, 2, none⟩ = some (.string cs') := by rw [hW0, World.cell?_alloc_new]; rfl
            rw [← hW0]
            clear hW0 HRW2 V2 zV2 zzV2 zyV2 a0V2 a1V2 a2V2 a3V2 a4V2 a5V2 a6V2 a7V2 a8V2 a9V2 a10V2 r0V2 r1V2 r2V2 f0V2 f1V2 f2V2
            generalize wV2.heap.size = nb at *
            have zn0 := VB0.out.n0
            have g8 := after_cell (show W0.cell? ⟨W.heap.size, 8, none⟩ = some (.int .i64 14) from VB0.out.cells.2.2.1) zn0
            have g0 := after_cell q0 hnb
            have g1 := after_cell q1 hnb
            have g2 := after_cell q2 hnb
            have hgn := GW.ne (Inv := After W0) (Below.refl _ _)
            refine wp_region_grow (After W0) (by kernel_rfl) (by kernel_rfl) (Below.refl _ _).drew ?_
            repeat (go_big_quiet_step (first | (go_at_call 29; refine (refbool_t _).mono ?_; rintro e w1 ⟨rfl, hb⟩; exact ⟨rfl, below_next _ hb⟩) | fail))
            refine wpQuiet_nil ?_
            intro w4 hw'
            obtain ⟨⟨wx, h4⟩, hw''⟩ := hw'
            subst hw''
            have VB4 := Lib.hid (VB0.out.below h4)
            have HR4 := Lib.hid (ownsRow_later HR0.out h4)
            have p0 := (h4.cell (p := ⟨nb, 0, none⟩) hnb).trans q0
            have p1 := (h4.cell (p := ⟨nb, 1, none⟩) hnb).trans q1
            have p2 := (h4.cell (p := ⟨nb, 2, none⟩) hnb).trans q2
            have z4 := VB4.out.n
            have zz4 := VB4.out.n1
            obtain ⟨r04, r14, r24⟩ := VB4.out.r
            have f04 := VB4.out.f 0
            have f14 := VB4.out.f 1
            have f24 := VB4.out.f 2
            clear h4 hgn g8 g0 g1 g2 q0 q1 q2 hnb VB0 HR0 zn0
            go_wp2_with (at_builtin; go_loud (refine wpList_append_own _ rfl _ _ 29 rfl (W.heap.size + 2) 23 i0 (.agg #[.int .i64 0, .int .i64 0, .string ⟨#[]⟩]) 3 32 Tryd.underlying29 hi' hz0 hz1 hz2 rfl (by decide) _ _ _ rfl (HR4.out.alloc _) ⟨w4.heap.size, 0, none⟩ 1 1 [.int .i64 ck, .int .i64 ci, .string cs'] rfl rfl (cell3n _ _ _ _ _) (by simp [Value.oneCell']) (by unfold maxLen; omega) (by omega) (by simp; omega) ?_); intro v' w5 hown' hg5 _; have HO5 := Lib.hid hown'; have HG5 := Lib.hid hg5; clear hown' hg5; go_frame)
            go_roundw
            case rel => exact ⟨i + 1, by omega, by go_num, HE.out, VB4.out.belowB (Nat.le_refl _) (((Below.refl _ _).alloc (by omega) _).grown HG5.out (by simp; omega) (fun j hj => (HR4.out.lt j hj).1)), by rw [HTK.out]; exact HO5.out⟩
            case measure => simp [intOf]; omega
      · have HE := Lib.hid (show outV (strictF 14 [] rs) = .tuple #[.agg #[.int .i64 0, .int .i64 0, .string ⟨#[]⟩], .int .i64 er] by rw [HF.out, strict_bad HCI.out he]; exact outV_bad' (r := (Dt.zero, er)) he)
        rw [outV_bad' (r := (⟨ck, ci, cs'⟩, er)) he] at HK1
        go_wp2_with (first | (go_at_call 28; refine (HK1.out _ VBr.out.b).mono ?_; rintro e wV2 ⟨rfl, hb2⟩; have V2 := Lib.hid (VBr.out.below hb2); have zV2 := V2.out.n; have zzV2 := V2.out.n1; have zyV2 := V2.out.n0; obtain ⟨⟨a0V2, a1V2, a2V2, a3V2⟩, ⟨a4V2, a5V2, a6V2, a7V2⟩, a8V2, a9V2, a10V2⟩ := V2.out.cells; obtain ⟨r0V2, r1V2, r2V2⟩ := V2.out.r; have f0V2 := V2.out.f 0; have f1V2 := V2.out.f 1; have f2V2 := V2.out.f 2; have HRW2 := Lib.hid (ownsRow_later HROW.out hb2); clear hb2) | fail)
        refine bodyPost_ret (v := .tuple #[.agg #[.int .i64 0, .int .i64 0, .string ⟨#[]⟩], .int .i64 er]) (by simp [results, Tryd.results22, go_sem, r0V2, r1V2, r2V2, World.cell?_alloc_past, zzV2]) rfl ⟨congrArg Ending.returned HE.out.symm, ?_⟩
        exact (((V2.out.b.setCell (p := ⟨W.heap.size + 1, 0, none⟩) (Nat.le_succ _) _).setCell (p := ⟨W.heap.size + 1, 1, none⟩) (Nat.le_succ _) _).setCell (p := ⟨W.heap.size + 1, 2, none⟩) (Nat.le_succ _) _).alloc (Nat.le_trans V2.out.b.size (by simp)) _
    · obtain rfl : i = n := by omega
      have HDS := Lib.hid (show DatS wr (.slice lp ln lc) (rs.map (·.1)) from datS_of_row (by have := HROW.out; rw [List.take_of_length_le (by rw [HRL.out]; omega)] at this; rw [List.length_map, HRL.out]; exact this) (fun d hd => by
        obtain ⟨r, hr, rfl⟩ := List.mem_map.1 hd
        exact (HV.out r hr).i))
      have HFF := Lib.hid (show outV (strictF 14 [] rs) = .tuple #[(appF 14 (rs.map (·.1))).1.v, .int .i64 (appF 14 (rs.map (·.1))).2] by
        rw [HF.out, List.take_of_length_le (by rw [HRL.out]; omega), List.drop_eq_nil_of_le (by rw [HRL.out]; omega), strictF, outV_appF])
      have HAP := Lib.hid ((both_any_args 14 _ _ wr HDS.out (by rw [List.length_map, HRL.out]; exact hn5) (HT.out.below VBr.out.b)).2)
      clear HROW HDS HF
      generalize appF 14 (rs.map (·.1)) = R at *
      obtain ⟨⟨tk, ti, ts⟩, te⟩ := R
      go_wp2_with (first | (go_at_call 30; refine (HAP.out _ (Below.refl _ _)).mono ?_; rintro e w2 ⟨rfl, hb2⟩; have V2 := Lib.hid (VBr.out.below hb2); have zV2 := V2.out.n; have zzV2 := V2.out.n1; obtain ⟨r0V2, r1V2, r2V2⟩ := V2.out.r; have f0V2 := V2.out.f 0; have f1V2 := V2.out.f 1; have f2V2 := V2.out.f 2; clear hb2) | fail)
      refine bodyPost_ret (v := .tuple #[.agg #[.int .i64 tk, .int .i64 ti, .string ts], .int .i64 te]) (by simp [results, Tryd.results22, go_sem, r0V2, r1V2, r2V2]) rfl ⟨congrArg Ending.returned HFF.out.symm, ?_⟩
      exact (((V2.out.b.setCell (p := ⟨W.heap.size + 1, 0, none⟩) (Nat.le_succ _) _).setCell (p := ⟨W.heap.size + 1, 1, none⟩) (Nat.le_succ _) _).setCell (p := ⟨W.heap.size + 1, 2, none⟩) (Nat.le_succ _) _)
end Go.Proofs.YtokbdleokihdaaaDoor
namespace Go.Proofs.YtokbdleokihdaaaDoor
open Go.RowKit

theorem rkid_of {w : World} {k t : Int} {nl : Bool} {l : Dt} {lev col op : Int} {p : Option Addr} {cap : Nat} {ps : Option Addr} {ns cs : Nat} {kids : List Ex} {pe : Option Addr} {ne ce : Nat} (h1 : kids.length ≤ cap) (h2 : cap ≤ 1048576)
    (hk : kids = [] ∨ ∃ b o, p = some ⟨b, o, none⟩ ∧ b < w.heap.size ∧ KCells w b o kids) (hks : ∀ x ∈ kids, ExAt w x) (env : List (List Dt)) (subs : List Dt) (hr : rightL env kids = true) (hcnt : cntL kids ≤ 1000000000) (hsub : cntL kids ≤ subs.length) (hv : ∀ d ∈ subs, Vok d)
    (hRC : ∀ x ∈ kids, RC w env (.slice pe ne ce) x) (W : World) (vs : Value) (hW : Below w.heap.size w W) (hS : DatS W vs subs) :
    RKid W #[.int .i64 k, .int .i64 t, .bool nl, .int .i64 l.k, .int .i64 l.i, .string l.s, .int .i64 lev, .int .i64 col, .int .i64 op, .slice p kids.length cap, .slice ps ns cs] (.slice pe ne ce) vs (valL env kids subs) := fun i r hir W2 hW2 =>
  refkid_any h1 h2 hk hks env subs hr hcnt hsub hv hRC i r hir W2 vs (hW.trans (hW2.mono hW.size)) (hS.later hW2)

set_option maxRecDepth 100000 in
set_option maxHeartbeats 4000000 in
theorem refof_all {w : World} {x : Ex} (hx : ExAt w x) (env : List (List Dt)) (pe : Option Addr) (ne ce : Nat) (hE : EnvS w (.slice pe ne ce) env) (hT : Tabs w) (henv : ∀ r ∈ env, ∀ d ∈ r, In64d d) : x.cnt ≤ 1000000000 → RC w env (.slice pe ne ce) x := by
  induction hx with
  | @mk k t nl l lev col op kids p cap ps ns cs h1 h2 hk hl hks ih =>
    intro hcnt hr subs hsub hv W vs hW hS
    obtain ⟨pv, cv, rfl, hs1, hs2, hs3, hs4⟩ := id hS
    have HVB := Lib.hid (VB.new W #[.int .i64 k, .int .i64 t, .bool nl, .int .i64 l.k, .int .i64 l.i, .string l.s, .int .i64 lev, .int .i64 col, .int .i64 op, .slice p kids.length cap, .slice ps ns cs] 27 23)
    by_cases hk1 : k = 1
    · subst hk1
      have HV := Lib.hid (show outV ((Ex.node 1 t nl l lev col op (.slice p kids.length cap) (.slice ps ns cs) kids).val env subs) = .tuple #[.agg #[.int .i64 l.k, .int .i64 l.i, .string l.s], .int .i64 0] by rw [Ex.val, if_pos rfl]; rfl)
      simp only [Ex.v]
      obtain ⟨lk, li, ls⟩ := l
      clear hk hks ih hW hr hcnt hsub hv hs3 hs4 hS hE henv
      go_enter Tryd.func13, Tryd.ntmps13
      go_wp2_with fail
      refine bodyPost_ret (v := .tuple #[.agg #[.int .i64 lk, .int .i64 li, .string ls], .int .i64 0]) (by simp [results, Tryd.results13, go_sem]) rfl ⟨congrArg Ending.returned HV.out.symm, ?_⟩
      exact ((Below.refl _ _).alloc (Nat.le_refl _) _).alloc (by simp) _
    · by_cases hk2 : k = 2
      · subst hk2
        have hco : colOk env lev col = true := by rw [Ex.right, if_neg (by decide), if_pos rfl] at hr; exact hr
        have HV := Lib.hid (show outV ((Ex.node 2 t nl l lev col op (.slice p kids.length cap) (.slice ps ns cs) kids).val env subs) = .tuple #[(dnth (env.getD lev.toNat []) col.toNat).v, .int .i64 0] by rw [Ex.val, if_neg (by decide), if_pos rfl]; rfl)
        unfold colOk at hco
        simp only [Bool.and_eq_true, decide_eq_true_eq] at hco
        obtain ⟨⟨⟨⟨q1, q2⟩, q3⟩, q4⟩, -⟩ := hco
        obtain ⟨eb, eo, rp, ce', rc, hev, heb, hrow, hrd⟩ := hE.row hW q1 q2
        obtain ⟨db, dof, dc, hdv, hdb, d0, d1, d2⟩ := hrd.at q3 q4
        obtain ⟨rfl, rfl, rfl⟩ : pe = some ⟨eb, eo, none⟩ ∧ ne = env.length ∧ ce = ce' := by injection hev with a b c; exact ⟨a, b, c⟩
        obtain ⟨rfl, rfl⟩ : rp = some ⟨db, dof, none⟩ ∧ rc = dc := by injection hdv with a _ b; exact ⟨a, b⟩
        have e0 := (HVB.out.b.cell (p := ⟨eb, eo + lev.toNat, none⟩) heb).trans hrow
        have e1 := (HVB.out.b.cell (p := ⟨db, dof + col.toNat * 3, none⟩) hdb).trans d0
        have e2 := (HVB.out.b.cell (p := ⟨db, dof + col.toNat * 3 + 1, none⟩) hdb).trans d1
        have e3 := (HVB.out.b.cell (p := ⟨db, dof + col.toNat * 3 + 2, none⟩) hdb).trans d2
        obtain ⟨⟨a0, a1, a2, a3⟩, ⟨a4, a5, a6, a7⟩, a8, a9, a10⟩ := HVB.out.cells
        obtain ⟨r0, r1, r2⟩ := HVB.out.r
        have f0 := HVB.out.f 0
        have f1 := HVB.out.f 1
        have f2 := HVB.out.f 2
        have hzn := HVB.out.n
        have hz1 := HVB.out.n1
        have hz0 := HVB.out.n0
        generalize dnth (env.getD lev.toNat []) col.toNat = dd at *
        obtain ⟨dk, di, dss⟩ := dd
        generalize (env.getD lev.toNat []) = rw at *
        simp only [Ex.v]
        clear hk hks ih hW hr hcnt hsub hv hs3 hs4 hS hE henv hrow hrd d0 d1 d2
        go_enter Tryd.func13, Tryd.ntmps13
        go_wp2_with fail
        generalize hW0 : ((W.alloc (.cells #[.int .i64 2, .int .i64 t, .bool nl, .int .i64 l.k, .int .i64 l.i, .string l.s, .int .i64 lev, .int .i64 col, .int .i64 op, .slice p kids.length cap, .slice ps ns cs] 27)).alloc (.cells #[.int .i64 0, .int .i64 0, .string ⟨#[]⟩] 23)) = W0 at *
        clear hW0
        go_region_with (fail)
        all_goals
          go_wp2_with fail
          refine bodyPost_ret (v := .tuple #[.agg #[.int .i64 dk, .int .i64 di, .string dss], .int .i64 0]) (by simp [results, Tryd.results13, go_sem, r0, r1, r2]) rfl ⟨congrArg Ending.returned HV.out.symm, ?_⟩
          exact (((HVB.out.b.drew.setCell (p := ⟨W.heap.size + 1, 0, none⟩) (Nat.le_succ _) _).setCell (p := ⟨W.heap.size + 1, 1, none⟩) (Nat.le_succ _) _).setCell (p := ⟨W.heap.size + 1, 2, none⟩) (Nat.le_succ _) _)
      · by_cases hk3 : k = 3
        · subst hk3
          have hr2 : (rightL env kids && kidsOk op kids.length) = true := by rw [Ex.right, if_neg (by decide), if_neg (by decide), if_pos rfl] at hr; exact hr
          rw [Bool.and_eq_true] at hr2
          obtain ⟨hrl, hko⟩ := hr2
          rw [cnt_kid rfl] at hcnt hsub
          have hRC : ∀ y ∈ kids, RC w env (.slice pe ne ce) y := fun y hy => ih y hy (Nat.le_trans (cnt_le_cntL kids y hy) hcnt)
          have hVok : ∀ r ∈ valL env kids subs, Vok r.1 := valL_mem env (P := fun r => Vok r.1) kids subs fun y hy n =>
            vok_val (hks y hy) env henv ((rightL_iff env kids).1 hrl y hy) _ (fun d hd => hv d (List.mem_of_mem_drop hd))
          have hval : (Ex.node 3 t nl l lev col op (.slice p kids.length cap) (.slice ps ns cs) kids).val env subs = callF op (valL env kids subs) := by rw [Ex.val, if_neg (by decide), if_neg (by decide), if_pos rfl]
          obtain ⟨⟨a0, a1, a2, a3⟩, ⟨a4, a5, a6, a7⟩, a8, a9, a10⟩ := HVB.out.cells
          obtain ⟨r0, r1, r2⟩ := HVB.out.r
          have f0 := HVB.out.f 0
          have f1 := HVB.out.f 1
          have f2 := HVB.out.f 2
          have hzn := HVB.out.n
          have hz1 := HVB.out.n1
          have hz0 := HVB.out.n0
          have hW1 := hW.trans (HVB.out.b.mono hW.size)
          have hS1 := hS.later HVB.out.b
          simp only [Ex.v]
          generalize hW0 : ((W.alloc (.cells #[.int .i64 3, .int .i64 t, .bool nl, .int .i64 l.k, .int .i64 l.i, .string l.s, .int .i64 lev, .int .i64 col, .int .i64 op, .slice p kids.length cap, .slice ps ns cs] 27)).alloc (.cells #[.int .i64 0, .int .i64 0, .string ⟨#[]⟩] 23)) = W1 at *
          have hKid := rkid_of (w := w) (k := 3) (t := t) (nl := nl) (l := l) (lev := lev) (col := col) (op := op) (p := p) (cap := cap) (ps := ps) (ns := ns) (cs := cs) (kids := kids) (pe := pe) (ne := ne) (ce := ce) h1 h2 hk hks env subs hrl hcnt hsub hv hRC W1 (.slice pv subs.length cv) hW1 hS1
          have hlen := valL_length env kids subs
          have hnm : kids.length ≤ 1048576 := by omega
          have HC : Hid (Calls Tryd.prog 22 #[.agg #[.int .i64 3, .int .i64 t, .bool nl, .int .i64 l.k, .int .i64 l.i, .string l.s, .int .i64 lev, .int .i64 col, .int .i64 op, .slice p kids.length cap, .slice ps ns cs], .slice pe ne ce, .slice pv subs.length cv] W1 fun e w' => e = .returned (outV (callF op (valL env kids subs))) ∧ Below W1.heap.size W1 w') := by
            show Calls _ _ _ _ _
            have hT1 := hT.below hW1
            by_cases o16 : op = 16
            · subst o16
              exact refcall_case 3 t nl l lev col p kids.length cap ps ns cs pe ne ce pv _ cv W1 hnm _ hlen hVok hKid
            · by_cases o17 : op = 17
              · subst o17
                exact refcall_coal 3 t nl l lev col p kids.length cap ps ns cs pe ne ce pv _ cv W1 hnm _ hlen hVok hKid
              · have hcf : callF op (valL env kids subs) = strictF op [] (valL env kids subs) := by rw [callF, if_neg o16, if_neg o17]
                rw [hcf]
                unfold kidsOk at hko
                rw [if_neg o16, if_neg o17, Bool.and_eq_true, decide_eq_true_eq, decide_eq_true_eq] at hko
                obtain ⟨hn0, hnm2⟩ := hko
                have hm2 := many_le op
                have hn5 : kids.length ≤ 5 := by omega
                by_cases o13 : op = 13
                · subst o13
                  exact refcall_and 3 t nl l lev col p kids.length cap ps ns cs pe ne ce pv _ cv W1 hnm _ hlen hVok hn5 hT1 hKid
                · by_cases o14 : op = 14
                  · subst o14
                    exact refcall_or 3 t nl l lev col p kids.length cap ps ns cs pe ne ce pv _ cv W1 hnm _ hlen hVok hn5 hT1 hKid
                  · exact refcall_oth 3 t nl l lev col op p kids.length cap ps ns cs pe ne ce pv _ cv W1 hnm _ hlen hVok hn5 hT1 o13 o14 o16 o17 hKid
          obtain ⟨rk, ri, rs, er, hor⟩ := outV_form ((Ex.node 3 t nl l lev col op (.slice p kids.length cap) (.slice ps ns cs) kids).val env subs)
          rw [hor]
          rw [← hval, hor] at HC
          clear hk hks ih hr hcnt hsub hv hs3 hs4 hS hRC hVok hval hKid hlen hrl hko hW1 hS1 hor henv hE
          go_enter Tryd.func13, Tryd.ntmps13
          go_wp2_with (first | (go_at_call 22; refine HC.out.mono ?_; rintro e w2 ⟨rfl, hb2⟩; have V2 := Lib.hid (HVB.out.below hb2); have z2 := V2.out.n; have zz2 := V2.out.n1; obtain ⟨s0, s1, s2⟩ := V2.out.r; have g0 := V2.out.f 0; have g1 := V2.out.f 1; have g2 := V2.out.f 2; clear hb2) | fail)
          refine bodyPost_ret (v := .tuple #[.agg #[.int .i64 rk, .int .i64 ri, .string rs], .int .i64 er]) (by simp [results, Tryd.results13, go_sem, s0, s1, s2]) rfl ⟨rfl, ?_⟩
          exact (((V2.out.b.setCell (p := ⟨W.heap.size + 1, 0, none⟩) (Nat.le_succ _) _).setCell (p := ⟨W.heap.size + 1, 1, none⟩) (Nat.le_succ _) _).setCell (p := ⟨W.heap.size + 1, 2, none⟩) (Nat.le_succ _) _)
        · have h4 : 4 ≤ k := by
            rw [Ex.right, if_neg hk1, if_neg hk2, if_neg hk3, Bool.and_eq_true, decide_eq_true_eq] at hr
            exact hr.1
          have HV := Lib.hid (show outV ((Ex.node k t nl l lev col op (.slice p kids.length cap) (.slice ps ns cs) kids).val env subs) = .tuple #[(dnth subs 0).v, .int .i64 0] by rw [Ex.val, if_neg hk1, if_neg hk2, if_neg hk3, if_pos h4]; rfl)
          have hn1 : 1 ≤ subs.length := by rw [Ex.cnt, if_neg hk3, if_pos h4] at hsub; exact hsub
          have hne : subs ≠ [] := fun h => by rw [h] at hn1; simp at hn1
          obtain ⟨db, dof, rfl, hdb, hdc⟩ := hs3.resolve_left hne
          obtain ⟨d0, d1, d2⟩ := hdc 0 (by omega)
          have e1 := (HVB.out.b.cell (p := ⟨db, dof + 0 * 3, none⟩) hdb).trans d0
          have e2 := (HVB.out.b.cell (p := ⟨db, dof + 0 * 3 + 1, none⟩) hdb).trans d1
          have e3 := (HVB.out.b.cell (p := ⟨db, dof + 0 * 3 + 2, none⟩) hdb).trans d2
          simp only [Nat.zero_mul, Nat.add_zero] at e1 e2 e3
          have b1 : (k == 1) = false := by simpa using hk1
          have b2 : (k == 2) = false := by simpa using hk2
          have b3 : (k == 3) = false := by simpa using hk3
          have hpos : (0 : Int) < (subs.length : Int) := by omega
          generalize dnth subs 0 = dd at *
          obtain ⟨dk, di, dss⟩ := dd
          obtain ⟨⟨a0, a1, a2, a3⟩, ⟨a4, a5, a6, a7⟩, a8, a9, a10⟩ := HVB.out.cells
          obtain ⟨r0, r1, r2⟩ := HVB.out.r
          have f0 := HVB.out.f 0
          have f1 := HVB.out.f 1
          have f2 := HVB.out.f 2
          have hzn := HVB.out.n
          have hz1 := HVB.out.n1
          have hz0 := HVB.out.n0
          simp only [Ex.v]
          generalize hW0 : ((W.alloc (.cells #[.int .i64 k, .int .i64 t, .bool nl, .int .i64 l.k, .int .i64 l.i, .string l.s, .int .i64 lev, .int .i64 col, .int .i64 op, .slice p kids.length cap, .slice ps ns cs] 27)).alloc (.cells #[.int .i64 0, .int .i64 0, .string ⟨#[]⟩] 23)) = W1 at *
          clear hk hks ih hr hcnt hsub hv hs4 hS hE henv hdc d0 d1 d2 hk1 hk2 hk3 hW
          go_enter Tryd.func13, Tryd.ntmps13
          go_wp2_with fail
          refine bodyPost_ret (v := .tuple #[.agg #[.int .i64 dk, .int .i64 di, .string dss], .int .i64 0]) (by simp [results, Tryd.results13, go_sem, r0, r1, r2]) rfl ⟨congrArg Ending.returned HV.out.symm, ?_⟩
          exact (((HVB.out.b.setCell (p := ⟨W.heap.size + 1, 0, none⟩) (Nat.le_succ _) _).setCell (p := ⟨W.heap.size + 1, 1, none⟩) (Nat.le_succ _) _).setCell (p := ⟨W.heap.size + 1, 2, none⟩) (Nat.le_succ _) _)
end Go.Proofs.YtokbdleokihdaaaDoor

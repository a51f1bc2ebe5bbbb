/- The contract of the document's Value. -/
import Derived.Test.YtokbdleokihdaaaDoorG24
import Derived.Test.YtokbdleokihdaaaDoorEwR
namespace Go.Proofs.YtokbdleokihdaaaDoor
open Go.RowKit

theorem valueF_out (x : Ex) (env : List (List Dt)) (subs : List Dt) (h : x.right env = true ∧ x.cnt = subs.length ∧ (∀ d ∈ subs, rightD d = true)) : valueF x env subs = outR (x.val env subs) := by
  unfold valueF outR
  rw [if_pos h]
  generalize x.val env subs = r
  obtain ⟨d, e⟩ := r
  by_cases h0 : e = 0
  · subst h0; rfl
  · rw [if_neg h0, if_neg h0]
set_option maxRecDepth 100000 in
set_option maxHeartbeats 8000000 in
theorem refxvalue_any {w : World} {x : Ex} (hx : ExAt w x) (env : List (List Dt)) (ve : Value) (hE : EnvS w ve env) (hT : Tabs w) (henv : ∀ r ∈ env, ∀ d ∈ r, In64d d) (hcnt : x.cnt ≤ 1000000000) (subs : List Dt) (vs : Value) (W : World) (hW : Below w.heap.size w W) (hS : DatS W vs subs) :
    Calls Tryd.prog 7 #[x.v, ve, vs] W fun e w' => e = .returned (.tuple #[(valueF x env subs).1.v, .int .i64 (valueF x env subs).2]) ∧ Below W.heap.size W w' := by
  have HR := Lib.hid (refxright_any hx env ve hE)
  have HM := Lib.hid (refsubs_any hx hcnt)
  have HW := Lib.hid hW
  have HS := Lib.hid hS
  obtain ⟨pv, cv, rfl, hs1, hs2, hs3, hs4⟩ := id hS
  obtain ⟨pe, ce, rfl, he1, he2, he3⟩ := id hE
  have HU := Lib.hid (fun hr hc (hv : ∀ d ∈ subs, Vok d) => refof_all hx env pe env.length ce hE hT henv hcnt hr subs hc hv)
  have HO := Lib.hid (valueF_out x env subs)
  have HN := Lib.hid (fun h : ¬ (x.right env = true ∧ x.cnt = subs.length ∧ (∀ d ∈ subs, rightD d = true)) => show valueF x env subs = (Dt.zero, 1) by unfold valueF; rw [if_neg h])
  obtain ⟨k, t, nl, l, lev, col, op, kv, sv, kids⟩ := x
  obtain ⟨p, cap, ps, ns, cs, rfl, rfl⟩ := hx.slices
  have HVB := Lib.hid (VB.new W #[.int .i64 k, .int .i64 t, .bool nl, .int .i64 l.k, .int .i64 l.i, .string l.s, .int .i64 lev, .int .i64 col, .int .i64 op, .slice p kids.length cap, .slice ps ns cs] 27 23)
  have hww := hW.size
  simp only [Ex.v] at HR HM HU ⊢
  obtain ⟨F, hF⟩ : ∃ F, F = valueF (.node k t nl l lev col op (.slice p kids.length cap) (.slice ps ns cs) kids) env subs := ⟨_, rfl⟩
  rw [← hF]
  rw [← hF] at HO HN
  clear hF
  obtain ⟨R, hR⟩ : ∃ R, R = (Ex.node k t nl l lev col op (.slice p kids.length cap) (.slice ps ns cs) kids).right env := ⟨_, rfl⟩
  obtain ⟨C, hC⟩ : ∃ C, C = (Ex.node k t nl l lev col op (.slice p kids.length cap) (.slice ps ns cs) kids).cnt := ⟨_, rfl⟩
  obtain ⟨V, hV⟩ : ∃ V, V = (Ex.node k t nl l lev col op (.slice p kids.length cap) (.slice ps ns cs) kids).val env subs := ⟨_, rfl⟩
  rw [← hR] at HR HU HO HN
  rw [← hC] at HM HU hcnt HO HN
  rw [← hV] at HU HO
  clear hx hE hT hW hS henv hR hC hV
  cases R
  · have HF0 := Lib.hid (HN.out (fun h => absurd h.1 (by decide)))
    clear HU HO HN
    go_enter Tryd.func7, Tryd.ntmps7
    go_wp2_with (first | (go_at_call 8; refine (HR.out _ (HW.out.trans (HVB.out.b.mono HW.out.size))).mono ?_; rintro e w2 ⟨rfl, hb2⟩; have VB2 := Lib.hid (HVB.out.below hb2); have zVB2 := VB2.out.n; have zzVB2 := VB2.out.n1; have zyVB2 := VB2.out.n0; obtain ⟨⟨a0A, a1A, a2A, a3A⟩, ⟨a4A, a5A, a6A, a7A⟩, a8A, a9A, a10A⟩ := VB2.out.cells; obtain ⟨r0A, r1A, r2A⟩ := VB2.out.r; have f0A := VB2.out.f 0; have f1A := VB2.out.f 1; have f2A := VB2.out.f 2; clear hb2) | fail)
    refine bodyPost_ret (v := .tuple #[.agg #[.int .i64 0, .int .i64 0, .string ⟨#[]⟩], .int .i64 1]) (by simp [results, Tryd.results7, go_sem, r0A, r1A, r2A]) rfl ⟨by rw [HF0.out]; rfl, ?_⟩
    exact (((VB2.out.b.setCell (p := ⟨W.heap.size + 1, 0, none⟩) (Nat.le_succ _) _).setCell (p := ⟨W.heap.size + 1, 1, none⟩) (Nat.le_succ _) _).setCell (p := ⟨W.heap.size + 1, 2, none⟩) (Nat.le_succ _) _)
  · by_cases hc : C = subs.length
    · subst hc
      go_enter Tryd.func7, Tryd.ntmps7
      go_wp2_with (first | (go_at_call 8; refine (HR.out _ (HW.out.trans (HVB.out.b.mono HW.out.size))).mono ?_; rintro e w2 ⟨rfl, hb2⟩; have VB2 := Lib.hid (HVB.out.below hb2); have zVB2 := VB2.out.n; have zzVB2 := VB2.out.n1; have zyVB2 := VB2.out.n0; obtain ⟨⟨a0A, a1A, a2A, a3A⟩, ⟨a4A, a5A, a6A, a7A⟩, a8A, a9A, a10A⟩ := VB2.out.cells; obtain ⟨r0A, r1A, r2A⟩ := VB2.out.r; have f0A := VB2.out.f 0; have f1A := VB2.out.f 1; have f2A := VB2.out.f 2; clear hb2) | (go_at_call 9; refine (HM.out _ (HW.out.trans (VB2.out.b.mono HW.out.size))).mono ?_; rintro e w3 ⟨v3, rfl, ⟨g3, cp3, xs3, rfl, -, -⟩, hb3⟩; have VB3 := Lib.hid (VB2.out.below hb3); have zVB3 := VB3.out.n; have zzVB3 := VB3.out.n1; have zyVB3 := VB3.out.n0; obtain ⟨⟨a0B, a1B, a2B, a3B⟩, ⟨a4B, a5B, a6B, a7B⟩, a8B, a9B, a10B⟩ := VB3.out.cells; obtain ⟨r0B, r1B, r2B⟩ := VB3.out.r; have f0B := VB3.out.f 0; have f1B := VB3.out.f 1; have f2B := VB3.out.f 2; clear hb3) | fail)
      go_loopw [25] (fun iv wr => ∃ i : Nat, i ≤ subs.length ∧ iv = .int .i64 (i : Int) ∧ VB W #[.int .i64 k, .int .i64 t, .bool nl, .int .i64 l.k, .int .i64 l.i, .string l.s, .int .i64 lev, .int .i64 col, .int .i64 op, .slice p kids.length cap, .slice ps ns cs] wr ∧ ∀ j, j < i → rightD (dnth subs j) = true) (fun iv _ => subs.length - (intOf iv).toNat)
      case atStart => exact ⟨0, Nat.zero_le _, rfl, VB3.out, fun j hj => absurd hj (Nat.not_lt_zero _)⟩
      case round =>
        obtain ⟨i, hi, rfl, hvb, hall⟩ := hrel
        clear VB2 VB3 zVB2 zzVB2 zyVB2 zVB3 zzVB3 zyVB3 a0A a1A a2A a3A a4A a5A a6A a7A a8A a9A a10A r0A r1A r2A f0A f1A f2A a0B a1B a2B a3B a4B a5B a6B a7B a8B a9B a10B r0B r1B r2B f0B f1B f2B
        have HALL := Lib.hid hall
        have VBr := Lib.hid (hvb)
        have zVBr := VBr.out.n
        have zzVBr := VBr.out.n1
        have zyVBr := VBr.out.n0
        obtain ⟨⟨a0D, a1D, a2D, a3D⟩, ⟨a4D, a5D, a6D, a7D⟩, a8D, a9D, a10D⟩ := VBr.out.cells
        obtain ⟨r0D, r1D, r2D⟩ := VBr.out.r
        have f0D := VBr.out.f 0
        have f1D := VBr.out.f 1
        have f2D := VBr.out.f 2
        clear hvb hall
        by_cases hlt : i < subs.length
        · have hne : subs ≠ [] := fun h => by rw [h] at hlt; simp at hlt
          obtain ⟨db, dof, rfl, hdb, hdc⟩ := hs3.resolve_left hne
          obtain ⟨d0, d1, d2⟩ := hdc i hlt
          have e1 := (VBr.out.b.cell (p := ⟨db, dof + i * 3, none⟩) hdb).trans d0
          have e2 := (VBr.out.b.cell (p := ⟨db, dof + i * 3 + 1, none⟩) hdb).trans d1
          have e3 := (VBr.out.b.cell (p := ⟨db, dof + i * 3 + 2, none⟩) hdb).trans d2
          have hmem : dnth subs i ∈ subs := by unfold dnth; rw [List.getD_eq_getElem?_getD, List.getElem?_eq_getElem hlt]; exact List.getElem_mem hlt
          have HST := Lib.hid (show rightD (dnth subs i) = true → ∀ j, j < i + 1 → rightD (dnth subs j) = true from fun h j hj => by
            rcases Nat.lt_succ_iff_lt_or_eq.1 hj with hj | rfl
            · exact HALL.out j hj
            · exact h)
          have HNO := Lib.hid (show rightD (dnth subs i) = false → F = (Dt.zero, 1) from fun h => HN.out (fun h2 => by rw [h2.2.2 _ hmem] at h; exact absurd h (by decide)))
          clear d0 d1 d2 hmem hdc
          generalize dnth subs i = dd at *
          obtain ⟨dk, di, dss⟩ := dd
          cases hrd : rightD ⟨dk, di, dss⟩
          · have HF0 := Lib.hid (HNO.out hrd)
            go_wp2_with (first | (go_at_call 10; refine (refright_any _ _ _ _).mono ?_; rintro e w5 ⟨rfl, hb5⟩; have VB5 := Lib.hid ((VBr.out.below ((Below.refl _ _).alloc (Nat.le_refl _) _)).below hb5); have zVB5 := VB5.out.n; have zzVB5 := VB5.out.n1; have zyVB5 := VB5.out.n0; obtain ⟨⟨a0C, a1C, a2C, a3C⟩, ⟨a4C, a5C, a6C, a7C⟩, a8C, a9C, a10C⟩ := VB5.out.cells; obtain ⟨r0C, r1C, r2C⟩ := VB5.out.r; have f0C := VB5.out.f 0; have f1C := VB5.out.f 1; have f2C := VB5.out.f 2; clear hb5) | fail)
            refine bodyPost_ret (v := .tuple #[.agg #[.int .i64 0, .int .i64 0, .string ⟨#[]⟩], .int .i64 1]) (by simp [results, Tryd.results7, go_sem, r0C, r1C, r2C]) rfl ⟨by rw [HF0.out]; rfl, ?_⟩
            exact (((VB5.out.b.setCell (p := ⟨W.heap.size + 1, 0, none⟩) (Nat.le_succ _) _).setCell (p := ⟨W.heap.size + 1, 1, none⟩) (Nat.le_succ _) _).setCell (p := ⟨W.heap.size + 1, 2, none⟩) (Nat.le_succ _) _)
          · go_wp2_with (first | (go_at_call 10; refine (refright_any _ _ _ _).mono ?_; rintro e w5 ⟨rfl, hb5⟩; have VB5 := Lib.hid ((VBr.out.below ((Below.refl _ _).alloc (Nat.le_refl _) _)).below hb5); have zVB5 := VB5.out.n; have zzVB5 := VB5.out.n1; have zyVB5 := VB5.out.n0; obtain ⟨⟨a0C, a1C, a2C, a3C⟩, ⟨a4C, a5C, a6C, a7C⟩, a8C, a9C, a10C⟩ := VB5.out.cells; obtain ⟨r0C, r1C, r2C⟩ := VB5.out.r; have f0C := VB5.out.f 0; have f1C := VB5.out.f 1; have f2C := VB5.out.f 2; clear hb5) | fail)
            go_roundw
            case rel => exact ⟨i + 1, by omega, by go_num, VB5.out, HST.out hrd⟩
            case measure => simp [intOf]; omega
        · obtain rfl : i = subs.length := by omega
          have hrs : ∀ d ∈ subs, rightD d = true := fun d hd => by
            obtain ⟨j, hj, rfl⟩ := List.mem_iff_getElem.1 hd
            have := HALL.out j hj
            unfold dnth at this
            rwa [List.getD_eq_getElem?_getD, List.getElem?_eq_getElem hj] at this
          have HF1 := Lib.hid (HO.out ⟨by simp, by simp, hrs⟩)
          have HVV := Lib.hid (HU.out (by simp) (Nat.le_refl _) (fun d hd => vok_right (hrs d hd) (hs4 d hd)))
          clear HU HALL hrs HO HN
          have HVV := Lib.hid (fun W vs hW hS => show Calls Tryd.prog 13 _ W (fun e w' => e = .returned (.tuple #[(outR V).1.v, .int .i64 (outR V).2]) ∧ Below W.heap.size W w') from HVV.out W vs hW hS)
          obtain ⟨OV, hOV⟩ : ∃ OV, OV = outR V := ⟨_, rfl⟩
          rw [← hOV] at HF1 HVV
          clear hOV
          obtain ⟨⟨dk, di, dss⟩, er⟩ := OV
          go_wp2_with (first | (go_at_call 13; refine (HVV.out _ _ (HW.out.trans (VBr.out.b.mono HW.out.size)) (HS.out.later VBr.out.b)).mono ?_; rintro e w5 ⟨rfl, hb5⟩; have VB5 := Lib.hid (VBr.out.below hb5); have zVB5 := VB5.out.n; have zzVB5 := VB5.out.n1; have zyVB5 := VB5.out.n0; obtain ⟨⟨a0C, a1C, a2C, a3C⟩, ⟨a4C, a5C, a6C, a7C⟩, a8C, a9C, a10C⟩ := VB5.out.cells; obtain ⟨r0C, r1C, r2C⟩ := VB5.out.r; have f0C := VB5.out.f 0; have f1C := VB5.out.f 1; have f2C := VB5.out.f 2; clear hb5) | fail)
          refine bodyPost_ret (v := .tuple #[.agg #[.int .i64 dk, .int .i64 di, .string dss], .int .i64 er]) (by simp [results, Tryd.results7, go_sem, r0C, r1C, r2C]) rfl ⟨by rw [HF1.out], ?_⟩
          exact (((VB5.out.b.setCell (p := ⟨W.heap.size + 1, 0, none⟩) (Nat.le_succ _) _).setCell (p := ⟨W.heap.size + 1, 1, none⟩) (Nat.le_succ _) _).setCell (p := ⟨W.heap.size + 1, 2, none⟩) (Nat.le_succ _) _)
    · have HF0 := Lib.hid (HN.out (fun h => hc h.2.1))
      have bc : ((C : Int) == (subs.length : Int)) = false := by simp; omega
      clear HU HO HN
      go_enter Tryd.func7, Tryd.ntmps7
      go_wp2_with (first | (go_at_call 8; refine (HR.out _ (HW.out.trans (HVB.out.b.mono HW.out.size))).mono ?_; rintro e w2 ⟨rfl, hb2⟩; have VB2 := Lib.hid (HVB.out.below hb2); have zVB2 := VB2.out.n; have zzVB2 := VB2.out.n1; have zyVB2 := VB2.out.n0; obtain ⟨⟨a0A, a1A, a2A, a3A⟩, ⟨a4A, a5A, a6A, a7A⟩, a8A, a9A, a10A⟩ := VB2.out.cells; obtain ⟨r0A, r1A, r2A⟩ := VB2.out.r; have f0A := VB2.out.f 0; have f1A := VB2.out.f 1; have f2A := VB2.out.f 2; clear hb2) | (go_at_call 9; refine (HM.out _ (HW.out.trans (VB2.out.b.mono HW.out.size))).mono ?_; rintro e w3 ⟨v3, rfl, ⟨g3, cp3, xs3, rfl, -, -⟩, hb3⟩; have VB3 := Lib.hid (VB2.out.below hb3); have zVB3 := VB3.out.n; have zzVB3 := VB3.out.n1; have zyVB3 := VB3.out.n0; obtain ⟨⟨a0B, a1B, a2B, a3B⟩, ⟨a4B, a5B, a6B, a7B⟩, a8B, a9B, a10B⟩ := VB3.out.cells; obtain ⟨r0B, r1B, r2B⟩ := VB3.out.r; have f0B := VB3.out.f 0; have f1B := VB3.out.f 1; have f2B := VB3.out.f 2; clear hb3) | fail)
      refine bodyPost_ret (v := .tuple #[.agg #[.int .i64 0, .int .i64 0, .string ⟨#[]⟩], .int .i64 1]) (by simp [results, Tryd.results7, go_sem, r0B, r1B, r2B]) rfl ⟨by rw [HF0.out]; rfl, ?_⟩
      exact (((VB3.out.b.setCell (p := ⟨W.heap.size + 1, 0, none⟩) (Nat.le_succ _) _).setCell (p := ⟨W.heap.size + 1, 1, none⟩) (Nat.le_succ _) _).setCell (p := ⟨W.heap.size + 1, 2, none⟩) (Nat.le_succ _) _)
end Go.Proofs.YtokbdleokihdaaaDoor

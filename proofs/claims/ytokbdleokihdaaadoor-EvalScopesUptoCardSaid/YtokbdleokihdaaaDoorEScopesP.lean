/- EvalScopes holds: for every input of a bulk of at most 1048576 the law answers true, and the arguments read as before. Conditions: that bound on what comes in. -/
import Derived.Test.YtokbdleokihdaaaDoorG24
import Derived.Test.YtokbdleokihdaaaDoorG20
import Derived.Test.YtokbdleokihdaaaDoorCondAnd
import Derived.Test.YtokbdleokihdaaaDoorShapedAnd
import Derived.ChangeOld
import Derived.JoinedCond
import Derived.Below
import Derived.ProofKit
import Derived.OpenShut
import Derived.ShutString
import Derived.Test.YtokbdleokihdaaaDoorRows
import Derived.Test.YtokbdleokihdaaaDoorCards
import Derived.Test.YtokbdleokihdaaaDoorTie
import Derived.Lay
import Derived.SevenTiedAt
import Derived.PinnedBridge
import Derived.Lib.LaidU8T
namespace Go.Proofs.YtokbdleokihdaaaDoor
open Go.ChangeShapes Go.WideShapes Go.ChangeAt Go.RowKit Go.Lib
open Go.ChangeMaps (open_string shut_string)

theorem u8x : Go.Proofs.U8Extra Tryd.prog Tryd.laysValid_ren := ⟨by kernel_rfl, by kernel_rfl, by kernel_rfl, by kernel_rfl, by kernel_rfl, by kernel_rfl, by kernel_rfl⟩

set_option maxRecDepth 100000 in
theorem evalScopes_lifted (os : Os) (started : os.Started) (H : Type) (enc : TypeId × Value → H) (F0 : Stop.Interp) :
    ReturnsInHanded {} Tryd.checked os 5 .any (fun w args => ((Rows.OpenSpec.upto Rows.evalScopesSpec).pre enc Tryd.prog Tryd.f5 [] false w args ∧ laidMetH Tryd.prog Rows.evalScopesUptoRow.laid w) ∧ sizedMet enc Tryd.prog Tryd.f5 (Rows.OpenSpec.upto Rows.evalScopesSpec) false w args)
      (((Rows.OpenSpec.upto Rows.evalScopesSpec).at F0).post enc Tryd.prog Tryd.f5 false true false false) := by
  refine handed_cond_and (C := Tryd.checked) (s := Rows.OpenSpec.upto Rows.evalScopesSpec) (k := Rows.uptoSmall) rfl (X := fun w _ => laidMetH Tryd.prog Rows.evalScopesUptoRow.laid w) (fun _ _ _ hh h => h.of_heap hh) own started (by kernel_rfl) Tryd.func5
    (witness_cond (enc := enc) (C := Tryd.checked) (os := os) (s := Rows.OpenSpec.upto Rows.evalScopesSpec) (k := Rows.uptoSmall) rfl (X := fun w _ => laidMetH Tryd.prog Rows.evalScopesUptoRow.laid w) false (World.laidAll Tryd.prog os Rows.evalScopesUptoRow.laid) #[.agg #[.int .i64 0, .int .i64 0, .bool false, .int .i64 0, .int .i64 0, .string ByteArray.empty, .int .i64 0, .int .i64 0, .int .i64 0, .slice none 0 0, .slice none 0 0], .slice none 0 0, .slice none 0 0, .slice none 0 0] 8 (World.laidAll_os _ _ _)
      (World.shaped_of_ZipB (by kernel_rfl) (by kernel_rfl)) (by kernel_rfl) (x := ([.agg [.lit (.int .i64 0), .lit (.int .i64 0), .lit (.bool false), .agg [.lit (.int .i64 0), .lit (.int .i64 0), .lit (.string [])], .lit (.int .i64 0), .lit (.int .i64 0), .lit (.int .i64 0), .nil, .nil], .nil, .nil, .nil], [], [])) (by kernel_rfl) (by kernel_rfl) (by kernel_rfl) (by kernel_rfl)
      (by rw [MakeChecks.laidMetH_plain _ _ _ (by kernel_rfl)]; exact laidMet_laidAll _ (by kernel_rfl) (by kernel_rfl))) ?_
  intro W base args ds gs before hval0 hW hcnd0 hL hsh
  have hval : ∀ (j : Nat) t v, Tryd.f5.params[j]? = some t → args[j]? = some v → Value.okWide Tryd.prog W .any base t v := hval0
  have hW' := hW
  obtain ⟨p, q, hA0, hV, rfl, hfz, hnd⟩ := hW
  have hA : DataW.TrodAll enc Tryd.prog W 0 (fun _ => true) true Tryd.f5.params.toList args.toList ds p := hA0
  rw [Tryd.params5] at hA hval
  obtain ⟨v0, vs0, d0, ds0, p0, q0, hargs, rfl, rfl, h0, r0⟩ := trodAll_cons hA
  obtain ⟨v1, vs1, d1, ds1, p1, q1, rfl, rfl, rfl, h1, r1⟩ := trodAll_cons r0
  obtain ⟨v2, vs2, d2, ds2, p2, q2, rfl, rfl, rfl, h2, r2⟩ := trodAll_cons r1
  obtain ⟨v3, vs3, d3, ds3, p3, q3, rfl, rfl, rfl, h3, r3⟩ := trodAll_cons r2
  obtain ⟨rfl, rfl, rfl⟩ := trodAll_nil r3
  obtain rfl : args = #[v0, v1, v2, v3] := by cases args; simp_all
  obtain ⟨rfl, rfl⟩ := trodVars_none hV
  have hcnd : Rows.uptoBulkAll ([d0, d1, d2, d3] ++ []) ≤ 1048576 := of_decide_eq_true hcnd0
  rw [MakeChecks.laidMetH_plain _ _ _ (by kernel_rfl)] at hL
  have hT : Tabs W := Go.Proofs.utf8Tabs_of_readsT (ρ := Tryd.laysValid_ren) (Go.Proofs.U8Types.of196 Tryd.laysValid) u8x (Pinned.utf8First_eq ▸ laidMet.reads hL (.tail _ (.tail _ (.tail _ (.tail _ (.head _)))))) (laidMet.reads hL (.tail _ (.tail _ (.tail _ (.head _)))))
  have hP : Pow W := tabIs_of_reads (g := 2) (t := 123) (e := 60) (by kernel_rfl) (by kernel_rfl) Tryd.underlying123 Tryd.underlying60 (by kernel_rfl) (by kernel_rfl) (by kernel_rfl) (laidMet.reads hL (.tail _ (.tail _ (.head _))))
  have lt0 : ∀ x ∈ p0, x.block < W.heap.size := by obtain ⟨m, hm⟩ := h0; exact DataW.trod_lt m _ _ _ hm
  have k0 := h0
  have lt1 : ∀ x ∈ p1, x.block < W.heap.size := by obtain ⟨m, hm⟩ := h1; exact DataW.trod_lt m _ _ _ hm
  have k1 := h1
  have lt2 : ∀ x ∈ p2, x.block < W.heap.size := by obtain ⟨m, hm⟩ := h2; exact DataW.trod_lt m _ _ _ hm
  have k2 := h2
  have lt3 : ∀ x ∈ p3, x.block < W.heap.size := by obtain ⟨m, hm⟩ := h3; exact DataW.trod_lt m _ _ _ hm
  have k3 := h3
  have hbk0 : Rows.uptoBulk d0 ≤ 1048576 := Nat.le_trans (bulk_mem (by simp)) hcnd
  obtain ⟨x0, rfl, hx0, hc0, hcl0, hwf0⟩ := open_expr (hval 0 27 v0 rfl rfl) h0 hbk0
  have hbk1 : Rows.uptoBulk d1 ≤ 1048576 := Nat.le_trans (bulk_mem (by simp)) hcnd
  obtain ⟨env1, hE1, henv1, hnil1, hel1, her1⟩ := open_env (hval 1 28 v1 rfl rfl) h1
  obtain ⟨dr2, hdr2⟩ : ∃ ds : List Dt, DatS W v2 ds := by
    obtain ⟨qq, nn, cc, rfl⟩ := okWide_slice Tryd.underlying41 (hval 2 41 v2 rfl rfl)
    obtain ⟨fu, hf⟩ := h2
    obtain ⟨ds, hds, _⟩ := open_datrow Tryd.underlying41 hf
    exact ⟨ds, hds⟩
  obtain ⟨ds3l, hds3⟩ := open_datslice (hval 3 29 v3 rfl rfl) h3
  clear hA0 hval0
  refine (scopes_walk hx0 hwf0 hcl0 hc0 env1 v1 hE1 hnil1 henv1 (Nat.le_trans hel1 hbk1) (fun r hr => Nat.le_trans (her1 r hr) hbk1) dr2 v2 hdr2 ds3l v3 hds3 hT hP).mono fun e W' ⟨he, bel⟩ => ?_
  subst he
  exact ⟨_, rfl, _, _, _, [], _, [], hW', trodAll_mk1 (shut_bool Tryd.underlying4 _), (trodAll_cons_mk (Below.trod laidOut (by kernel_rfl) (of_decide_eq_true (by kernel_rfl)) k0 bel lt0) (trodAll_cons_mk (Below.trod laidOut (by kernel_rfl) (of_decide_eq_true (by kernel_rfl)) k1 bel lt1) (trodAll_cons_mk (Below.trod laidOut (by kernel_rfl) (of_decide_eq_true (by kernel_rfl)) k2 bel lt2) (trodAll_cons_mk (Below.trod laidOut (by kernel_rfl) (of_decide_eq_true (by kernel_rfl)) k3 bel lt3) trodAll_mk0)))), rfl, bel.frame _, fun h => by cases h⟩

theorem evalScopes_holds : Rows.EvalScopesUptoSaid :=
  OpenClaim.holds_of_cond 5 Tryd.f5 rfl rfl rfl rfl rfl rfl rfl ⟨rfl, rfl, rfl, rfl, rfl⟩ rfl rfl rfl rfl rfl (by kernel_rfl) Tryd.func5 (by kernel_rfl)
    (of_decide_eq_true (by kernel_rfl)) (by unfold Func.isWrapper; rw [if_neg (of_decide_eq_false (by kernel_rfl))]; exact ⟨rfl, rfl⟩)
    (fun os started H enc _ F0 => evalScopes_lifted os started H enc F0)
theorem evalScopes_card_holds : Rows.EvalScopesUptoCardSaid :=
  Claim7.holds_tied_plain_at .later [] [.data, .data, .data, .data, .pinned] true Rows.evalScopesUptoCard.stood.harness true evalScopes_holds (fun _ h => by cases h) (by kernel_rfl) (fun _ h => by cases h) evalScopesUpto_row_tie rfl ⟨rfl, rfl⟩ (by kernel_rfl) rfl
    (fun f fn hf hfn => by
      obtain rfl : f = 5 := Option.some.inj ((show Tryd.prog.funcNamed "freshet/freshetlaw07.EvalScopes" = some 5 by kernel_rfl).symm.trans hf) |>.symm
      obtain rfl : fn = Tryd.f5 := (Option.some.inj (Tryd.func5.symm.trans hfn)).symm
      exact ⟨by kernel_rfl, fun j t ht => by
        rw [Tryd.params5] at ht
        have hm : t ∈ [27, 28, 41, 29] := by simpa using Array.mem_of_getElem? ht
        have hall : ([27, 28, 41, 29].all fun u => !Tryd.prog.wantsStandIn u) = true := by kernel_rfl
        exact (show Tryd.prog.wantsStandIn t = false by simpa using List.all_eq_true.1 hall t hm)⟩)
    (by kernel_rfl)
end Go.Proofs.YtokbdleokihdaaaDoor

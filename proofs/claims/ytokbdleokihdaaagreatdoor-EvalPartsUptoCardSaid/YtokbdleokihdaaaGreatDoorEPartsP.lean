/- EvalParts holds: for every input of a bulk of at most 1048576 the law answers true, and the arguments read as before. Conditions: that bound on what comes in. -/
import Derived.Test.YtokbdleokihdaaaGreatDoorEParts
import Derived.Test.YtokbdleokihdaaaGreatDoorG28
import Derived.Test.YtokbdleokihdaaaGreatDoorCondAnd
import Derived.Test.YtokbdleokihdaaaGreatDoorShapedAnd
import Derived.ChangeOld
import Derived.JoinedCond
import Derived.Below
import Derived.ProofKit
import Derived.OpenShut
import Derived.ShutString
import Derived.Test.YtokbdleokihdaaaGreatDoorRows
import Derived.Test.YtokbdleokihdaaaGreatDoorCards
import Derived.Test.YtokbdleokihdaaaGreatDoorTie
import Derived.Lay
import Derived.SevenTiedAt
import Derived.PinnedBridge
import Derived.Lib.LaidU8T
namespace Go.Proofs.YtokbdleokihdaaaGreatDoor
open Go.ChangeShapes Go.WideShapes Go.ChangeAt Go.RowKit Go.Lib
open Go.ChangeMaps (open_string shut_string)

theorem u8x : Go.Proofs.U8Extra Tryz.prog Tryz.laysValid_ren := ⟨by kernel_rfl, by kernel_rfl, by kernel_rfl, by kernel_rfl, by kernel_rfl, by kernel_rfl, by kernel_rfl⟩

set_option maxRecDepth 100000 in
theorem evalParts_lifted (os : Os) (started : os.Started) (H : Type) (enc : TypeId × Value → H) (F0 : Stop.Interp) :
    ReturnsInHanded {} Tryz.checked os 3 .any (fun w args => ((Rows.OpenSpec.upto Rows.evalPartsSpec).pre enc Tryz.prog Tryz.f3 [] false w args ∧ laidMetH Tryz.prog Rows.evalPartsUptoRow.laid w) ∧ sizedMet enc Tryz.prog Tryz.f3 (Rows.OpenSpec.upto Rows.evalPartsSpec) false w args)
      (((Rows.OpenSpec.upto Rows.evalPartsSpec).at F0).post enc Tryz.prog Tryz.f3 false true false false) := by
  refine handed_cond_and (C := Tryz.checked) (s := Rows.OpenSpec.upto Rows.evalPartsSpec) (k := Rows.uptoSmall) rfl (X := fun w _ => laidMetH Tryz.prog Rows.evalPartsUptoRow.laid w) (fun _ _ _ hh h => h.of_heap hh) own started (by kernel_rfl) Tryz.func3
    (witness_cond (enc := enc) (C := Tryz.checked) (os := os) (s := Rows.OpenSpec.upto Rows.evalPartsSpec) (k := Rows.uptoSmall) rfl (X := fun w _ => laidMetH Tryz.prog Rows.evalPartsUptoRow.laid w) false (World.laidAll Tryz.prog os Rows.evalPartsUptoRow.laid) #[.int .i64 0, .slice none 0 0, .slice none 0 0] 8 (World.laidAll_os _ _ _)
      (World.shaped_of_ZipB (by kernel_rfl) (by kernel_rfl)) (by kernel_rfl) (x := ([.lit (.int .i64 0), .nil, .nil], [], [])) (by kernel_rfl) (by kernel_rfl) (by kernel_rfl) (by kernel_rfl)
      (by rw [MakeChecks.laidMetH_plain _ _ _ (by kernel_rfl)]; exact laidMet_laidAll _ (by kernel_rfl) (by kernel_rfl))) ?_
  intro W base args ds gs before hval0 hW hcnd0 hL hsh
  have hval : ∀ (j : Nat) t v, Tryz.f3.params[j]? = some t → args[j]? = some v → Value.okWide Tryz.prog W .any base t v := hval0
  have hW' := hW
  obtain ⟨p, q, hA0, hV, rfl, hfz, hnd⟩ := hW
  have hA : DataW.TrodAll enc Tryz.prog W 0 (fun _ => true) true Tryz.f3.params.toList args.toList ds p := hA0
  rw [Tryz.params3] at hA hval
  obtain ⟨v0, vs0, d0, ds0, p0, q0, hargs, rfl, rfl, h0, r0⟩ := trodAll_cons hA
  obtain ⟨v1, vs1, d1, ds1, p1, q1, rfl, rfl, rfl, h1, r1⟩ := trodAll_cons r0
  obtain ⟨v2, vs2, d2, ds2, p2, q2, rfl, rfl, rfl, h2, r2⟩ := trodAll_cons r1
  obtain ⟨rfl, rfl, rfl⟩ := trodAll_nil r2
  obtain rfl : args = #[v0, v1, v2] := by cases args; simp_all
  obtain ⟨rfl, rfl⟩ := trodVars_none hV
  have hcnd : Rows.uptoBulkAll ([d0, d1, d2] ++ []) ≤ 1048576 := of_decide_eq_true hcnd0
  rw [MakeChecks.laidMetH_plain _ _ _ (by kernel_rfl)] at hL
  have hT : Tabs W := Go.Proofs.utf8Tabs_of_readsT (ρ := Tryz.laysValid_ren) (Go.Proofs.U8Types.of196 Tryz.laysValid) u8x (Pinned.utf8First_eq ▸ laidMet.reads hL (.tail _ (.tail _ (.tail _ (.tail _ (.head _)))))) (laidMet.reads hL (.tail _ (.tail _ (.tail _ (.head _)))))
  have hP : Pow W := tabIs_of_reads (g := 2) (t := 111) (e := 51) (by kernel_rfl) (by kernel_rfl) Tryz.underlying111 Tryz.underlying51 (by kernel_rfl) (by kernel_rfl) (by kernel_rfl) (laidMet.reads hL (.tail _ (.tail _ (.head _))))
  have lt0 : ∀ x ∈ p0, x.block < W.heap.size := by obtain ⟨m, hm⟩ := h0; exact DataW.trod_lt m _ _ _ hm
  have k0 := h0
  have lt1 : ∀ x ∈ p1, x.block < W.heap.size := by obtain ⟨m, hm⟩ := h1; exact DataW.trod_lt m _ _ _ hm
  have k1 := h1
  have lt2 : ∀ x ∈ p2, x.block < W.heap.size := by obtain ⟨m, hm⟩ := h2; exact DataW.trod_lt m _ _ _ hm
  have k2 := h2
  obtain ⟨x0, rfl, _, _, wx0⟩ := open_int Tryz.underlying3 (hval 0 3 v0 rfl rfl) h0
  have hbk1 : Rows.uptoBulk d1 ≤ 1048576 := Nat.le_trans (bulk_mem (by simp)) hcnd
  obtain ⟨q1, cp1, kids1, rfl, hlc1, hcm1, hkk1, hat1⟩ := open_exprs (hval 1 22 v1 rfl rfl) h1 hbk1
  have hbk2 : Rows.uptoBulk d2 ≤ 1048576 := Nat.le_trans (bulk_mem (by simp)) hcnd
  obtain ⟨env2, hE2, henv2, hnil2, hel2, her2⟩ := open_env (hval 2 23 v2 rfl rfl) h2
  clear hA0 hval0
  refine (parts_walk x0 q1 cp1 kids1 (fun o' => .mk (kids := kids1) q1 cp1 none 0 0 hlc1 hcm1 hkk1 (by decide) (fun x hx => (hat1 x hx).1)) hkk1 (fun x hx => (hat1 x hx).1) hlc1 hcm1 (fun x hx => (hat1 x hx).2) env2 v2 hE2 henv2 hT hP).mono fun e W' ⟨he, bel⟩ => ?_
  subst he
  exact ⟨_, rfl, _, _, _, [], _, [], hW', trodAll_mk1 (shut_bool Tryz.underlying4 _), (trodAll_cons_mk (Below.trod laidOut (by kernel_rfl) (of_decide_eq_true (by kernel_rfl)) k0 bel lt0) (trodAll_cons_mk (Below.trod laidOut (by kernel_rfl) (of_decide_eq_true (by kernel_rfl)) k1 bel lt1) (trodAll_cons_mk (Below.trod laidOut (by kernel_rfl) (of_decide_eq_true (by kernel_rfl)) k2 bel lt2) trodAll_mk0))), rfl, bel.frame _, fun h => by cases h⟩

theorem evalParts_holds : Rows.EvalPartsUptoSaid :=
  OpenClaim.holds_of_cond 3 Tryz.f3 rfl rfl rfl rfl rfl rfl rfl ⟨rfl, rfl, rfl, rfl, rfl⟩ rfl rfl rfl rfl rfl (by kernel_rfl) Tryz.func3 (by kernel_rfl)
    (of_decide_eq_true (by kernel_rfl)) (by unfold Func.isWrapper; rw [if_neg (of_decide_eq_false (by kernel_rfl))]; exact ⟨rfl, rfl⟩)
    (fun os started H enc _ F0 => evalParts_lifted os started H enc F0)
theorem evalParts_card_holds : Rows.EvalPartsUptoCardSaid :=
  Claim7.holds_tied_plain_at .later [] [.data, .data, .data, .data, .pinned] true Rows.evalPartsUptoCard.stood.harness true evalParts_holds (fun _ h => by cases h) (by kernel_rfl) (fun _ h => by cases h) evalPartsUpto_row_tie rfl ⟨rfl, rfl⟩ (by kernel_rfl) rfl
    (fun f fn hf hfn => by
      obtain rfl : f = 3 := Option.some.inj ((show Tryz.prog.funcNamed "freshet/freshetlaw07.EvalParts" = some 3 by kernel_rfl).symm.trans hf) |>.symm
      obtain rfl : fn = Tryz.f3 := (Option.some.inj (Tryz.func3.symm.trans hfn)).symm
      exact ⟨by kernel_rfl, fun j t ht => by
        rw [Tryz.params3] at ht
        have hm : t ∈ [3, 22, 23] := by simpa using Array.mem_of_getElem? ht
        have hall : ([3, 22, 23].all fun u => !Tryz.prog.wantsStandIn u) = true := by kernel_rfl
        exact (show Tryz.prog.wantsStandIn t = false by simpa using List.all_eq_true.1 hall t hm)⟩)
    (by kernel_rfl)
end Go.Proofs.YtokbdleokihdaaaGreatDoor

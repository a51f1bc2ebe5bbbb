/- DatumSums holds: for every input the law answers true, and the arguments read as before. Conditions: none. -/
import Derived.Test.YtidejjjedpdbeaaDoorSumLaw
import Derived.Test.YtidejjjedpdbeaaDoorOpen
import Derived.ChangeOld
import Derived.Below
import Derived.ProofKit
import Derived.OpenShut
import Derived.ShutString
import Derived.Test.YtidejjjedpdbeaaDoorRows
import Derived.Test.YtidejjjedpdbeaaDoorCards
import Derived.Test.YtidejjjedpdbeaaDoorTie
import Derived.Lay
import Derived.SevenTiedAt
import Derived.PinnedBridge
import Derived.Lib.LaidU8T
namespace Go.Proofs.YtidejjjedpdbeaaDoor
open Go.ChangeShapes Go.WideShapes Go.ChangeAt Go.RowKit Go.Lib
open Go.ChangeMaps (open_string shut_string)

theorem u8x : Go.Proofs.U8Extra Tryd.prog Tryd.laysValid_ren := ⟨by kernel_rfl, by kernel_rfl, by kernel_rfl, by kernel_rfl, by kernel_rfl, by kernel_rfl, by kernel_rfl⟩

set_option maxRecDepth 100000 in
theorem datumSums_lifted (os : Os) (started : os.Started) (H : Type) (enc : TypeId × Value → H) :
    ReturnsInHanded {} Tryd.checked os 6 .any (fun w args => (Rows.datumSumsSpec.pre enc Tryd.prog Tryd.f6 [] false w args ∧ laidMetH Tryd.prog Rows.datumSumsRow.laid w) ∧ sizedMet enc Tryd.prog Tryd.f6 (OpenSpec.ofChange Rows.datumSumsSpec) false w args)
      (Rows.datumSumsSpec.post enc Tryd.prog Tryd.f6 false true false false) := by
  refine returnsInHanded_of_change_and (C := Tryd.checked) (X := fun w _ => laidMetH Tryd.prog Rows.datumSumsRow.laid w) (fun _ _ _ hh h => h.of_heap hh) own started (by kernel_rfl) Tryd.func6
    (ChangeSpec.witness_shaped (enc := enc) (C := Tryd.checked) (os := os) (X := fun w _ => laidMetH Tryd.prog Rows.datumSumsRow.laid w) false (World.laidAll Tryd.prog os Rows.datumSumsRow.laid) #[.agg #[.int .i64 0, .int .i64 0, .string ByteArray.empty], .agg #[.int .i64 0, .int .i64 0, .string ByteArray.empty]] 8 (World.laidAll_os _ _ _)
      (World.shaped_of_ZipB (by kernel_rfl) (by kernel_rfl)) (by kernel_rfl) (by kernel_rfl) (by kernel_rfl)
      (by rw [MakeChecks.laidMetH_plain _ _ _ (by kernel_rfl)]; exact laidMet_laidAll _ (by kernel_rfl) (by kernel_rfl))) ?_
  intro W base args ds gs before hval0 hW _ _ hL hsz
  have hval : ∀ (j : Nat) t v, Tryd.f6.params[j]? = some t → args[j]? = some v → Value.okWide Tryd.prog W .any base t v := hval0
  have hW' := hW
  obtain ⟨p, q, hA0, hV, rfl, hfz, hnd⟩ := hW
  have hA : DataW.TrodAll enc Tryd.prog W 0 (fun _ => true) true Tryd.f6.params.toList args.toList ds p := hA0
  rw [Tryd.params6] at hA hval
  obtain ⟨v0, vs0, d0, ds0, p0, q0, hargs, rfl, rfl, h0, r0⟩ := trodAll_cons hA
  obtain ⟨v1, vs1, d1, ds1, p1, q1, rfl, rfl, rfl, h1, r1⟩ := trodAll_cons r0
  obtain ⟨rfl, rfl, rfl⟩ := trodAll_nil r1
  obtain rfl : args = #[v0, v1] := by cases args; simp_all
  obtain ⟨rfl, rfl⟩ := trodVars_none hV
  rw [MakeChecks.laidMetH_plain _ _ _ (by kernel_rfl)] at hL
  have hT : Tabs W := Go.Proofs.utf8Tabs_of_readsT (ρ := Tryd.laysValid_ren) (Go.Proofs.U8Types.of196 Tryd.laysValid) u8x (Pinned.utf8First_eq ▸ laidMet.reads hL (.tail _ (.head _))) (laidMet.reads hL (.head _))
  have lt0 : ∀ x ∈ p0, x.block < W.heap.size := by obtain ⟨m, hm⟩ := h0; exact DataW.trod_lt m _ _ _ hm
  have k0 := h0
  have lt1 : ∀ x ∈ p1, x.block < W.heap.size := by obtain ⟨m, hm⟩ := h1; exact DataW.trod_lt m _ _ _ hm
  have k1 := h1
  obtain ⟨k0k, i0, s0, rfl, _, _, wk0, wi0, ws0⟩ := open_dat (hval 0 24 v0 rfl rfl) h0
  obtain ⟨k1k, i1, s1, rfl, _, _, wk1, wi1, ws1⟩ := open_dat (hval 1 24 v1 rfl rfl) h1
  clear hA0 hval0
  refine (sums_walk k0k i0 k1k i1 s0 s1 W hT (bounds_i64 wi0).1 (Int.lt_of_le_of_lt (bounds_i64 wi0).2 (by decide)) (bounds_i64 wi1).1 (Int.lt_of_le_of_lt (bounds_i64 wi1).2 (by decide))).mono fun e W' ⟨he, bel⟩ => ?_
  subst he
  exact ⟨_, rfl, _, _, _, [], _, [], hW', trodAll_mk1 (shut_bool Tryd.underlying4 _), (trodAll_cons_mk (Below.trod laidOut (by kernel_rfl) (of_decide_eq_true (by kernel_rfl)) k0 bel lt0) (trodAll_cons_mk (Below.trod laidOut (by kernel_rfl) (of_decide_eq_true (by kernel_rfl)) k1 bel lt1) trodAll_mk0)), rfl, bel.frame _, fun h => by cases h⟩

theorem datumSums_holds : Rows.DatumSumsSaid :=
  OpenClaim.holds_of_wide 6 Tryd.f6 rfl rfl rfl rfl rfl rfl rfl ⟨rfl, rfl, rfl, rfl, rfl⟩ rfl rfl rfl rfl rfl (by kernel_rfl) Tryd.func6 (by kernel_rfl)
    (of_decide_eq_true (by kernel_rfl)) (by unfold Func.isWrapper; rw [if_neg (of_decide_eq_false (by kernel_rfl))]; exact ⟨rfl, rfl⟩)
    (fun os started H enc _ => datumSums_lifted os started H enc)
theorem datumSums_card_holds : Rows.DatumSumsCardSaid :=
  Claim7.holds_tied_plain_at .later [] [.data, .pinned] true Rows.datumSumsCard.stood.harness false datumSums_holds (fun _ h => by cases h) (by kernel_rfl) (fun _ h => by cases h) datumSums_row_tie rfl ⟨rfl, rfl⟩ (by kernel_rfl) rfl
    (fun f fn hf hfn => by
      obtain rfl : f = 6 := Option.some.inj ((show Tryd.prog.funcNamed "freshet/freshetlaw01.DatumSums" = some 6 by kernel_rfl).symm.trans hf) |>.symm
      obtain rfl : fn = Tryd.f6 := (Option.some.inj (Tryd.func6.symm.trans hfn)).symm
      exact ⟨by kernel_rfl, fun j t ht => by
        rw [Tryd.params6] at ht
        have hm : t ∈ [24, 24] := by simpa using Array.mem_of_getElem? ht
        have hall : ([24, 24].all fun u => !Tryd.prog.wantsStandIn u) = true := by kernel_rfl
        exact (show Tryd.prog.wantsStandIn t = false by simpa using List.all_eq_true.1 hall t hm)⟩)
    (by kernel_rfl)
end Go.Proofs.YtidejjjedpdbeaaDoor

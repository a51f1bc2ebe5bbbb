/- EvalLazy holds: for every input of a bulk of at most 1048576 the law answers true, and the arguments read as before. Conditions: that bound on what comes in. -/
import Derived.Test.YtokbdleokihdaaaDoorELazy
import Derived.Test.YtokbdleokihdaaaDoorEvY
import Derived.Test.YtokbdleokihdaaaDoorCondAnd
import Derived.ChangeOld
import Derived.JoinedCond
import Derived.Below
import Derived.ProofKit
import Derived.OpenShut
import Derived.ShutString
import Derived.Test.YtokbdleokihdaaaDoorRows
import Derived.Test.YtokbdleokihdaaaDoorCards
import Derived.Test.YtokbdleokihdaaaDoorTie
import Derived.Lay
import Derived.SevenTiedAt
import Derived.PinnedBridge
import Derived.Lib.LaidU8T
namespace Go.Proofs.YtokbdleokihdaaaDoor
open Go.ChangeShapes Go.WideShapes Go.ChangeAt Go.RowKit Go.Lib
open Go.ChangeMaps (open_string shut_string)

theorem u8x : Go.Proofs.U8Extra Tryd.prog Tryd.laysValid_ren := ⟨by kernel_rfl, by kernel_rfl, by kernel_rfl, by kernel_rfl, by kernel_rfl, by kernel_rfl, by kernel_rfl⟩
set_option maxRecDepth 100000 in
theorem lazy_all {w : World} {bad : Ex} (hx : ExAt w bad) (k i : Int) (s : ByteArray) (hi : -9223372036854775808 ≤ i ∧ i ≤ 9223372036854775807) (hT : Tabs w) (hcnt : bad.cnt ≤ 1000000000) :
    Calls Tryd.prog 4 #[bad.v, .agg #[.int .i64 k, .int .i64 i, .string s]] w fun e w' => e = .returned (.bool true) ∧ Below w.heap.size w w' := by
  cases h : bad.right []
  · exact lazy_noright hx k i s h
  · by_cases h2 : bad.cnt = 0
    · cases h3 : rightD ⟨k, i, s⟩
      · exact lazy_nod hx k i s hcnt h h2 h3
      · by_cases h4 : k = 0
        · subst h4
          exact lazy_null hx 0 i s hcnt h h2 h3 rfl
        · exact lazy_main hx k i s hi hT hcnt h h2 h3 h4
    · exact lazy_subs hx k i s hcnt h h2


set_option maxRecDepth 100000 in
theorem evalLazy_lifted (os : Os) (started : os.Started) (H : Type) (enc : TypeId × Value → H) (F0 : Stop.Interp) :
    ReturnsInHanded {} Tryd.checked os 4 .any (fun w args => ((Rows.OpenSpec.upto Rows.evalLazySpec).pre enc Tryd.prog Tryd.f4 [] false w args ∧ laidMetH Tryd.prog Rows.evalLazyUptoRow.laid w) ∧ sizedMet enc Tryd.prog Tryd.f4 (Rows.OpenSpec.upto Rows.evalLazySpec) false w args)
      (((Rows.OpenSpec.upto Rows.evalLazySpec).at F0).post enc Tryd.prog Tryd.f4 false true false false) := by
  refine handed_cond_and (C := Tryd.checked) (s := Rows.OpenSpec.upto Rows.evalLazySpec) (k := Rows.uptoSmall) rfl (X := fun w _ => laidMetH Tryd.prog Rows.evalLazyUptoRow.laid w) (fun _ _ _ hh h => h.of_heap hh) own started (by kernel_rfl) Tryd.func4
    (witness_cond (enc := enc) (C := Tryd.checked) (os := os) (s := Rows.OpenSpec.upto Rows.evalLazySpec) (k := Rows.uptoSmall) rfl (X := fun w _ => laidMetH Tryd.prog Rows.evalLazyUptoRow.laid w) false (World.laidAll Tryd.prog os Rows.evalLazyUptoRow.laid) #[.agg #[.int .i64 0, .int .i64 0, .bool false, .int .i64 0, .int .i64 0, .string ByteArray.empty, .int .i64 0, .int .i64 0, .int .i64 0, .slice none 0 0, .slice none 0 0], .agg #[.int .i64 0, .int .i64 0, .string ByteArray.empty]] 8 (World.laidAll_os _ _ _)
      (World.shaped_of_ZipB (by kernel_rfl) (by kernel_rfl)) (by kernel_rfl) (x := ([.agg [.lit (.int .i64 0), .lit (.int .i64 0), .lit (.bool false), .agg [.lit (.int .i64 0), .lit (.int .i64 0), .lit (.string [])], .lit (.int .i64 0), .lit (.int .i64 0), .lit (.int .i64 0), .nil, .nil], .agg [.lit (.int .i64 0), .lit (.int .i64 0), .lit (.string [])]], [], [])) (by kernel_rfl) (by kernel_rfl) (by kernel_rfl) (by kernel_rfl)
      (by rw [MakeChecks.laidMetH_plain _ _ _ (by kernel_rfl)]; exact laidMet_laidAll _ (by kernel_rfl) (by kernel_rfl))) ?_
  intro W base args ds gs before hval0 hW hcnd0 hL hsh
  have hval : ∀ (j : Nat) t v, Tryd.f4.params[j]? = some t → args[j]? = some v → Value.okWide Tryd.prog W .any base t v := hval0
  have hW' := hW
  obtain ⟨p, q, hA0, hV, rfl, hfz, hnd⟩ := hW
  have hA : DataW.TrodAll enc Tryd.prog W 0 (fun _ => true) true Tryd.f4.params.toList args.toList ds p := hA0
  rw [Tryd.params4] at hA hval
  obtain ⟨v0, vs0, d0, ds0, p0, q0, hargs, rfl, rfl, h0, r0⟩ := trodAll_cons hA
  obtain ⟨v1, vs1, d1, ds1, p1, q1, rfl, rfl, rfl, h1, r1⟩ := trodAll_cons r0
  obtain ⟨rfl, rfl, rfl⟩ := trodAll_nil r1
  obtain rfl : args = #[v0, v1] := by cases args; simp_all
  obtain ⟨rfl, rfl⟩ := trodVars_none hV
  have hcnd : Rows.uptoBulkAll ([d0, d1] ++ []) ≤ 1048576 := of_decide_eq_true hcnd0
  rw [MakeChecks.laidMetH_plain _ _ _ (by kernel_rfl)] at hL
  have hT : Tabs W := Go.Proofs.utf8Tabs_of_readsT (ρ := Tryd.laysValid_ren) (Go.Proofs.U8Types.of196 Tryd.laysValid) u8x (Pinned.utf8First_eq ▸ laidMet.reads hL (.tail _ (.head _))) (laidMet.reads hL (.head _))
  have lt0 : ∀ x ∈ p0, x.block < W.heap.size := by obtain ⟨m, hm⟩ := h0; exact DataW.trod_lt m _ _ _ hm
  have k0 := h0
  have lt1 : ∀ x ∈ p1, x.block < W.heap.size := by obtain ⟨m, hm⟩ := h1; exact DataW.trod_lt m _ _ _ hm
  have k1 := h1
  have hbk0 : Rows.uptoBulk d0 ≤ 1048576 := Nat.le_trans (bulk_mem (by simp)) hcnd
  obtain ⟨x0, rfl, hx0, hc0⟩ := open_expr (hval 0 27 v0 rfl rfl) h0 hbk0
  obtain ⟨k1k, i1, s1, rfl, _, _, wk1, wi1, ws1⟩ := open_dat (hval 1 23 v1 rfl rfl) h1
  clear hA0 hval0
  refine (lazy_all hx0 k1k i1 s1 ⟨(bounds_i64 wi1).1, (bounds_i64 wi1).2⟩ hT hc0).mono fun e W' ⟨he, bel⟩ => ?_
  subst he
  exact ⟨_, rfl, _, _, _, [], _, [], hW', trodAll_mk1 (shut_bool Tryd.underlying4 _), (trodAll_cons_mk (Below.trod laidOut (by kernel_rfl) (of_decide_eq_true (by kernel_rfl)) k0 bel lt0) (trodAll_cons_mk (Below.trod laidOut (by kernel_rfl) (of_decide_eq_true (by kernel_rfl)) k1 bel lt1) trodAll_mk0)), rfl, bel.frame _, fun h => by cases h⟩

theorem evalLazy_holds : Rows.EvalLazyUptoSaid :=
  OpenClaim.holds_of_cond 4 Tryd.f4 rfl rfl rfl rfl rfl rfl rfl ⟨rfl, rfl, rfl, rfl, rfl⟩ rfl rfl rfl rfl rfl (by kernel_rfl) Tryd.func4 (by kernel_rfl)
    (of_decide_eq_true (by kernel_rfl)) (by unfold Func.isWrapper; rw [if_neg (of_decide_eq_false (by kernel_rfl))]; exact ⟨rfl, rfl⟩)
    (fun os started H enc _ F0 => evalLazy_lifted os started H enc F0)
theorem evalLazy_card_holds : Rows.EvalLazyUptoCardSaid :=
  Claim7.holds_tied_plain_at .later [] [.data, .pinned] true Rows.evalLazyUptoCard.stood.harness true evalLazy_holds (fun _ h => by cases h) (by kernel_rfl) (fun _ h => by cases h) evalLazyUpto_row_tie rfl ⟨rfl, rfl⟩ (by kernel_rfl) rfl
    (fun f fn hf hfn => by
      obtain rfl : f = 4 := Option.some.inj ((show Tryd.prog.funcNamed "freshet/freshetlaw07.EvalLazy" = some 4 by kernel_rfl).symm.trans hf) |>.symm
      obtain rfl : fn = Tryd.f4 := (Option.some.inj (Tryd.func4.symm.trans hfn)).symm
      exact ⟨by kernel_rfl, fun j t ht => by
        rw [Tryd.params4] at ht
        have hm : t ∈ [27, 23] := by simpa using Array.mem_of_getElem? ht
        have hall : ([27, 23].all fun u => !Tryd.prog.wantsStandIn u) = true := by kernel_rfl
        exact (show Tryd.prog.wantsStandIn t = false by simpa using List.all_eq_true.1 hall t hm)⟩)
    (by kernel_rfl)
end Go.Proofs.YtokbdleokihdaaaDoor

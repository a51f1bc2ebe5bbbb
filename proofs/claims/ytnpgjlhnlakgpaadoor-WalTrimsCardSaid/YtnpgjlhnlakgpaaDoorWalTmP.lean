/- WalTrims holds: for every input the law answers true, and the arguments read as before. Conditions: none. -/
import Derived.Test.YtnpgjlhnlakgpaaDoorWalTm
import Derived.SliceStrings
import Derived.Test.YtnpgjlhnlakgpaaDoorShapedAnd
import Derived.ChangeOld
import Derived.Below
import Derived.ProofKit
import Derived.OpenShut
import Derived.ShutString
import Derived.SizedLaws
import Derived.Test.YtnpgjlhnlakgpaaDoorRows
import Derived.Test.YtnpgjlhnlakgpaaDoorCards
import Derived.Test.YtnpgjlhnlakgpaaDoorTie
import Derived.Lay
import Derived.SevenTiedAt
import Derived.PinnedBridge
import Derived.Lib.LaidU8T
namespace Go.Proofs.YtnpgjlhnlakgpaaDoor
open Go.ChangeShapes Go.WideShapes Go.ChangeAt Go.RowKit Go.Lib
open Go.ChangeMaps (open_string shut_string)

theorem own : ownKnob Tryd.prog.godebug = none := by kernel_rfl
theorem laidOut : laidOutB Tryd.prog = true := by kernel_rfl

set_option maxRecDepth 100000 in
/-- The texts that come in: their cells. -/
theorem open_strs {H : Type} {enc : TypeId × Value → H} {W : World} {b0 : Nat} {v : Value} {d : DataW H} {p : List MemPlace} (hv : Value.okWide Tryd.prog W .any b0 43 v) (h : DataW.Trod enc Tryd.prog W 0 (fun _ => true) true 43 v d p) :
    ∃ L, TxtC W v L := by
  obtain ⟨qq, nn, cc, rfl⟩ := okWide_slice Tryd.underlying43 hv
  obtain ⟨n, h⟩ := h
  rcases open_strings Tryd.underlying43 Tryd.underlying9 (by kernel_rfl) h with ⟨hcs, _⟩ | ⟨a, len, cap, zs, hcs, _, hl, hm, hz, _, hc, hw⟩
  · have hcs' := (List.cons.inj (show [Value.slice qq nn cc] = [.slice none 0 0] from hcs)).1
    rw [hcs']
    exact ⟨[], none, 0, rfl, by simp, .inl rfl⟩
  · have hcs' := (List.cons.inj (show [Value.slice qq nn cc] = [.slice (some a) len cap] from hcs)).1
    rw [hcs']
    simp only [if_true] at hz
    have hlen : ((zs.take len).map fun s => s.data.toList).length = len := by rw [List.length_map, List.length_take]; omega
    refine ⟨(zs.take len).map fun s => s.data.toList, some a, cap, by rw [hlen], by omega, ?_⟩
    by_cases h0 : len = 0
    · subst h0; exact .inl (by simp)
    · right
      have hc0 := hc 0 (by omega)
      have hspot := World.cell?_spot hc0
      obtain ⟨g, o, sp⟩ := a
      have hsp : sp = none := by simpa [Addr.add] using hspot
      subst hsp
      have hadd : ∀ j, (⟨g, o, none⟩ : Addr).add j = ⟨g, o + j, none⟩ := fun j => by unfold Addr.add; split <;> simp_all
      refine ⟨g, o, rfl, fun j x hj => ?_⟩
      rw [List.getElem?_map] at hj
      obtain ⟨s, hs, rfl⟩ := Option.map_eq_some_iff.1 hj
      have hjl : j < len := by
        have := (List.getElem?_eq_some_iff.1 hs).1
        rw [List.length_take] at this
        omega
      have := hc j (by omega)
      rw [hadd] at this
      rw [this]
      rw [List.getElem?_take_of_lt hjl] at hs
      simp [List.getD_eq_getElem?_getD, hs, bs]

set_option maxRecDepth 100000 in
/-- The numbers that come in: their cells. -/
theorem open_nums {H : Type} {enc : TypeId × Value → H} {W : World} {b0 : Nat} {v : Value} {d : DataW H} {p : List MemPlace} (hv : Value.okWide Tryd.prog W .any b0 36 v) (h : DataW.Trod enc Tryd.prog W 0 (fun _ => true) true 36 v d p) :
    ∃ xs, NumsW W v xs ∧ ∀ x ∈ xs, -9223372036854775808 ≤ x ∧ x ≤ 9223372036854775807 := by
  obtain ⟨qq, nn, cc, rfl⟩ := okWide_slice Tryd.underlying36 hv
  obtain ⟨n, h⟩ := h
  rcases open_ints Tryd.underlying36 Tryd.underlying3 (by kernel_rfl) h with ⟨hcs, _⟩ | ⟨a, len, cap, zs, hcs, _, hl, hm, hz, _, hc, hw⟩
  · have hcs' := (List.cons.inj (show [Value.slice qq nn cc] = [.slice none 0 0] from hcs)).1
    rw [hcs']
    exact ⟨[], ⟨none, 0, rfl, .inl rfl⟩, by simp⟩
  · have hcs' := (List.cons.inj (show [Value.slice qq nn cc] = [.slice (some a) len cap] from hcs)).1
    rw [hcs']
    simp only [if_true] at hz
    have hlen : (zs.take len).length = len := by rw [List.length_take]; omega
    refine ⟨zs.take len, ⟨some a, cap, by rw [hlen], ?_⟩, fun x hx => bounds_i64 (hw x (List.mem_of_mem_take hx))⟩
    by_cases h0 : len = 0
    · subst h0; exact .inl (by simp)
    · right
      have hc0 := hc 0 (by omega)
      have hspot := World.cell?_spot hc0
      obtain ⟨g, o, sp⟩ := a
      have hsp : sp = none := by simpa [Addr.add] using hspot
      subst hsp
      have hadd : ∀ j, (⟨g, o, none⟩ : Addr).add j = ⟨g, o + j, none⟩ := fun j => by unfold Addr.add; split <;> simp_all
      refine ⟨g, o, rfl, fun j x hj => ?_⟩
      have hjl : j < len := by
        have := (List.getElem?_eq_some_iff.1 hj).1
        omega
      have := hc j (by omega)
      rw [hadd] at this
      rw [this]
      rw [List.getElem?_take_of_lt hjl] at hj
      simp [List.getD_eq_getElem?_getD, hj]

set_option maxRecDepth 100000 in
theorem walTrims_lifted (os : Os) (started : os.Started) (H : Type) (enc : TypeId × Value → H) :
    ReturnsInHanded {} Tryd.checked os 12 .any (fun w args => (Rows.walTrimsSpec.pre enc Tryd.prog Tryd.f12 [] false w args ∧ laidMetH Tryd.prog Rows.walTrimsRow.laid w) ∧ sizedMet enc Tryd.prog Tryd.f12 (OpenSpec.ofChange Rows.walTrimsSpec) false w args)
      (Rows.walTrimsSpec.post enc Tryd.prog Tryd.f12 false true false false) := by
  refine returnsInHanded_of_change_and (C := Tryd.checked) (X := fun w _ => laidMetH Tryd.prog Rows.walTrimsRow.laid w) (fun _ _ _ hh h => h.of_heap hh) own started (by kernel_rfl) Tryd.func12
    (ChangeSpec.witness_shaped (enc := enc) (C := Tryd.checked) (os := os) (X := fun w _ => laidMetH Tryd.prog Rows.walTrimsRow.laid w) false (World.laidAll Tryd.prog os Rows.walTrimsRow.laid) #[.int .i64 0, .slice none 0 0, .slice none 0 0] 8 (World.laidAll_os _ _ _)
      (World.shaped_of_ZipB (by kernel_rfl) (by kernel_rfl)) (by kernel_rfl) (by kernel_rfl) (by kernel_rfl)
      (by rw [MakeChecks.laidMetH_plain _ _ _ (by kernel_rfl)]; exact laidMet_laidAll _ (by kernel_rfl) (by kernel_rfl))) ?_
  intro W base args ds gs before hval0 hW _ _ hL _
  have hval : ∀ (j : Nat) t v, Tryd.f12.params[j]? = some t → args[j]? = some v → Value.okWide Tryd.prog W .any base t v := hval0
  have hW' := hW
  obtain ⟨p, q, hA0, hV, rfl, hfz, hnd⟩ := hW
  have hA : DataW.TrodAll enc Tryd.prog W 0 (fun _ => true) true Tryd.f12.params.toList args.toList ds p := hA0
  rw [Tryd.params12] at hA hval
  obtain ⟨v0, vs0, d0, ds0, p0, q0, hargs, rfl, rfl, h0, r0⟩ := trodAll_cons hA
  obtain ⟨v1, vs1, d1, ds1, p1, q1, rfl, rfl, rfl, h1, r1⟩ := trodAll_cons r0
  obtain ⟨v2, vs2, d2, ds2, p2, q2, rfl, rfl, rfl, h2, r2⟩ := trodAll_cons r1
  obtain ⟨rfl, rfl, rfl⟩ := trodAll_nil r2
  obtain rfl : args = #[v0, v1, v2] := by cases args; simp_all
  obtain ⟨rfl, rfl⟩ := trodVars_none hV
  rw [MakeChecks.laidMetH_plain _ _ _ (by kernel_rfl)] at hL
  have hP : Pow W := tabIs_of_reads (g := 3) (t := 208) (e := 98) (by kernel_rfl) (by kernel_rfl) Tryd.underlying208 Tryd.underlying98 (by kernel_rfl) (by kernel_rfl) (by kernel_rfl) (laidMet.reads hL (.tail _ (.tail _ (.head _))))
  have lt0 : ∀ x ∈ p0, x.block < W.heap.size := by obtain ⟨m, hm⟩ := h0; exact DataW.trod_lt m _ _ _ hm
  have k0 := h0
  have lt1 : ∀ x ∈ p1, x.block < W.heap.size := by obtain ⟨m, hm⟩ := h1; exact DataW.trod_lt m _ _ _ hm
  have k1 := h1
  have lt2 : ∀ x ∈ p2, x.block < W.heap.size := by obtain ⟨m, hm⟩ := h2; exact DataW.trod_lt m _ _ _ hm
  have k2 := h2
  obtain ⟨i0, rfl, rfl, _, wi0⟩ := open_int Tryd.underlying3 (hval 0 3 v0 rfl rfl) h0
  obtain ⟨L1, hL1⟩ := open_strs (hval 1 43 v1 rfl rfl) h1
  obtain ⟨xs2, hxs2, hxb2⟩ := open_nums (hval 2 36 v2 rfl rfl) h2
  clear hA0 hval0
  refine (trims_walk i0 v1 L1 v2 xs2 W hP hL1 hxs2 (bounds_i64 wi0).1 (bounds_i64 wi0).2 hxb2).mono fun e W' ⟨he, bel⟩ => ?_
  subst he
  exact ⟨_, rfl, _, _, _, [], _, [], hW', trodAll_mk1 (shut_bool Tryd.underlying4 _), (trodAll_cons_mk (Below.trod laidOut (by kernel_rfl) (of_decide_eq_true (by kernel_rfl)) k0 bel lt0) (trodAll_cons_mk (Below.trod laidOut (by kernel_rfl) (of_decide_eq_true (by kernel_rfl)) k1 bel lt1) (trodAll_cons_mk (Below.trod laidOut (by kernel_rfl) (of_decide_eq_true (by kernel_rfl)) k2 bel lt2) trodAll_mk0))), rfl, bel.frame _, fun h => by cases h⟩

theorem walTrims_holds : Rows.WalTrimsSaid :=
  OpenClaim.holds_of_wide 12 Tryd.f12 rfl rfl rfl rfl rfl rfl rfl ⟨rfl, rfl, rfl, rfl, rfl⟩ rfl rfl rfl rfl rfl (by kernel_rfl) Tryd.func12 (by kernel_rfl)
    (of_decide_eq_true (by kernel_rfl)) (by unfold Func.isWrapper; rw [if_neg (of_decide_eq_false (by kernel_rfl))]; exact ⟨rfl, rfl⟩)
    (fun os started H enc _ => walTrims_lifted os started H enc)
theorem walTrims_card_holds : Rows.WalTrimsCardSaid :=
  Claim7.holds_tied_plain_at .later [] [.data, .data, .data] true Rows.walTrimsCard.stood.harness false walTrims_holds (fun _ h => by cases h) (by kernel_rfl) (fun _ h => by cases h) walTrims_row_tie rfl ⟨rfl, rfl⟩ (by kernel_rfl) rfl
    (fun f fn hf hfn => by
      obtain rfl : f = 12 := Option.some.inj ((show Tryd.prog.funcNamed "freshet/freshetlaw15.WalTrims" = some 12 by kernel_rfl).symm.trans hf) |>.symm
      obtain rfl : fn = Tryd.f12 := (Option.some.inj (Tryd.func12.symm.trans hfn)).symm
      exact ⟨by kernel_rfl, fun j t ht => by
        rw [Tryd.params12] at ht
        have hm : t ∈ [3, 43, 36] := by simpa using Array.mem_of_getElem? ht
        have hall : ([3, 43, 36].all fun u => !Tryd.prog.wantsStandIn u) = true := by kernel_rfl
        exact (show Tryd.prog.wantsStandIn t = false by simpa using List.all_eq_true.1 hall t hm)⟩)
    (by kernel_rfl)
end Go.Proofs.YtnpgjlhnlakgpaaDoor

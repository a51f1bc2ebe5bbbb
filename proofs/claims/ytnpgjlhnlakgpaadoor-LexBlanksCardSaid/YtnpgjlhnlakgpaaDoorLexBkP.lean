/- LexBlanks holds: for every input the law answers true, and the arguments read as before. Conditions: none. -/
import Derived.Test.YtnpgjlhnlakgpaaDoorLexBk
import Derived.Test.YtnpgjlhnlakgpaaDoorShapedAnd
import Derived.ChangeOld
import Derived.Below
import Derived.ProofKit
import Derived.OpenShut
import Derived.ShutString
import Derived.SizedLaws
import Derived.Test.YtnpgjlhnlakgpaaDoorRows
import Derived.Test.YtnpgjlhnlakgpaaDoorCards
import Derived.Test.YtnpgjlhnlakgpaaDoorTie
import Derived.Lay
import Derived.SevenTiedAt
import Derived.PinnedBridge
import Derived.Lib.LaidU8T
namespace Go.Proofs.YtnpgjlhnlakgpaaDoor
open Go.ChangeShapes Go.WideShapes Go.ChangeAt Go.RowKit Go.Lib
open Go.ChangeMaps (open_string shut_string)

theorem own : ownKnob Tryd.prog.godebug = none := by kernel_rfl
theorem laidOut : laidOutB Tryd.prog = true := by kernel_rfl

set_option maxRecDepth 100000 in
/-- The numbers that come in: their cells. -/
theorem open_many {H : Type} {enc : TypeId × Value → H} {W : World} {b0 : Nat} {v : Value} {d : DataW H} {p : List MemPlace} (hv : Value.okWide Tryd.prog W .any b0 36 v) (h : DataW.Trod enc Tryd.prog W 0 (fun _ => true) true 36 v d p) :
    ∃ xs : List Int, ManyAt W v xs := by
  obtain ⟨qq, nn, cc, rfl⟩ := okWide_slice Tryd.underlying36 hv
  obtain ⟨n, h⟩ := h
  rcases open_ints Tryd.underlying36 Tryd.underlying3 (by kernel_rfl) h with ⟨hcs, _⟩ | ⟨a, len, cap, zs, hcs, _, hl, hm, hz, _, hc, hw⟩
  · have hcs' := (List.cons.inj (show [Value.slice qq nn cc] = [.slice none 0 0] from hcs)).1
    rw [hcs']
    exact ⟨[], none, 0, rfl, by simp, by simp, .inl rfl⟩
  · have hcs' := (List.cons.inj (show [Value.slice qq nn cc] = [.slice (some a) len cap] from hcs)).1
    rw [hcs']
    simp only [if_true] at hz
    unfold maxLen at hm
    have hlen : (zs.take len).length = len := by rw [List.length_take]; omega
    refine ⟨zs.take len, some a, cap, by rw [hlen], by omega, fun x hx => bounds_i64 (hw x (List.mem_of_mem_take hx)), ?_⟩
    by_cases h0 : len = 0
    · subst h0; exact .inl (by simp)
    · right
      have hc0 := hc 0 (by omega)
      have hspot := World.cell?_spot hc0
      obtain ⟨g, o, sp⟩ := a
      have hsp : sp = none := by simpa [Addr.add] using hspot
      subst hsp
      have hadd : ∀ j, (⟨g, o, none⟩ : Addr).add j = ⟨g, o + j, none⟩ := fun j => by unfold Addr.add; split <;> simp_all
      have hg := World.block_lt_of_cell? W _ hc0
      rw [hadd] at hg
      refine ⟨g, o, rfl, hg, fun j x hj => ?_⟩
      have hjl : j < len := by
        have := (List.getElem?_eq_some_iff.1 hj).1
        omega
      have := hc j (by omega)
      rw [hadd] at this
      rw [this]
      rw [List.getElem?_take_of_lt hjl] at hj
      simp [List.getD_eq_getElem?_getD, hj]

set_option maxRecDepth 100000 in
theorem lexBlanks_lifted (os : Os) (started : os.Started) (H : Type) (enc : TypeId × Value → H) :
    ReturnsInHanded {} Tryd.checked os 6 .any (fun w args => (Rows.lexBlanksSpec.pre enc Tryd.prog Tryd.f6 [] false w args ∧ laidMetH Tryd.prog Rows.lexBlanksRow.laid w) ∧ sizedMet enc Tryd.prog Tryd.f6 (OpenSpec.ofChange Rows.lexBlanksSpec) false w args)
      (Rows.lexBlanksSpec.post enc Tryd.prog Tryd.f6 false true false false) := by
  refine returnsInHanded_of_change_and (C := Tryd.checked) (X := fun w _ => laidMetH Tryd.prog Rows.lexBlanksRow.laid w) (fun _ _ _ hh h => h.of_heap hh) own started (by kernel_rfl) Tryd.func6
    (ChangeSpec.witness_shaped (enc := enc) (C := Tryd.checked) (os := os) (X := fun w _ => laidMetH Tryd.prog Rows.lexBlanksRow.laid w) false (World.laidAll Tryd.prog os Rows.lexBlanksRow.laid) #[.string ByteArray.empty, .slice none 0 0] 8 (World.laidAll_os _ _ _)
      (World.shaped_of_ZipB (by kernel_rfl) (by kernel_rfl)) (by kernel_rfl) (by kernel_rfl) (by kernel_rfl)
      (by rw [MakeChecks.laidMetH_plain _ _ _ (by kernel_rfl)]; exact laidMet_laidAll _ (by kernel_rfl) (by kernel_rfl))) ?_
  intro W base args ds gs before hval0 hW _ _ hL _
  have hval : ∀ (j : Nat) t v, Tryd.f6.params[j]? = some t → args[j]? = some v → Value.okWide Tryd.prog W .any base t v := hval0
  have hW' := hW
  obtain ⟨p, q, hA0, hV, rfl, hfz, hnd⟩ := hW
  have hA : DataW.TrodAll enc Tryd.prog W 0 (fun _ => true) true Tryd.f6.params.toList args.toList ds p := hA0
  rw [Tryd.params6] at hA hval
  obtain ⟨v0, vs0, d0, ds0, p0, q0, hargs, rfl, rfl, h0, r0⟩ := trodAll_cons hA
  obtain ⟨v1, vs1, d1, ds1, p1, q1, rfl, rfl, rfl, h1, r1⟩ := trodAll_cons r0
  obtain ⟨rfl, rfl, rfl⟩ := trodAll_nil r1
  obtain rfl : args = #[v0, v1] := by cases args; simp_all
  obtain ⟨rfl, rfl⟩ := trodVars_none hV
  rw [MakeChecks.laidMetH_plain _ _ _ (by kernel_rfl)] at hL
  have hAs : Asc W := tabIs_of_reads (g := 0) (t := 132) (e := 5) (by kernel_rfl) (by kernel_rfl) Tryd.underlying132 Tryd.underlying5 (by kernel_rfl) (by kernel_rfl) (by kernel_rfl) (laidMet.reads hL (.tail _ (.tail _ (.tail _ (.tail _ (.tail _ (.head _)))))))
  have hP : Pow W := tabIs_of_reads (g := 3) (t := 208) (e := 98) (by kernel_rfl) (by kernel_rfl) Tryd.underlying208 Tryd.underlying98 (by kernel_rfl) (by kernel_rfl) (by kernel_rfl) (laidMet.reads hL (.tail _ (.tail _ (.head _))))
  have lt0 : ∀ x ∈ p0, x.block < W.heap.size := by obtain ⟨m, hm⟩ := h0; exact DataW.trod_lt m _ _ _ hm
  have k0 := h0
  have lt1 : ∀ x ∈ p1, x.block < W.heap.size := by obtain ⟨m, hm⟩ := h1; exact DataW.trod_lt m _ _ _ hm
  have k1 := h1
  obtain ⟨s0, rfl, rfl, _, _⟩ := open_string Tryd.underlying9 (hval 0 9 v0 rfl rfl) h0
  obtain ⟨xs1, hxs1⟩ := open_many (hval 1 36 v1 rfl rfl) h1
  clear hA0 hval0
  refine (blanks_walk s0 v1 xs1 W hAs hP hxs1).mono fun e W' ⟨he, bel⟩ => ?_
  subst he
  exact ⟨_, rfl, _, _, _, [], _, [], hW', trodAll_mk1 (shut_bool Tryd.underlying4 _), (trodAll_cons_mk (Below.trod laidOut (by kernel_rfl) (of_decide_eq_true (by kernel_rfl)) k0 bel lt0) (trodAll_cons_mk (Below.trod laidOut (by kernel_rfl) (of_decide_eq_true (by kernel_rfl)) k1 bel lt1) trodAll_mk0)), rfl, bel.frame _, fun h => by cases h⟩

theorem lexBlanks_holds : Rows.LexBlanksSaid :=
  OpenClaim.holds_of_wide 6 Tryd.f6 rfl rfl rfl rfl rfl rfl rfl ⟨rfl, rfl, rfl, rfl, rfl⟩ rfl rfl rfl rfl rfl (by kernel_rfl) Tryd.func6 (by kernel_rfl)
    (of_decide_eq_true (by kernel_rfl)) (by unfold Func.isWrapper; rw [if_neg (of_decide_eq_false (by kernel_rfl))]; exact ⟨rfl, rfl⟩)
    (fun os started H enc _ => lexBlanks_lifted os started H enc)
theorem lexBlanks_card_holds : Rows.LexBlanksCardSaid :=
  Claim7.holds_tied_plain_at .later [] [.data, .data, .data, .data, .listed, .data, .pinned, .pinned] true Rows.lexBlanksCard.stood.harness false lexBlanks_holds (fun _ h => by cases h) (by kernel_rfl) (fun _ h => by cases h) lexBlanks_row_tie rfl ⟨rfl, rfl⟩ (by kernel_rfl) rfl
    (fun f fn hf hfn => by
      obtain rfl : f = 6 := Option.some.inj ((show Tryd.prog.funcNamed "freshet/freshetlaw04.LexBlanks" = some 6 by kernel_rfl).symm.trans hf) |>.symm
      obtain rfl : fn = Tryd.f6 := (Option.some.inj (Tryd.func6.symm.trans hfn)).symm
      exact ⟨by kernel_rfl, fun j t ht => by
        rw [Tryd.params6] at ht
        have hm : t ∈ [9, 36] := by simpa using Array.mem_of_getElem? ht
        have hall : ([9, 36].all fun u => !Tryd.prog.wantsStandIn u) = true := by kernel_rfl
        exact (show Tryd.prog.wantsStandIn t = false by simpa using List.all_eq_true.1 hall t hm)⟩)
    (by kernel_rfl)
end Go.Proofs.YtnpgjlhnlakgpaaDoor

/- VfsSafe holds: for every input the law answers true, and the arguments read as before. Conditions: none. -/
import Derived.Test.YtcjhkonjlhpmhaaVfsSafe
import Derived.Test.YtcjhkonjlhpmhaaVfsOpenOps
import Derived.ChangeOld
import Derived.Below
import Derived.ProofKit
import Derived.OpenShut
import Derived.ShutString
import Derived.Test.YtcjhkonjlhpmhaaRows
namespace Go.Proofs.Ytcjhkonjlhpmhaa
open Go.ChangeShapes Go.WideShapes Go.ChangeAt Go.RowKit Go.Lib
open Go.ChangeMaps (open_string shut_string)

theorem safe_all (r : Int) (v : Value) (es : List OpE) (kv tv : Value) (keep turn : List Int) (w : World) (hes : OpsAt w.heap.size w v es)
    (hkv : ∀ b m, w.heap.size ≤ b → w.heap.size ≤ m → IntsAt b m w kv keep) (htv : ∀ b m, w.heap.size ≤ b → w.heap.size ≤ m → IntsAt b m w tv turn) (hkb : ∀ x ∈ keep, x ≤ 9223372036854775807) (htb : ∀ x ∈ turn, x ≤ 9223372036854775807) :
    Calls Try.prog 4 #[.int .i64 r, v, .agg #[kv, tv]] w fun e w' => e = .returned (.bool true) ∧ Below w.heap.size w w' := by
  obtain ⟨p, c, rfl, _⟩ := id hes
  by_cases h : r < 0 ∨ 4194304 < r
  · exact safe_bad r p _ c kv tv w h
  · obtain ⟨k, rfl⟩ : ∃ k : Nat, r = (k : Int) := ⟨r.toNat, by omega⟩
    exact safe_walk k (by omega) p _ c es kv tv keep turn w hes hkv htv hkb htb

set_option maxRecDepth 100000 in
theorem vfsSafe_lifted (os : Os) (started : os.Started) (H : Type) (enc : TypeId × Value → H) :
    ReturnsInHanded {} Try.checked os 4 .any (Rows.vfsSafeSpec.pre6 enc Try.prog Try.f4 Rows.vfsSafeRow.domain false) (Rows.vfsSafeSpec.post enc Try.prog Try.f4 false true false false) := by
  refine returnsInHanded_of_change (C := Try.checked) own started (by kernel_rfl) Try.func4
    (ChangeSpec.witness6 (enc := enc) (C := Try.checked) false ⟨#[], #[.int .i64 0, .slice none 0 0, .agg #[.slice none 0 0, .slice none 0 0]], []⟩ 8 (by kernel_rfl) (by kernel_rfl) (by kernel_rfl) (by kernel_rfl)) ?_
  intro W base args ds gs before hval0 hW hcnd hsz
  have hval : ∀ (j : Nat) t v, Try.f4.params[j]? = some t → args[j]? = some v → Value.okWide Try.prog W .any base t v := hval0
  have hW' := hW
  obtain ⟨p, q, hA0, hV, rfl, hfz, hnd⟩ := hW
  have hA : DataW.TrodAll enc Try.prog W 0 (fun _ => true) true Try.f4.params.toList args.toList ds p := hA0
  rw [Try.params4] at hA hval
  obtain ⟨v0, vs0, d0, ds0, p0, q0, hargs, rfl, rfl, h0, r0⟩ := trodAll_cons hA
  obtain ⟨v1, vs1, d1, ds1, p1, q1, rfl, rfl, rfl, h1, r1⟩ := trodAll_cons r0
  obtain ⟨v2, vs2, d2, ds2, p2, q2, rfl, rfl, rfl, h2, r2⟩ := trodAll_cons r1
  obtain ⟨rfl, rfl, rfl⟩ := trodAll_nil r2
  obtain rfl : args = #[v0, v1, v2] := by cases args; simp_all
  obtain ⟨rfl, rfl⟩ := trodVars_none hV
  have lt0 : ∀ x ∈ p0, x.block < W.heap.size := by obtain ⟨m, hm⟩ := h0; exact DataW.trod_lt m _ _ _ hm
  have k0 := h0
  have lt1 : ∀ x ∈ p1, x.block < W.heap.size := by obtain ⟨m, hm⟩ := h1; exact DataW.trod_lt m _ _ _ hm
  have k1 := h1
  have lt2 : ∀ x ∈ p2, x.block < W.heap.size := by obtain ⟨m, hm⟩ := h2; exact DataW.trod_lt m _ _ _ hm
  have k2 := h2
  obtain ⟨x0, rfl, _, _, wx0⟩ := open_int Try.underlying3 (hval 0 3 v0 rfl rfl) h0
  obtain ⟨l1, hl1, hi1⟩ := open_ops (hval 1 38 v1 rfl rfl) h1
  obtain ⟨kv2, tv2, keep2, turn2, rfl, hkv2, htv2, hkb2, htb2⟩ := open_crash (hval 2 24 v2 rfl rfl) h2
  clear hA0 hval0
  refine (safe_all x0 v1 l1 kv2 tv2 keep2 turn2 W hl1 hkv2 htv2 hkb2 htb2).mono fun e W' ⟨he, bel⟩ => ?_
  subst he
  exact ⟨_, rfl, _, _, _, [], _, [], hW', trodAll_mk1 (shut_bool Try.underlying4 _), (trodAll_cons_mk (Below.trod laidOut (by kernel_rfl) (of_decide_eq_true (by kernel_rfl)) k0 bel lt0) (trodAll_cons_mk (Below.trod laidOut (by kernel_rfl) (of_decide_eq_true (by kernel_rfl)) k1 bel lt1) (trodAll_cons_mk (Below.trod laidOut (by kernel_rfl) (of_decide_eq_true (by kernel_rfl)) k2 bel lt2) trodAll_mk0))), rfl, bel.frame _, fun h => by cases h⟩

theorem vfsSafe_holds : Rows.VfsSafeSaid :=
  OpenClaim.holds_of_wide 4 Try.f4 rfl rfl rfl rfl rfl rfl rfl ⟨rfl, rfl, rfl, rfl, rfl⟩ rfl rfl rfl rfl rfl (by kernel_rfl) Try.func4 (by kernel_rfl)
    (of_decide_eq_true (by kernel_rfl)) (by unfold Func.isWrapper; rw [if_neg (of_decide_eq_false (by kernel_rfl))]; exact ⟨rfl, rfl⟩)
    (fun os started H enc _ => vfsSafe_lifted os started H enc)
end Go.Proofs.Ytcjhkonjlhpmhaa

/- Contracts of cut, small, does: calls that come in a slice. -/
import Derived.Test.YtcjhkonjlhpmhaaVfsKnown
import Derived.Test.YtcjhkonjlhpmhaaVfsRename
import Derived.Test.YtcjhkonjlhpmhaaVfsCut
import Derived.Test.YtcjhkonjlhpmhaaVfsRemove
import Derived.Test.YtcjhkonjlhpmhaaVfsLaw
namespace Go.Proofs.Ytcjhkonjlhpmhaa
open Go.RowKit Go.Maps

/-- A call as it came in: its numbers and texts, and the two slices of its crash. -/
structure OpE where
  o : Opn
  kv : Value
  tv : Value
/-- Its texts and numbers are what texts and numbers may be. -/
structure OpE.Ok (x : OpE) : Prop where
  nm : x.o.name.size ≤ maxLen
  dt : x.o.data.size ≤ maxLen
  n1 : x.o.n ≤ 9223372036854775807
  on0 : -9223372036854775808 ≤ x.o.on
  on1 : x.o.on ≤ 9223372036854775807
  kb : ∀ k ∈ x.o.keep, k ≤ 9223372036854775807
  tb : ∀ k ∈ x.o.turn, k ≤ 9223372036854775807
  k1 : ∃ p n c, x.kv = .slice p n c
  t1 : ∃ p n c, x.tv = .slice p n c
def OpE.cells (x : OpE) : List Value := [.int .i64 x.o.kind, .int .i64 x.o.on, .int .i64 x.o.n, .string x.o.name, .string x.o.data, x.kv, x.tv]
/-- A slice of calls in a block below B. -/
def OpsAt (B : Nat) (w : World) (v : Value) (es : List OpE) : Prop :=
  ∃ p c, v = .slice p es.length c ∧ es.length ≤ c ∧ c ≤ 9223372036854775807 ∧ (es = [] ∨ ∃ g o, p = some ⟨g, o, none⟩ ∧ g < B ∧ ∀ i x, es[i]? = some x → ∀ j u, x.cells[j]? = some u → w.cell? ⟨g, o + (i * 7 + j), none⟩ = some u) ∧ (∀ x ∈ es, x.Ok)
theorem OpsAt.below {B : Nat} {w w' : World} {v : Value} {es : List OpE} (h : OpsAt B w v es) (hb : Below B w w') : OpsAt B w' v es := by
  obtain ⟨p, c, rfl, h1, h2, h3, h4⟩ := h
  refine ⟨p, c, rfl, h1, h2, ?_, h4⟩
  rcases h3 with h3 | ⟨g, o, rfl, hg, hc⟩
  · exact .inl h3
  · exact .inr ⟨g, o, rfl, hg, fun i x hx j u hu => by rw [hb.cell (p := ⟨g, o + (i * 7 + j), none⟩) hg]; exact hc i x hx j u hu⟩
theorem OpsAt.take {B : Nat} {w : World} {p : Option Addr} {n c : Nat} {es : List OpE} (h : OpsAt B w (.slice p n c) es) (k : Nat) : OpsAt B w (.slice p (es.take k).length c) (es.take k) := by
  obtain ⟨p', c', hv, h1, h2, h3, h4⟩ := h
  cases hv
  refine ⟨p, c, rfl, Nat.le_trans (List.length_take_le' _ _) h1, h2, ?_, fun x hx => h4 x (List.mem_of_mem_take hx)⟩
  rcases h3 with rfl | ⟨g, o, rfl, hg, hc⟩
  · exact .inl (by simp)
  · refine .inr ⟨g, o, rfl, hg, fun i x hx => hc i x ?_⟩
    have hi : i < (es.take k).length := (List.getElem?_eq_some_iff.1 hx).1
    rw [List.length_take] at hi
    rwa [List.getElem?_take_of_lt (by omega)] at hx

set_option maxHeartbeats 1000000 in
theorem cutop_any {B : Nat} {w : World} {p : Option Addr} {n c : Nat} {es : List OpE} (h : OpsAt B w (.slice p n c) es) (k : Nat) (hk : k ≤ 1000) :
    Calls Try.prog 24 #[.slice p n c, .int .i64 (k : Int)] w fun e w' => e = .returned (.slice p (es.take k).length c) ∧ w = w' := by
  obtain ⟨p', c', hv, h1, h2, h3, h4⟩ := h
  cases hv
  have hl : (es.take k).length = min k es.length := List.length_take
  rw [hl]
  rcases h3 with rfl | ⟨g, o, rfl, hg, hc⟩
  · have hm : min k ([] : List OpE).length = 0 := by simp
    rw [hm]
    have hlt : ¬ k < 0 := by omega
    clear hl hm h4
    simp only [List.length_nil] at *
    go_enter Try.func24, Try.ntmps24
    go_wp2_with fail
    go_ret
    exact ⟨rfl, rfl⟩
  · clear hc h4
    by_cases hlt : k < es.length
    · have hm : min k es.length = k := by omega
      rw [hm]
      generalize es.length = n at *
      clear hl hm
      go_enter Try.func24, Try.ntmps24
      go_wp2_with fail
      go_ret
      exact ⟨rfl, rfl⟩
    · have hm : min k es.length = es.length := by omega
      rw [hm]
      generalize es.length = n at *
      clear hl hm
      go_enter Try.func24, Try.ntmps24
      go_wp2_with fail
      go_ret
      exact ⟨rfl, rfl⟩
set_option maxHeartbeats 1000000 in
theorem small_any (x : OpE) (hx : x.Ok) (w : World) :
    Calls Try.prog 25 #[.agg #[.int .i64 x.o.kind, .int .i64 x.o.on, .int .i64 x.o.n, .string x.o.name, .string x.o.data, x.kv, x.tv]] w fun e w' => e = .returned (.bool (smallB x.o)) ∧ Below w.heap.size w w' := by
  obtain ⟨⟨kind, on, n, nm, dt, keep, turn⟩, kv, tv⟩ := x
  obtain ⟨h1, h2, -, -, -, -, -, k1, t1⟩ := hx
  simp only at *
  obtain ⟨kp, kn, kc, rfl⟩ := k1
  obtain ⟨tp, tn, tc, rfl⟩ := t1
  unfold maxLen at h1 h2
  have E := Lib.hid (show smallB ⟨kind, on, n, nm, dt, keep, turn⟩ = (decide ((dt.size : Int) ≤ 65536) && decide ((nm.size : Int) ≤ 65536)) by
    simp [smallB]
    rw [Bool.eq_iff_iff]; simp; omega)
  rw [E.out]
  by_cases hd : dt.size ≤ 65536
  · go_enter Try.func25, Try.ntmps25
    go_wp2_with fail
    go_ret
    refine ⟨?_, (Below.refl _ _).alloc (Nat.le_refl _) _⟩
    simp
    omega
  · go_enter Try.func25, Try.ntmps25
    go_wp2_with fail
    go_ret
    refine ⟨?_, (Below.refl _ _).alloc (Nat.le_refl _) _⟩
    simp
    omega

theorem ret_same {a b : Value} {P : Prop} (h : a = b) (hp : P) : Ending.returned a = .returned b ∧ P := ⟨by rw [h], hp⟩
set_option maxRecDepth 100000 in
set_option maxHeartbeats 4000000 in
theorem does_any {d : Dk} {w : World} {b m : Nat} (h : DAt w b m d) (hok : d.Ok) (hs : d.steps < 4611686018427387904) (x : OpE) (hx : x.Ok) :
    Calls Try.prog 26 #[.pointer (some ⟨b, 0, none⟩), .agg #[.int .i64 x.o.kind, .int .i64 x.o.on, .int .i64 x.o.n, .string x.o.name, .string x.o.data, x.kv, x.tv]] w fun e w' => e = .returned (.int .i64 (doesD d x.o).1) ∧ DAt w' b m (doesD d x.o).2 ∧ Kp b m w w' := by
  obtain ⟨⟨kind, on, n, nm, dt, keep, turn⟩, kv, tv⟩ := x
  obtain ⟨h1, h2, -, -, -, -, -, k1, t1⟩ := hx
  simp only at *
  obtain ⟨kp, kn, kc, rfl⟩ := k1
  obtain ⟨tp, tn, tc, rfl⟩ := t1
  have H := Lib.hid h
  have HOK := Lib.hid hok
  have HS := Lib.hid hs
  have HN := Lib.hid h1
  have HDT := Lib.hid h2
  clear h hok hs h1 h2
  by_cases c1 : kind = 1
  · subst c1
    have E := Lib.hid (show doesD d ⟨1, on, n, nm, dt, keep, turn⟩ = d.create nm from rfl)
    rw [E.out]
    have HC := Lib.hid (create_any (H.out.alloc (.cells #[.int .i64 1, .int .i64 on, .int .i64 n, .string nm, .string dt, .slice kp kn kc, .slice tp tn tc] 49)) HOK.out HS.out HN.out)
    go_enter Try.func26, Try.ntmps26
    go_wp2_with fail
    refine HC.out.mono ?_
    rintro e w1 ⟨rfl, hd, hk⟩
    have HD := Lib.hid hd
    have HK := Lib.hid hk
    clear hd hk HC
    go_wp2_with fail
    go_ret
    exact ⟨rfl, HD.out, ((Kp.refl _ _ _).alloc _).trans HK.out⟩
  ·
    by_cases c2 : kind = 2
    · subst c2
      have E := Lib.hid (show doesD d ⟨2, on, n, nm, dt, keep, turn⟩ = d.append nm dt from rfl)
      rw [E.out]
      have HC := Lib.hid (append_any (H.out.alloc (.cells #[.int .i64 2, .int .i64 on, .int .i64 n, .string nm, .string dt, .slice kp kn kc, .slice tp tn tc] 49)) HOK.out HS.out HN.out HDT.out)
      clear c1
      go_enter Try.func26, Try.ntmps26
      go_wp2_with fail
      refine HC.out.mono ?_
      rintro e w1 ⟨rfl, hd, hk⟩
      have HD := Lib.hid hd
      have HK := Lib.hid hk
      clear hd hk HC
      go_wp2_with fail
      go_ret
      exact ⟨rfl, HD.out, ((Kp.refl _ _ _).alloc _).trans HK.out⟩
    ·
      by_cases c3 : kind = 3
      · subst c3
        have E := Lib.hid (show doesD d ⟨3, on, n, nm, dt, keep, turn⟩ = d.sync nm from rfl)
        rw [E.out]
        have HC := Lib.hid (sync_any (H.out.alloc (.cells #[.int .i64 3, .int .i64 on, .int .i64 n, .string nm, .string dt, .slice kp kn kc, .slice tp tn tc] 49)) HOK.out HS.out HN.out)
        clear c1 c2
        go_enter Try.func26, Try.ntmps26
        go_wp2_with fail
        refine HC.out.mono ?_
        rintro e w1 ⟨rfl, hd, hk⟩
        have HD := Lib.hid hd
        have HK := Lib.hid hk
        clear hd hk HC
        go_wp2_with fail
        go_ret
        exact ⟨rfl, HD.out, ((Kp.refl _ _ _).alloc _).trans HK.out⟩
      ·
        by_cases c4 : kind = 4
        · subst c4
          have E := Lib.hid (show doesD d ⟨4, on, n, nm, dt, keep, turn⟩ = d.cut nm n from rfl)
          rw [E.out]
          have HC := Lib.hid (cut_any (H.out.alloc (.cells #[.int .i64 4, .int .i64 on, .int .i64 n, .string nm, .string dt, .slice kp kn kc, .slice tp tn tc] 49)) HOK.out HS.out HN.out n)
          clear c1 c2 c3
          go_enter Try.func26, Try.ntmps26
          go_wp2_with fail
          refine HC.out.mono ?_
          rintro e w1 ⟨rfl, hd, hk⟩
          have HD := Lib.hid hd
          have HK := Lib.hid hk
          clear hd hk HC
          go_wp2_with fail
          go_ret
          exact ⟨rfl, HD.out, ((Kp.refl _ _ _).alloc _).trans HK.out⟩
        ·
          by_cases c5 : kind = 5
          · subst c5
            have E := Lib.hid (show doesD d ⟨5, on, n, nm, dt, keep, turn⟩ = d.rename nm dt from rfl)
            rw [E.out]
            have HC := Lib.hid (rename_any (H.out.alloc (.cells #[.int .i64 5, .int .i64 on, .int .i64 n, .string nm, .string dt, .slice kp kn kc, .slice tp tn tc] 49)) HOK.out HS.out HN.out HDT.out)
            clear c1 c2 c3 c4
            go_enter Try.func26, Try.ntmps26
            go_wp2_with fail
            refine HC.out.mono ?_
            rintro e w1 ⟨rfl, hd, hk⟩
            have HD := Lib.hid hd
            have HK := Lib.hid hk
            clear hd hk HC
            go_wp2_with fail
            go_ret
            exact ⟨rfl, HD.out, ((Kp.refl _ _ _).alloc _).trans HK.out⟩
          ·
            by_cases c6 : kind = 6
            · subst c6
              have E := Lib.hid (show doesD d ⟨6, on, n, nm, dt, keep, turn⟩ = d.remove nm from rfl)
              rw [E.out]
              have HC := Lib.hid (remove_any (H.out.alloc (.cells #[.int .i64 6, .int .i64 on, .int .i64 n, .string nm, .string dt, .slice kp kn kc, .slice tp tn tc] 49)) HOK.out HS.out HN.out)
              clear c1 c2 c3 c4 c5
              go_enter Try.func26, Try.ntmps26
              go_wp2_with fail
              refine HC.out.mono ?_
              rintro e w1 ⟨rfl, hd, hk⟩
              have HD := Lib.hid hd
              have HK := Lib.hid hk
              clear hd hk HC
              go_wp2_with fail
              go_ret
              exact ⟨rfl, HD.out, ((Kp.refl _ _ _).alloc _).trans HK.out⟩
            ·
              have E := Lib.hid (show doesD d ⟨kind, on, n, nm, dt, keep, turn⟩ = (1, d) by unfold doesD; simp only [c1, c2, c3, c4, c5, c6, if_false])
              rw [E.out]
              go_enter Try.func26, Try.ntmps26
              go_wp2_with fail
              go_ret
              exact ⟨rfl, H.out.alloc _, (Kp.refl _ _ _).alloc _⟩
end Go.Proofs.Ytcjhkonjlhpmhaa

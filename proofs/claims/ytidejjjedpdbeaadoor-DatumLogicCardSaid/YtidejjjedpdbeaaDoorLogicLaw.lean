/- The walk of DatumLogic: it answers true. -/
import Derived.Test.YtidejjjedpdbeaaDoorLogicT
namespace Go.Proofs.YtidejjjedpdbeaaDoor
open Go.RowKit

/-- What a law of three boxed values keeps while calls go on. -/
structure K3 (w : World) (x y z : Array Value) (w' : World) : Prop where
  b : Below w.heap.size w w'
  t : Tabs w'
  n : w.heap.size + 3 ≤ w'.heap.size
  c : (∀ i, w'.cell? ⟨w.heap.size, i, none⟩ = x[i]?) ∧ (∀ i, w'.cell? ⟨w.heap.size + 1, i, none⟩ = y[i]?) ∧ (∀ i, w'.cell? ⟨w.heap.size + 1 + 1, i, none⟩ = z[i]?)
theorem K3.step {w : World} {x y z : Array Value} {w1 w2 : World} (h : K3 w x y z w1) (hb : Below w1.heap.size w1 w2) : K3 w x y z w2 := by
  have hn := h.n
  refine ⟨h.b.trans (hb.mono (by omega)), h.t.below hb, by have := hb.size; omega, fun i => ?_, fun i => ?_, fun i => ?_⟩
  · rw [hb.cell (p := ⟨w.heap.size, i, none⟩) (by show w.heap.size < _; omega)]; exact h.c.1 i
  · rw [hb.cell (p := ⟨w.heap.size + 1, i, none⟩) (by show w.heap.size + 1 < _; omega)]; exact h.c.2.1 i
  · rw [hb.cell (p := ⟨w.heap.size + 1 + 1, i, none⟩) (by show w.heap.size + 1 + 1 < _; omega)]; exact h.c.2.2 i
theorem k3_tabs {w : World} {x y z : Array Value} (u : GW (K3 w x y z)) : Tabs u.w := u.h.t
theorem k3_next {w : World} {x y z : Array Value} (u : GW (K3 w x y z)) {w1 : World} (hb : Below u.w.heap.size u.w w1) : ∃ u' : GW (K3 w x y z), w1 = u'.w := ⟨⟨w1, u.h.step hb⟩, rfl⟩
theorem dcells_new3 (W : World) (k i : Int) (s : ByteArray) (k' i' : Int) (s' : ByteArray) (k'' i'' : Int) (s'' : ByteArray) (t : TypeId) : DCells (W.alloc (.cells #[.int .i64 k, .int .i64 i, .string s, .int .i64 k', .int .i64 i', .string s', .int .i64 k'', .int .i64 i'', .string s''] t)) W.heap.size 0 [⟨k, i, s⟩, ⟨k', i', s'⟩, ⟨k'', i'', s''⟩] := by
  intro j hj
  have : j = 0 ∨ j = 1 ∨ j = 2 := by simp at hj; omega
  rcases this with rfl | rfl | rfl <;> refine ⟨?_, ?_, ?_⟩ <;> rw [World.cell?_alloc_new] <;> rfl

set_option maxHeartbeats 2000000 in
theorem logic_walk (ak ai bk bi ck ci : Int) (sa sb sc : ByteArray) (w : World) (hT : Tabs w) :
    Calls Tryd.prog 5 #[.agg #[.int .i64 ak, .int .i64 ai, .string sa], .agg #[.int .i64 bk, .int .i64 bi, .string sb], .agg #[.int .i64 ck, .int .i64 ci, .string sc]] w fun e w' => e = .returned (.bool true) ∧ Below w.heap.size w w' := by
  have HT := Lib.hid hT
  clear hT
  go_enter Tryd.func5, Tryd.ntmps5
  go_wp2_with fail
  have HB := boxes3 w #[.int .i64 ak, .int .i64 ai, .string sa] #[.int .i64 bk, .int .i64 bi, .string sb] #[.int .i64 ck, .int .i64 ci, .string sc] 24 24 24
  generalize (((w.alloc (.cells #[.int .i64 ak, .int .i64 ai, .string sa] 24)).alloc (.cells #[.int .i64 bk, .int .i64 bi, .string sb] 24)).alloc (.cells #[.int .i64 ck, .int .i64 ci, .string sc] 24)) = W0 at *
  obtain ⟨hB, hz, a0, a1, a2⟩ := HB
  have hk0 : K3 w #[.int .i64 ak, .int .i64 ai, .string sa] #[.int .i64 bk, .int .i64 bi, .string sb] #[.int .i64 ck, .int .i64 ci, .string sc] W0 := ⟨hB, HT.out.below hB, by omega, a0, a1, a2⟩
  have hk := Lib.hid (hk0.step ((Below.refl _ _).alloc (Nat.le_refl _) (.cells #[.int .i64 ak, .int .i64 ai, .string sa, .int .i64 bk, .int .i64 bi, .string sb, .int .i64 ck, .int .i64 ci, .string sc] 24)))
  have hc := Lib.hid (dcells_new3 W0 ak ai sa bk bi sb ck ci sc 24)
  have hW1 : Hid ((W0.alloc (.cells #[.int .i64 ak, .int .i64 ai, .string sa, .int .i64 bk, .int .i64 bi, .string sb, .int .i64 ck, .int .i64 ci, .string sc] 24)).heap.size = w.heap.size + 4) := by show _ = _; simp; omega
  rw [show w.heap.size + 1 + 1 + 1 = W0.heap.size by omega]
  generalize (W0.alloc (.cells #[.int .i64 ak, .int .i64 ai, .string sa, .int .i64 bk, .int .i64 bi, .string sb, .int .i64 ck, .int .i64 ci, .string sc] 24)) = W1 at *
  have hz3 : Hid (W0.heap.size = w.heap.size + 3) := hz
  clear hz a0 a1 a2 hB hk0
  generalize W0.heap.size = n0 at *
  have hds := Lib.hid (show [(⟨ak, ai, sa⟩ : Dt), ⟨bk, bi, sb⟩, ⟨ck, ci, sc⟩].length = 3 from rfl)
  generalize hds2 : [(⟨ak, ai, sa⟩ : Dt), ⟨bk, bi, sb⟩, ⟨ck, ci, sc⟩] = ds at *
  have Hds := Lib.hid hds2
  clear hds2
  go_loopw [8, 17] (fun _ i wr => ∃ k : Nat, k ≤ 3 ∧ i = .int .i64 k ∧ Below W1.heap.size W1 wr ∧ (∀ j, j < k → ∃ x, dnth ds j = tv x)) (fun _ i _ => 3 - (intOf i).toNat)
  case atStart => exact ⟨0, Nat.zero_le _, rfl, Below.refl _ _, fun j hj => by omega⟩
  case round =>
    obtain ⟨k, hk3, rfl, hb, hx⟩ := hrel
    have Hx := Lib.hid hx
    have HB := Lib.hid hb
    have hkr := Lib.hid (hk.out.step hb)
    have hzw : W1.heap.size ≤ wr.heap.size := hb.size
    clear hb hx
    by_cases hlt : k < 3
    · have hzero : (0 : Int) ≤ k := by omega
      obtain ⟨hc0, hc1, hc2⟩ := hc.out.at HB.out (by have := hW1.out; have := hz3.out; omega) k (by rw [hds.out]; exact hlt)
      generalize hdd : dnth ds k = dd at *
      have HD := Lib.hid hdd
      clear hdd
      obtain ⟨dk, di, dst⟩ := dd
      simp only [Nat.zero_add] at hc0 hc1 hc2
      have HBW : Hid (Below w.heap.size w wr) := hkr.out.b
      have hnw : w.heap.size < wr.heap.size := by have := hkr.out.n; omega
      by_cases hk01 : dk = 0 ∨ dk = 1
      · rcases hk01 with rfl | rfl
        all_goals
          go_wp2_with fail
          refine (refright_any _ _ _ _).mono ?_
          rintro e w2 ⟨rfl, hb2⟩
          have HB2 := Lib.hid ((HB.out.alloc hzw _).trans (hb2.mono (by simp; omega)))
          have HBW2 := Lib.hid ((HBW.out.alloc (by omega) _).trans (hb2.mono (by simp; omega)))
          clear hb2
          generalize hr : rightD _ = r
          have HR := Lib.hid hr
          clear hr
          cases r
          · go_wp2_with fail
            go_ret
            exact ⟨rfl, HBW2.out⟩
          · go_wp2_with fail
            go_roundw
            case rel => exact ⟨k + 1, by omega, by go_num, HB2.out, fun j hj => by
              rcases Nat.lt_succ_iff_lt_or_eq.1 hj with h | h
              · exact Hx.out j h
              · rw [h, HD.out]; exact tv_of HR.out (by simp)⟩
            case measure => simp [intOf]; omega
      · have h0 : (dk != 0) = true := by simp; omega
        have h1 : (dk != 1) = true := by simp; omega
        clear hk01
        go_wp2_with fail
        go_ret
        exact ⟨rfl, HBW.out.alloc (by omega) _⟩
    · have hx3 := Hx.out
      obtain rfl : k = 3 := by omega
      have hall := Hds.out
      obtain ⟨x, hx0⟩ := hx3 0 (by omega)
      obtain ⟨y, hy0⟩ := hx3 1 (by omega)
      obtain ⟨z, hz0⟩ := hx3 2 (by omega)
      rw [← hall] at hx0 hy0 hz0
      have hkk := hkr.out
      clear hx3 hall Hx HB hkr hzw hlt hk hc hW1 hz3 HT Hds hds
      obtain rfl : ak = (tv x).k := by rw [← hx0]; rfl
      obtain rfl : ai = (tv x).i := by rw [← hx0]; rfl
      obtain rfl : sa = (tv x).s := by rw [← hx0]; rfl
      obtain rfl : bk = (tv y).k := by rw [← hy0]; rfl
      obtain rfl : bi = (tv y).i := by rw [← hy0]; rfl
      obtain rfl : sb = (tv y).s := by rw [← hy0]; rfl
      obtain rfl : ck = (tv z).k := by rw [← hz0]; rfl
      obtain rfl : ci = (tv z).i := by rw [← hz0]; rfl
      obtain rfl : sc = (tv z).s := by rw [← hz0]; rfl
      clear hx0 hy0 hz0
      have h1 := and_comm' x y
      have h2 := or_comm' x y
      have h3 := and_assoc' x y z
      have h4 := mirror x y
      have h5 := not_not' x
      have h6 := distr x y z
      have h7 := and_self' x
      go_wp2_with fail
      simp only [List.append_eq, List.cons_append, List.nil_append]
      have c0 : ∀ (u : GW (K3 w #[.int .i64 (tv x).k, .int .i64 (tv x).i, .string (tv x).s] #[.int .i64 (tv y).k, .int .i64 (tv y).i, .string (tv y).s] #[.int .i64 (tv z).k, .int .i64 (tv z).i, .string (tv z).s])) i, u.w.cell? ⟨w.heap.size, i, none⟩ = (#[.int .i64 (tv x).k, .int .i64 (tv x).i, .string (tv x).s] : Array Value)[i]? := fun u => u.h.c.1
      have c1 : ∀ (u : GW (K3 w #[.int .i64 (tv x).k, .int .i64 (tv x).i, .string (tv x).s] #[.int .i64 (tv y).k, .int .i64 (tv y).i, .string (tv y).s] #[.int .i64 (tv z).k, .int .i64 (tv z).i, .string (tv z).s])) i, u.w.cell? ⟨w.heap.size + 1, i, none⟩ = (#[.int .i64 (tv y).k, .int .i64 (tv y).i, .string (tv y).s] : Array Value)[i]? := fun u => u.h.c.2.1
      have c2 : ∀ (u : GW (K3 w #[.int .i64 (tv x).k, .int .i64 (tv x).i, .string (tv x).s] #[.int .i64 (tv y).k, .int .i64 (tv y).i, .string (tv y).s] #[.int .i64 (tv z).k, .int .i64 (tv z).i, .string (tv z).s])) i, u.w.cell? ⟨w.heap.size + 1 + 1, i, none⟩ = (#[.int .i64 (tv z).k, .int .i64 (tv z).i, .string (tv z).s] : Array Value)[i]? := fun u => u.h.c.2.2
      refine wp_region_grow (K3 w #[.int .i64 (tv x).k, .int .i64 (tv x).i, .string (tv x).s] #[.int .i64 (tv y).k, .int .i64 (tv y).i, .string (tv y).s] #[.int .i64 (tv z).k, .int .i64 (tv z).i, .string (tv z).s]) (by kernel_rfl) (by kernel_rfl) (hkk.step (Below.refl _ _).drew) ?_
      have hne := GW.ne hkk
      clear hkk
      as_aux_lemma =>
      iterate 13 (go_big_quiet_step (first | (go_at_call 14; refine (and_any _ _ _ (k3_tabs _)).mono ?_; rintro e w1 ⟨rfl, hb⟩; exact ⟨rfl, k3_next _ hb⟩) | (go_at_call 15; refine (or_any _ _ _ (k3_tabs _)).mono ?_; rintro e w1 ⟨rfl, hb⟩; exact ⟨rfl, k3_next _ hb⟩) | (go_at_call 16; refine (not_any _ _ (k3_tabs _)).mono ?_; rintro e w1 ⟨rfl, hb⟩; exact ⟨rfl, k3_next _ hb⟩)))
      as_aux_lemma =>
      iterate 13 (go_big_quiet_step (first | (go_at_call 14; refine (and_any _ _ _ (k3_tabs _)).mono ?_; rintro e w1 ⟨rfl, hb⟩; exact ⟨rfl, k3_next _ hb⟩) | (go_at_call 15; refine (or_any _ _ _ (k3_tabs _)).mono ?_; rintro e w1 ⟨rfl, hb⟩; exact ⟨rfl, k3_next _ hb⟩) | (go_at_call 16; refine (not_any _ _ (k3_tabs _)).mono ?_; rintro e w1 ⟨rfl, hb⟩; exact ⟨rfl, k3_next _ hb⟩)))
      as_aux_lemma =>
      iterate 13 (go_big_quiet_step (first | (go_at_call 14; refine (and_any _ _ _ (k3_tabs _)).mono ?_; rintro e w1 ⟨rfl, hb⟩; exact ⟨rfl, k3_next _ hb⟩) | (go_at_call 15; refine (or_any _ _ _ (k3_tabs _)).mono ?_; rintro e w1 ⟨rfl, hb⟩; exact ⟨rfl, k3_next _ hb⟩) | (go_at_call 16; refine (not_any _ _ (k3_tabs _)).mono ?_; rintro e w1 ⟨rfl, hb⟩; exact ⟨rfl, k3_next _ hb⟩)))
      as_aux_lemma =>
      iterate 13 (go_big_quiet_step (first | (go_at_call 14; refine (and_any _ _ _ (k3_tabs _)).mono ?_; rintro e w1 ⟨rfl, hb⟩; exact ⟨rfl, k3_next _ hb⟩) | (go_at_call 15; refine (or_any _ _ _ (k3_tabs _)).mono ?_; rintro e w1 ⟨rfl, hb⟩; exact ⟨rfl, k3_next _ hb⟩) | (go_at_call 16; refine (not_any _ _ (k3_tabs _)).mono ?_; rintro e w1 ⟨rfl, hb⟩; exact ⟨rfl, k3_next _ hb⟩)))
      as_aux_lemma =>
      iterate 13 (go_big_quiet_step (first | (go_at_call 14; refine (and_any _ _ _ (k3_tabs _)).mono ?_; rintro e w1 ⟨rfl, hb⟩; exact ⟨rfl, k3_next _ hb⟩) | (go_at_call 15; refine (or_any _ _ _ (k3_tabs _)).mono ?_; rintro e w1 ⟨rfl, hb⟩; exact ⟨rfl, k3_next _ hb⟩) | (go_at_call 16; refine (not_any _ _ (k3_tabs _)).mono ?_; rintro e w1 ⟨rfl, hb⟩; exact ⟨rfl, k3_next _ hb⟩)))
      as_aux_lemma =>
      iterate 13 (go_big_quiet_step (first | (go_at_call 14; refine (and_any _ _ _ (k3_tabs _)).mono ?_; rintro e w1 ⟨rfl, hb⟩; exact ⟨rfl, k3_next _ hb⟩) | (go_at_call 15; refine (or_any _ _ _ (k3_tabs _)).mono ?_; rintro e w1 ⟨rfl, hb⟩; exact ⟨rfl, k3_next _ hb⟩) | (go_at_call 16; refine (not_any _ _ (k3_tabs _)).mono ?_; rintro e w1 ⟨rfl, hb⟩; exact ⟨rfl, k3_next _ hb⟩)))
      as_aux_lemma =>
      repeat (go_big_quiet_step (first | (go_at_call 14; refine (and_any _ _ _ (k3_tabs _)).mono ?_; rintro e w1 ⟨rfl, hb⟩; exact ⟨rfl, k3_next _ hb⟩) | (go_at_call 15; refine (or_any _ _ _ (k3_tabs _)).mono ?_; rintro e w1 ⟨rfl, hb⟩; exact ⟨rfl, k3_next _ hb⟩) | (go_at_call 16; refine (not_any _ _ (k3_tabs _)).mono ?_; rintro e w1 ⟨rfl, hb⟩; exact ⟨rfl, k3_next _ hb⟩)))
      refine wpQuiet_nil ?_
      intro _ hw'
      obtain ⟨u, hw''⟩ := hw'
      subst hw''
      go_wp2_with fail
      go_ret
      exact ⟨rfl, u.h.b⟩
end Go.Proofs.YtidejjjedpdbeaaDoor

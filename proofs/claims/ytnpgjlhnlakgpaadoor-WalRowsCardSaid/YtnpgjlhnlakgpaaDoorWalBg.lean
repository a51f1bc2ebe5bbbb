/- The law's begins: are some texts a beginning of others?. -/
import Derived.Test.YtnpgjlhnlakgpaaDoorWalX
namespace Go.Proofs.YtnpgjlhnlakgpaaDoor
open Go.RowKit Go.Maps

/-- Where texts lie, their capacity known. -/
def TxtC (w : World) (v : Value) (L : List (List UInt8)) : Prop :=
  ∃ p cap, v = .slice p L.length cap ∧ L.length ≤ cap ∧ (L = [] ∨ ∃ g off, p = some ⟨g, off, none⟩ ∧ ∀ i s, L[i]? = some s → w.cell? ⟨g, off + i, none⟩ = some (.string (bs s)))
theorem TxtC.at {w : World} {v : Value} {L : List (List UInt8)} (h : TxtC w v L) : TxtAt w v L := by
  obtain ⟨p, cap, hv, _, h⟩ := h
  exact ⟨p, cap, hv, h⟩
theorem TxtC.below {w w' : World} {v : Value} {L : List (List UInt8)} (h : TxtC w v L) (hB : Below w.heap.size w w') : TxtC w' v L := by
  obtain ⟨p, cap, hv, hc, h⟩ := h
  obtain ⟨p', cap', hv', h'⟩ := TxtAt.below ⟨p, cap, hv, h⟩ hB
  rw [hv] at hv'
  cases hv'
  exact ⟨p, cap, hv, hc, h'⟩
theorem SL.atC {w W : World} {v : Value} {L : List (List UInt8)} (h : SL w W v L) : TxtC W v L := by
  obtain ⟨p, cap, hv, h1⟩ := h.at
  refine ⟨p, cap, hv, ?_, h1⟩
  rcases h.o.2 with ⟨hv', h0⟩ | ⟨g, cap', cur, hv', hg, hh, hnc, _⟩
  · omega
  · rw [hv] at hv'; injection hv' with _ _ e; omega
/-- The first ones of texts. -/
theorem TxtC.take {w : World} {p : Option Addr} {n cap : Nat} {L : List (List UInt8)} (h : TxtC w (.slice p n cap) L) (k : Nat) (hk : k ≤ n) : TxtC w (.slice p k cap) (L.take k) := by
  obtain ⟨p', cap', hv, hc, h⟩ := h
  cases hv
  have hl : (L.take k).length = k := by rw [List.length_take]; omega
  refine ⟨p, cap, by rw [hl], by omega, ?_⟩
  rcases h with h | ⟨g, off, hp, h⟩
  · exact .inl (by rw [h]; simp)
  · refine .inr ⟨g, off, hp, fun i s hi => h i s ?_⟩
    rw [List.getElem?_take] at hi
    split at hi
    · exact hi
    · cases hi
/-- Are some a beginning of others? -/
def begB (A B : List (List UInt8)) : Bool := decide (A.length ≤ B.length) && decide (A = B.take A.length)
set_option maxRecDepth 100000 in
set_option maxHeartbeats 4000000 in
theorem begins_any {w : World} {va vb : Value} {A B : List (List UInt8)} (ha : TxtC w va A) (hb : TxtC w vb B) (hl : A.length ≤ 8000000000000) :
    Calls Tryd.prog 34 #[va, vb] w fun e w' => e = .returned (.bool (begB A B)) ∧ Below w.heap.size w w' := by
  have hA := ha
  have hB := hb
  obtain ⟨pa, ca, rfl, hca, _⟩ := hA
  obtain ⟨pb, cb, rfl, hcb, _⟩ := hB
  obtain ⟨n, hn⟩ : ∃ n, A.length = n := ⟨_, rfl⟩
  obtain ⟨k, hk⟩ : ∃ k, B.length = k := ⟨_, rfl⟩
  unfold begB
  rw [hn] at ha hl hca ⊢
  rw [hk] at hb hcb ⊢
  by_cases hnk : n ≤ k
  · have HT : Hid (∀ q c W, TxtC W (.slice q n c) (B.take n) → TxtC W (.slice pa n ca) A → Calls Tryd.prog 33 #[.slice pa n ca, .slice q n c] W fun e w' => e = .returned (.bool (decide (A = B.take n))) ∧ Below W.heap.size W w') := fun q c W h1 h2 => texts_any h2.at h1.at (by rw [hn]; exact hl) (by rw [List.length_take]; omega)
    have HA := Lib.hid ha
    have HB := Lib.hid (hb.take n hnk)
    have hnki : (n : Int) ≤ (k : Int) := by omega
    have hnc : n ≤ cb := by omega
    have hnci : (n : Int) ≤ (cb : Int) := by omega
    obtain ⟨b, hbb⟩ : ∃ b, decide (A = B.take n) = b := ⟨_, rfl⟩
    rw [hbb] at HT ⊢
    rw [decide_eq_true hnk]
    clear ha hb hbb hn hk
    go_enter Tryd.func34, Tryd.ntmps34
    go_wp2_with (first
      | (go_at_call 33; (with_reducible refine (HT.out _ _ _ HB.out HA.out).mono ?_); rintro e w1 ⟨rfl, hb⟩; have HB1 := Lib.hid hb; clear hb)
      | fail)
    go_ret
    exact ⟨rfl, HB1.out⟩
  · have hnki : ¬ (n : Int) ≤ (k : Int) := by omega
    rw [decide_eq_false hnk]
    clear ha hb hn hk
    go_enter Tryd.func34, Tryd.ntmps34
    go_wp2_with fail
    go_ret
    exact ⟨rfl, Below.refl _ _⟩
end Go.Proofs.YtnpgjlhnlakgpaaDoor

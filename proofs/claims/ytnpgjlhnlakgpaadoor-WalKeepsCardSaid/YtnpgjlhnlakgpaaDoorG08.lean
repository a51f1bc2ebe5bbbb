/- The document's Texts: are two lists of texts the same?. The law's begins: are some texts a beginning of others?. -/
import Derived.Test.YtnpgjlhnlakgpaaDoorG06
import Derived.Deep.Cut
import Derived.Deep.QuietTactic
import Derived.BigQuiet
namespace Go.Proofs.YtnpgjlhnlakgpaaDoor
open Go.RowKit Go.Maps

/-- Where texts lie. -/
def TxtAt (w : World) (v : Value) (L : List (List UInt8)) : Prop :=
  ∃ p cap, v = .slice p L.length cap ∧ (L = [] ∨ ∃ g off, p = some ⟨g, off, none⟩ ∧ ∀ i s, L[i]? = some s → w.cell? ⟨g, off + i, none⟩ = some (.string (bs s)))
theorem TxtAt.below {w w' : World} {v : Value} {L : List (List UInt8)} (h : TxtAt w v L) (hB : Below w.heap.size w w') : TxtAt w' v L := by
  obtain ⟨p, cap, hv, h⟩ := h
  refine ⟨p, cap, hv, h.imp id ?_⟩
  rintro ⟨g, off, hp, hc⟩
  refine ⟨g, off, hp, fun i s hi => ?_⟩
  have := hc i s hi
  exact (hB.cell (p := ⟨g, off + i, none⟩) (World.block_lt_of_cell? w _ this)).trans this
theorem SL.at {w W : World} {v : Value} {L : List (List UInt8)} (h : SL w W v L) : TxtAt W v L := by
  rcases h.o.2 with ⟨hv, h0⟩ | ⟨g, cap, cur, hv, h1⟩
  · exact ⟨_, _, by rw [hv, h0], .inl (List.length_eq_zero_iff.1 h0)⟩
  · refine ⟨_, _, hv, .inr ⟨g, 0, rfl, fun i s hi => ?_⟩⟩
    have hb : v.ownBlock = some g := by rw [hv]; rfl
    have := h.o.cells hb i (.string (bs s)) (by simp [recVals, hi])
    have e : (⟨g, 0, none⟩ : Addr).add i = ⟨g, 0 + i, none⟩ := by
      unfold Addr.add
      split
      · simp
      · rfl
    rwa [e] at this
theorem bs_inj {a b : List UInt8} (h : bs a = bs b) : a = b := by
  have : (bs a).data.toList = (bs b).data.toList := by rw [h]
  simpa [bs] using this

set_option maxRecDepth 100000 in
set_option maxHeartbeats 4000000 in
theorem texts_any {w : World} {va vb : Value} {L M : List (List UInt8)} (ha : TxtAt w va L) (hb : TxtAt w vb M) (hl : L.length ≤ 8000000000000) (hm : M.length ≤ 8000000000000) :
    Calls Tryd.prog 33 #[va, vb] w fun e w' => e = .returned (.bool (decide (L = M))) ∧ Below w.heap.size w w' := by
  obtain ⟨pa, ca, rfl, ha⟩ := ha
  obtain ⟨pb, cb, rfl, hb⟩ := hb
  have HA := Lib.hid ha
  have HB := Lib.hid hb
  clear ha hb
  obtain ⟨n, hn⟩ : ∃ n, L.length = n := ⟨_, rfl⟩
  obtain ⟨k, hk⟩ : ∃ k, M.length = k := ⟨_, rfl⟩
  rw [hn] at hl ⊢
  rw [hk] at hm ⊢
  by_cases hnk : n = k
  · subst hnk
    have HN := Lib.hid hn
    have HK := Lib.hid hk
    clear hn hk
    go_enter Tryd.func33, Tryd.ntmps33
    go_wp2_with fail
    go_loopw [13] (fun iv wr => ∃ i : Nat, i ≤ n ∧ iv = .int .i64 (i : Int) ∧ Below w.heap.size w wr ∧ Hid (L.take i = M.take i)) (fun iv _ => n - (intOf iv).toNat)
    case atStart => exact ⟨0, Nat.zero_le _, rfl, Below.refl _ _, rfl⟩
    case round =>
      obtain ⟨i, hi, rfl, hbw, HT⟩ := hrel
      have HBW := Lib.hid hbw
      clear hbw
      by_cases hlt : i < n
      · have hla : L.length = n := HN.out
        have hlm : M.length = n := HK.out
        obtain ⟨s, hs⟩ : ∃ s, L[i]? = some s := ⟨L[i], List.getElem?_eq_getElem (by omega)⟩
        obtain ⟨t, ht⟩ : ∃ t, M[i]? = some t := ⟨M[i], List.getElem?_eq_getElem (by omega)⟩
        obtain ⟨g, o, rfl, hc⟩ := HA.out.resolve_left (fun e => by rw [e] at hla; simp at hla; omega)
        obtain ⟨g', o', rfl, hc'⟩ := HB.out.resolve_left (fun e => by rw [e] at hlm; simp at hlm; omega)
        have a0 := hc i s hs
        have b0 := hc' i t ht
        have hg : g < w.heap.size := World.block_lt_of_cell? w _ a0
        have hg' : g' < w.heap.size := World.block_lt_of_cell? w _ b0
        rw [← HBW.out.cell (p := ⟨g, o + i, none⟩) hg] at a0
        rw [← HBW.out.cell (p := ⟨g', o' + i, none⟩) hg'] at b0
        have hi1 : (i : Int) < (n : Int) := by omega
        have hi0 : (0 : Int) ≤ (i : Int) := by omega
        have hcmp : ((bs s).toList == (bs t).toList) = decide (s = t) := by
          rw [ByteArray.toList_eq, ByteArray.toList_eq, Bool.eq_iff_iff, beq_iff_eq, decide_eq_true_eq]
          simp [bs]
        have HT1 : Hid (L.take (i + 1) = L.take i ++ [s] ∧ M.take (i + 1) = M.take i ++ [t]) := ⟨by rw [List.take_add_one, hs]; rfl, by rw [List.take_add_one, ht]; rfl⟩
        have HNE : Hid (s ≠ t → L ≠ M) := fun h e => by rw [e] at hs; rw [hs] at ht; exact h (Option.some.inj ht)
        obtain ⟨S, hS⟩ : ∃ S, bs s = S := ⟨_, rfl⟩
        obtain ⟨T, hTT⟩ : ∃ T, bs t = T := ⟨_, rfl⟩
        rw [hS] at a0 hcmp
        rw [hTT] at b0 hcmp
        clear hs ht hc hc' hla hlm hS hTT
        by_cases hst : s = t
        · subst hst
          rw [decide_eq_true rfl] at hcmp
          go_upto_region 6 with fail
          go_quiet (fail)
          go_wp2_with fail
          go_roundw
          case rel => exact ⟨i + 1, by omega, by go_num, drN' HBW.out _, by show _ = _; rw [HT1.out.1, HT1.out.2, HT.out]⟩
          case measure => simp [intOf]; omega
        · have hE := Lib.hid (decide_eq_false (HNE.out hst))
          rw [decide_eq_false hst] at hcmp
          go_upto_region 6 with fail
          go_quiet (fail)
          go_wp2_with fail
          go_ret
          exact ⟨by rw [hE.out]; rfl, drN' HBW.out _⟩
      · obtain rfl : i = n := by omega
        have hE : Hid (decide (L = M) = true) := decide_eq_true (by
          have := HT.out
          rwa [List.take_of_length_le (by rw [HN.out]; omega), List.take_of_length_le (by rw [HK.out]; omega)] at this)
        go_wp2_with fail
        go_ret
        exact ⟨by rw [hE.out]; rfl, HBW.out⟩
  · have hE : Hid (decide (L = M) = false) := decide_eq_false (fun e => by rw [e, hk] at hn; exact hnk hn.symm)
    have hni : ¬ (n : Int) = (k : Int) := by omega
    have hnb : ((n : Int) != (k : Int)) = true := by simp; omega
    clear hn hk
    go_enter Tryd.func33, Tryd.ntmps33
    go_wp2_with fail
    go_ret
    exact ⟨by rw [hE.out]; rfl, Below.refl _ _⟩
end Go.Proofs.YtnpgjlhnlakgpaaDoor
namespace Go.Proofs.YtnpgjlhnlakgpaaDoor
open Go.RowKit Go.Maps

/-- Where texts lie, their capacity known. -/
def TxtC (w : World) (v : Value) (L : List (List UInt8)) : Prop :=
  ∃ p cap, v = .slice p L.length cap ∧ L.length ≤ cap ∧ (L = [] ∨ ∃ g off, p = some ⟨g, off, none⟩ ∧ ∀ i s, L[i]? = some s → w.cell? ⟨g, off + i, none⟩ = some (.string (bs s)))
theorem TxtC.at {w : World} {v : Value} {L : List (List UInt8)} (h : TxtC w v L) : TxtAt w v L := by
  obtain ⟨p, cap, hv, _, h⟩ := h
  exact ⟨p, cap, hv, h⟩
theorem TxtC.below {w w' : World} {v : Value} {L : List (List UInt8)} (h : TxtC w v L) (hB : Below w.heap.size w w') : TxtC w' v L := by
  obtain ⟨p, cap, hv, hc, h⟩ := h
  obtain ⟨p', cap', hv', h'⟩ := TxtAt.below ⟨p, cap, hv, h⟩ hB
  rw [hv] at hv'
  cases hv'
  exact ⟨p, cap, hv, hc, h'⟩
theorem SL.atC {w W : World} {v : Value} {L : List (List UInt8)} (h : SL w W v L) : TxtC W v L := by
  obtain ⟨p, cap, hv, h1⟩ := h.at
  refine ⟨p, cap, hv, ?_, h1⟩
  rcases h.o.2 with ⟨hv', h0⟩ | ⟨g, cap', cur, hv', hg, hh, hnc, _⟩
  · omega
  · rw [hv] at hv'; injection hv' with _ _ e; omega
/-- The first ones of texts. -/
theorem TxtC.take {w : World} {p : Option Addr} {n cap : Nat} {L : List (List UInt8)} (h : TxtC w (.slice p n cap) L) (k : Nat) (hk : k ≤ n) : TxtC w (.slice p k cap) (L.take k) := by
  obtain ⟨p', cap', hv, hc, h⟩ := h
  cases hv
  have hl : (L.take k).length = k := by rw [List.length_take]; omega
  refine ⟨p, cap, by rw [hl], by omega, ?_⟩
  rcases h with h | ⟨g, off, hp, h⟩
  · exact .inl (by rw [h]; simp)
  · refine .inr ⟨g, off, hp, fun i s hi => h i s ?_⟩
    rw [List.getElem?_take] at hi
    split at hi
    · exact hi
    · cases hi
/-- Are some a beginning of others? -/
def begB (A B : List (List UInt8)) : Bool := decide (A.length ≤ B.length) && decide (A = B.take A.length)
set_option maxRecDepth 100000 in
set_option maxHeartbeats 4000000 in
theorem begins_any {w : World} {va vb : Value} {A B : List (List UInt8)} (ha : TxtC w va A) (hb : TxtC w vb B) (hl : A.length ≤ 8000000000000) :
    Calls Tryd.prog 34 #[va, vb] w fun e w' => e = .returned (.bool (begB A B)) ∧ Below w.heap.size w w' := by
  have hA := ha
  have hB := hb
  obtain ⟨pa, ca, rfl, hca, _⟩ := hA
  obtain ⟨pb, cb, rfl, hcb, _⟩ := hB
  obtain ⟨n, hn⟩ : ∃ n, A.length = n := ⟨_, rfl⟩
  obtain ⟨k, hk⟩ : ∃ k, B.length = k := ⟨_, rfl⟩
  unfold begB
  rw [hn] at ha hl hca ⊢
  rw [hk] at hb hcb ⊢
  by_cases hnk : n ≤ k
  · have HT : Hid (∀ q c W, TxtC W (.slice q n c) (B.take n) → TxtC W (.slice pa n ca) A → Calls Tryd.prog 33 #[.slice pa n ca, .slice q n c] W fun e w' => e = .returned (.bool (decide (A = B.take n))) ∧ Below W.heap.size W w') := fun q c W h1 h2 => texts_any h2.at h1.at (by rw [hn]; exact hl) (by rw [List.length_take]; omega)
    have HA := Lib.hid ha
    have HB := Lib.hid (hb.take n hnk)
    have hnki : (n : Int) ≤ (k : Int) := by omega
    have hnc : n ≤ cb := by omega
    have hnci : (n : Int) ≤ (cb : Int) := by omega
    obtain ⟨b, hbb⟩ : ∃ b, decide (A = B.take n) = b := ⟨_, rfl⟩
    rw [hbb] at HT ⊢
    rw [decide_eq_true hnk]
    clear ha hb hbb hn hk
    go_enter Tryd.func34, Tryd.ntmps34
    go_wp2_with (first
      | (go_at_call 33; (with_reducible refine (HT.out _ _ _ HB.out HA.out).mono ?_); rintro e w1 ⟨rfl, hb⟩; have HB1 := Lib.hid hb; clear hb)
      | fail)
    go_ret
    exact ⟨rfl, HB1.out⟩
  · have hnki : ¬ (n : Int) ≤ (k : Int) := by omega
    rw [decide_eq_false hnk]
    clear ha hb hn hk
    go_enter Tryd.func34, Tryd.ntmps34
    go_wp2_with fail
    go_ret
    exact ⟨rfl, Below.refl _ _⟩
end Go.Proofs.YtnpgjlhnlakgpaaDoor

/- The document's Texts: are two lists of texts the same?. Bytes in a block of the call's own. The names of the log's segments: the first one. -/
import Derived.Test.YtnpgjlhnlakgpaaGreatDoorG08
import Derived.Deep.Cut
import Derived.Deep.QuietTactic
import Derived.BigQuiet
import Derived.Lib.ConvBytes
import Derived.Laws.IdiomStrings
import Derived.WalkKit
import Derived.Test.YtnpgjlhnlakgpaaGreatDoorShelf
namespace Go.Proofs.YtnpgjlhnlakgpaaGreatDoor
open Go.RowKit Go.Maps

/-- Where texts lie. -/
def TxtAt (w : World) (v : Value) (L : List (List UInt8)) : Prop :=
  ∃ p cap, v = .slice p L.length cap ∧ (L = [] ∨ ∃ g off, p = some ⟨g, off, none⟩ ∧ ∀ i s, L[i]? = some s → w.cell? ⟨g, off + i, none⟩ = some (.string (bs s)))
theorem TxtAt.below {w w' : World} {v : Value} {L : List (List UInt8)} (h : TxtAt w v L) (hB : Below w.heap.size w w') : TxtAt w' v L := by
  obtain ⟨p, cap, hv, h⟩ := h
  refine ⟨p, cap, hv, h.imp id ?_⟩
  rintro ⟨g, off, hp, hc⟩
  refine ⟨g, off, hp, fun i s hi => ?_⟩
  have := hc i s hi
  exact (hB.cell (p := ⟨g, off + i, none⟩) (World.block_lt_of_cell? w _ this)).trans this
theorem SL.at {w W : World} {v : Value} {L : List (List UInt8)} (h : SL w W v L) : TxtAt W v L := by
  rcases h.o.2 with ⟨hv, h0⟩ | ⟨g, cap, cur, hv, h1⟩
  · exact ⟨_, _, by rw [hv, h0], .inl (List.length_eq_zero_iff.1 h0)⟩
  · refine ⟨_, _, hv, .inr ⟨g, 0, rfl, fun i s hi => ?_⟩⟩
    have hb : v.ownBlock = some g := by rw [hv]; rfl
    have := h.o.cells hb i (.string (bs s)) (by simp [recVals, hi])
    have e : (⟨g, 0, none⟩ : Addr).add i = ⟨g, 0 + i, none⟩ := by
      unfold Addr.add
      split
      · simp
      · rfl
    rwa [e] at this
theorem bs_inj {a b : List UInt8} (h : bs a = bs b) : a = b := by
  have : (bs a).data.toList = (bs b).data.toList := by rw [h]
  simpa [bs] using this

set_option maxRecDepth 100000 in
set_option maxHeartbeats 4000000 in
theorem texts_any {w : World} {va vb : Value} {L M : List (List UInt8)} (ha : TxtAt w va L) (hb : TxtAt w vb M) (hl : L.length ≤ 8000000000000) (hm : M.length ≤ 8000000000000) :
    Calls Tryz.prog 38 #[va, vb] w fun e w' => e = .returned (.bool (decide (L = M))) ∧ Below w.heap.size w w' := by
  obtain ⟨pa, ca, rfl, ha⟩ := ha
  obtain ⟨pb, cb, rfl, hb⟩ := hb
  have HA := Lib.hid ha
  have HB := Lib.hid hb
  clear ha hb
  obtain ⟨n, hn⟩ : ∃ n, L.length = n := ⟨_, rfl⟩
  obtain ⟨k, hk⟩ : ∃ k, M.length = k := ⟨_, rfl⟩
  rw [hn] at hl ⊢
  rw [hk] at hm ⊢
  by_cases hnk : n = k
  · subst hnk
    have HN := Lib.hid hn
    have HK := Lib.hid hk
    clear hn hk
    go_enter Tryz.func38, Tryz.ntmps38
    go_wp2_with fail
    go_loopw [13] (fun iv wr => ∃ i : Nat, i ≤ n ∧ iv = .int .i64 (i : Int) ∧ Below w.heap.size w wr ∧ Hid (L.take i = M.take i)) (fun iv _ => n - (intOf iv).toNat)
    case atStart => exact ⟨0, Nat.zero_le _, rfl, Below.refl _ _, rfl⟩
    case round =>
      obtain ⟨i, hi, rfl, hbw, HT⟩ := hrel
      have HBW := Lib.hid hbw
      clear hbw
      by_cases hlt : i < n
      · have hla : L.length = n := HN.out
        have hlm : M.length = n := HK.out
        obtain ⟨s, hs⟩ : ∃ s, L[i]? = some s := ⟨L[i], List.getElem?_eq_getElem (by omega)⟩
        obtain ⟨t, ht⟩ : ∃ t, M[i]? = some t := ⟨M[i], List.getElem?_eq_getElem (by omega)⟩
        obtain ⟨g, o, rfl, hc⟩ := HA.out.resolve_left (fun e => by rw [e] at hla; simp at hla; omega)
        obtain ⟨g', o', rfl, hc'⟩ := HB.out.resolve_left (fun e => by rw [e] at hlm; simp at hlm; omega)
        have a0 := hc i s hs
        have b0 := hc' i t ht
        have hg : g < w.heap.size := World.block_lt_of_cell? w _ a0
        have hg' : g' < w.heap.size := World.block_lt_of_cell? w _ b0
        rw [← HBW.out.cell (p := ⟨g, o + i, none⟩) hg] at a0
        rw [← HBW.out.cell (p := ⟨g', o' + i, none⟩) hg'] at b0
        have hi1 : (i : Int) < (n : Int) := by omega
        have hi0 : (0 : Int) ≤ (i : Int) := by omega
        have hcmp : ((bs s).toList == (bs t).toList) = decide (s = t) := by
          rw [ByteArray.toList_eq, ByteArray.toList_eq, Bool.eq_iff_iff, beq_iff_eq, decide_eq_true_eq]
          simp [bs]
        have HT1 : Hid (L.take (i + 1) = L.take i ++ [s] ∧ M.take (i + 1) = M.take i ++ [t]) := ⟨by rw [List.take_add_one, hs]; rfl, by rw [List.take_add_one, ht]; rfl⟩
        have HNE : Hid (s ≠ t → L ≠ M) := fun h e => by rw [e] at hs; rw [hs] at ht; exact h (Option.some.inj ht)
        obtain ⟨S, hS⟩ : ∃ S, bs s = S := ⟨_, rfl⟩
        obtain ⟨T, hTT⟩ : ∃ T, bs t = T := ⟨_, rfl⟩
        rw [hS] at a0 hcmp
        rw [hTT] at b0 hcmp
        clear hs ht hc hc' hla hlm hS hTT
        by_cases hst : s = t
        · subst hst
          rw [decide_eq_true rfl] at hcmp
          go_upto_region 6 with fail
          go_quiet (fail)
          go_wp2_with fail
          go_roundw
          case rel => exact ⟨i + 1, by omega, by go_num, drN' HBW.out _, by show _ = _; rw [HT1.out.1, HT1.out.2, HT.out]⟩
          case measure => simp [intOf]; omega
        · have hE := Lib.hid (decide_eq_false (HNE.out hst))
          rw [decide_eq_false hst] at hcmp
          go_upto_region 6 with fail
          go_quiet (fail)
          go_wp2_with fail
          go_ret
          exact ⟨by rw [hE.out]; rfl, drN' HBW.out _⟩
      · obtain rfl : i = n := by omega
        have hE : Hid (decide (L = M) = true) := decide_eq_true (by
          have := HT.out
          rwa [List.take_of_length_le (by rw [HN.out]; omega), List.take_of_length_le (by rw [HK.out]; omega)] at this)
        go_wp2_with fail
        go_ret
        exact ⟨by rw [hE.out]; rfl, HBW.out⟩
  · have hE : Hid (decide (L = M) = false) := decide_eq_false (fun e => by rw [e, hk] at hn; exact hnk hn.symm)
    have hni : ¬ (n : Int) = (k : Int) := by omega
    have hnb : ((n : Int) != (k : Int)) = true := by simp; omega
    clear hn hk
    go_enter Tryz.func38, Tryz.ntmps38
    go_wp2_with fail
    go_ret
    exact ⟨by rw [hE.out]; rfl, Below.refl _ _⟩
end Go.Proofs.YtnpgjlhnlakgpaaGreatDoor
namespace Go.Proofs.YtnpgjlhnlakgpaaGreatDoor
open Go.RowKit Go.Maps Go.Lib

/-- Bytes in a block of the call's own. -/
def ByR (w : World) (k : Nat) (l : List UInt8) : Prop := ∀ j, j < l.length → w.cell? ⟨k, j, none⟩ = some (.int .u8 ((l.getD j 0).toNat : Int)) ∧ w.frozen? ⟨k, j, none⟩ = false
theorem ByR.new (w : World) (e : TypeId) (s : ByteArray) : ByR (bytesWorld w e s) w.heap.size s.data.toList := fun j hj => by
  have hj' : j < s.size := by simpa using hj
  refine ⟨bytesWorld_cell w e s j hj', ?_⟩
  unfold World.frozen?
  rw [bytesWorld_at_new]
  have : s.size ≤ (bytesCells w e s).size := by simp [bytesCells]
  simp
  omega
theorem newBytesR (w : World) (e : TypeId) (s : ByteArray) : Below w.heap.size w (bytesWorld w e s) :=
  ⟨rfl, rfl, rfl, by rw [bytesWorld_size]; omega, fun k hk => bytesWorld_at_old w e s k hk⟩
theorem ByR.drewN {w : World} {k n : Nat} {l : List UInt8} (h : ByR w k l) : ByR (w.drewN n) k l := h
theorem ByR.set {w : World} {k : Nat} {l : List UInt8} (h : ByR w k l) {x : Nat} (hx : x < l.length) (c : UInt8) : ByR (w.setCell ⟨k, x, none⟩ (.int .u8 (c.toNat : Int))) k (l.set x c) := fun j hj => by
  have hj' : j < l.length := by simpa using hj
  refine ⟨?_, by rw [World.frozen?_setCell]; exact (h j hj').2⟩
  by_cases hjx : j = x
  · subst hjx
    rw [World.cell?_setCell_same _ _ _ (h j hj').1]
    simp [List.getD_eq_getElem?_getD, hj']
  · have hne : (⟨k, x, none⟩ : Addr) ≠ ⟨k, j, none⟩ := fun e => hjx (Addr.mk.inj e).2.1.symm
    rw [World.cell?_setCell_other (h := hne), (h j hj').1]
    have hxj : ¬ x = j := fun e => hjx e.symm
    simp [List.getD_eq_getElem?_getD, hxj]
theorem ByR.back {w : World} {k : Nat} {l : List UInt8} (h : ByR w k l) (n cap : Nat) (hn : l.length = n) :
    (convert 98 9 (.slice (some ⟨k, 0, none⟩) n cap)).run Tryz.prog w = .ok (.string (bs l)) w := by
  subst hn
  refine run_convert_bytes_back (P := Tryz.prog) w 98 9 5 ⟨k, 0, none⟩ cap l Tryz.underlying98 Tryz.underlying5 Tryz.underlying9 fun j hj => ?_
  have hadd : (⟨k, 0, none⟩ : Addr).add j = ⟨k, j, none⟩ := by unfold Addr.add; split <;> simp_all
  rw [hadd, (h j hj).1]
  simp [List.getD_eq_getElem?_getD, hj]
end Go.Proofs.YtnpgjlhnlakgpaaGreatDoor
namespace Go.Proofs.YtnpgjlhnlakgpaaGreatDoor
open Go.RowKit Go.Maps

/-- log.000000000001 -/
def nm1 : ByteArray := ⟨#[108, 111, 103, 46, 48, 48, 48, 48, 48, 48, 48, 48, 48, 48, 48, 49]⟩
set_option maxRecDepth 100000 in
set_option maxHeartbeats 2000000 in
theorem name_one (w : World) : Calls Tryz.prog 48 #[.int .i64 1] w fun e w' => e = .returned (.string nm1) ∧ Below w.heap.size w w' := by
  have P1 : Hid (Calls Tryz.prog 78 #[.int .i64 1] w fun e w' => e = .returned (.string ⟨#[49]⟩) ∧ w' = w) := by
    have h := Tryz.strconv_Itoa_small 1 (by decide) w
    rw [show (⟨(Lib.decDigits 1).toArray⟩ : ByteArray) = ⟨#[49]⟩ from by kernel_rfl] at h
    exact h
  have P2 : Hid (Calls Tryz.prog 79 #[.string ⟨#[48]⟩, .int .i64 11] w fun e w' => e = .returned (.string ⟨#[48, 48, 48, 48, 48, 48, 48, 48, 48, 48, 48]⟩) ∧ Below w.heap.size w w') := by
    have h := Tryz.strings_Repeat ⟨#[48]⟩ 11 w (by decide) (by decide)
    rw [show (⟨(Lib.repeatL (ByteArray.mk #[48]).data.toList 11).toArray⟩ : ByteArray) = ⟨#[48, 48, 48, 48, 48, 48, 48, 48, 48, 48, 48]⟩ from by kernel_rfl] at h
    exact h
  have hz : (ByteArray.mk #[49]).size = 1 := rfl
  have hA : (ByteArray.mk #[108, 111, 103, 46]) ++ (ByteArray.mk #[48, 48, 48, 48, 48, 48, 48, 48, 48, 48, 48]) ++ (ByteArray.mk #[49]) = nm1 := by kernel_rfl
  obtain ⟨I, hI⟩ : ∃ I : ByteArray, I = ⟨#[49]⟩ := ⟨_, rfl⟩
  obtain ⟨R, hR⟩ : ∃ R : ByteArray, R = ⟨#[48, 48, 48, 48, 48, 48, 48, 48, 48, 48, 48]⟩ := ⟨_, rfl⟩
  have hz2 : R.size = 11 := by rw [hR]; rfl
  have hz4 : (ByteArray.mk #[108, 111, 103, 46]).size = 4 := rfl
  have hz3 : (ByteArray.mk #[108, 111, 103, 46] ++ R).size = 15 := by rw [ByteArray.size_append]; omega
  rw [← hI] at P1 hz
  rw [← hR] at P2
  rw [← hI, ← hR] at hA
  clear hI hR
  go_enter Tryz.func48, Tryz.ntmps48
  go_wp2_with (first
    | (go_at_call 78; refine P1.out.mono ?_; rintro e w9 ⟨rfl, hw9⟩; rw [hw9]; clear hw9)
    | (go_at_call 79; refine P2.out.mono ?_; rintro e w2 ⟨rfl, hb⟩; have HB := Lib.hid hb; clear hb)
    | fail)
  go_ret
  exact ⟨rfl, HB.out⟩
end Go.Proofs.YtnpgjlhnlakgpaaGreatDoor

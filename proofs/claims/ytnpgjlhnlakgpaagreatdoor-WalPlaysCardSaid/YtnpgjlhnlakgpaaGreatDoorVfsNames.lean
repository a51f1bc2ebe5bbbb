/- The contract of the disk's names: all names, rising. -/
import Derived.Test.YtnpgjlhnlakgpaaGreatDoorG04
import Derived.Sort.OwnSorted
import Derived.Sort.KeysCollected
import Derived.Maps.RangeWalk
namespace Go.Proofs.YtnpgjlhnlakgpaaGreatDoor
open Go.RowKit Go.Maps Go.Sort

theorem before_lt : ∀ {a b : List UInt8}, bytesBefore a b = true → a < b
  | [], [], h => by simp [bytesBefore] at h
  | [], _ :: _, _ => List.nil_lt_cons _ _
  | _ :: _, [], h => by simp [bytesBefore] at h
  | x :: r, y :: s, h => by
    simp only [bytesBefore, Bool.or_eq_true, Bool.and_eq_true, decide_eq_true_eq, beq_iff_eq] at h
    rw [List.cons_lt_cons_iff]
    rcases h with h | ⟨h1, h2⟩
    · exact .inl h
    · exact .inr ⟨h1, before_lt h2⟩
theorem keys_sorted {L : List Fl} (h : Rising L) : (L.map Fl.key).mergeSort leB = L.map Fl.key := by
  apply List.mergeSort_of_pairwise
  rw [List.pairwise_map]
  exact h.imp fun hb => by simp only [leB, decide_eq_true_eq]; exact List.le_of_lt (before_lt hb)

/-- What sort.Strings of the library does. -/
structure SortC : Prop where
  some : ∀ (blk off cap : Nat) (ss : List (List UInt8)) (w : World), Holds encStr w blk off ss.toArray → blk < w.heap.size → ss.length < 4611686018427387904 →
    Calls Tryz.prog 73 #[.slice (some ⟨blk, off, none⟩) ss.length cap] w fun e w' => e = .returned (.tuple #[]) ∧ ∃ n os, w' = grow (putRow encStr (Sort.ahead w n) blk off (ss.mergeSort fun x y => decide (x ≤ y)).toArray) os
  none : ∀ (p : Option Addr) (cap : Nat) (w : World), Calls Tryz.prog 73 #[.slice p 0 cap] w fun e w' => e = .returned (.tuple #[]) ∧ Below w.heap.size w w'

theorem strinfo : (Tryz.prog.info? 9).map (fun i => (i.zero, i.size, i.bytes)) = some (some (.string ⟨#[]⟩), 1, 16) := by kernel_rfl
def nameVals (L : List Fl) : List Value := L.map fun f => Value.string f.name
theorem nameVals_enc (L : List Fl) : (L.map Fl.key).map encStr = nameVals L := by
  unfold nameVals
  rw [List.map_map]
  apply List.map_congr_left
  intro f _
  rfl

set_option maxRecDepth 100000 in
set_option maxHeartbeats 4000000 in
theorem names_any (hS : SortC) {d : Dk} {w : World} {b m : Nat} (h : DAt w b m d) (hok : d.Ok) :
    Calls Tryz.prog 42 #[.pointer (some ⟨b, 0, none⟩)] w fun e w' => ∃ v, e = .returned v ∧ w'.ownsRow w.heap.size 9 1 v d.L.length (nameVals d.L) ∧ Below w.heap.size w w' := by
  obtain ⟨i0, hi, hz0, hz1, hz2⟩ := info_parts strinfo
  have c2 := h.c2
  have hmw := h.ltm
  have hbw := h.lt
  have H := Lib.hid h
  have hmany := hok.many
  have HR := Lib.hid hok.rise
  clear h hok
  go_enter Tryz.func42, Tryz.ntmps42
  go_wp2_with (first | (at_range; refine wpList_range_own _ rfl _ 50 rfl 9 78 lawK Tryz.underlying50 flElem m d.L.length _ rfl H.out.own ?_; intro w0 hrg0 hg0 hs0) | fail)
  go_frame
  rw [dm_size] at hrg0
  clear hs0
  go_loopw [3] (fun v wr => ∃ (left : Lit → Bool) (cnt : Nat) (ss : List (List UInt8)), wr.ranges Tryz.prog 9 flElem m w.heap.size d.L.length (dm d.L) left cnt ∧ ss.length + cnt ≤ d.L.length ∧
      wr.ownsRow w.heap.size 9 1 v ss.length (ss.map encStr) ∧ Collected (dm d.L) left ss ∧ Below w.heap.size w wr)
    (fun _ wr => wr.rangeLeft m w.heap.size)
  case atStart =>
    exact ⟨_, _, [], hrg0, by simp, World.ownsRow_nil _ _ _ _, Collected.start _, (Below.refl _ _).grown hg0 (Nat.le_refl _) (fun j hj => by cases hj)⟩
  case round =>
    obtain ⟨left, cnt, ss, hrg, hcs, hrow, hC, hnx⟩ := hrel
    have HRG := Lib.hid hrg
    have HROW := Lib.hid hrow
    have HC := Lib.hid hC
    have HNX := Lib.hid hnx
    have hsz := hnx.size
    clear hrg0 hg0 hrg hrow hC hnx c2
    go_wp2_with (first
      | (at_next; refine wpList_next_ranges _ rfl _ rfl 9 lawK flElem encStr Fl.val (fun key kl hk => by obtain ⟨x, hx, _⟩ := Maps.keyOf_str Tryz.underlying9 hk; exact ⟨x, hx⟩) (fun v y hv => by obtain ⟨c, rfl, _⟩ := flElem_inv hv; exact ⟨c, rfl⟩) m w.heap.size d.L.length _ _ _ rfl HRG.out ?_ ?_)
      | fail)
    · intro hc0 hl0
      have HP := Lib.hid (HC.out.perm HRG.out.owns lawK Tryz.underlying9 hl0)
      have HSO := Lib.hid (show (ss.mergeSort fun x y => decide (x ≤ y)) = d.L.map Fl.key by rw [show (fun x y : List UInt8 => decide (x ≤ y)) = leB from rfl, mergeSort_of_perm HP.out, dm_keys, keys_sorted HR.out])
      have HLN := Lib.hid (show ss.length = d.L.length by have := HP.out.length_eq; rw [dm_keys] at this; simpa using this)
      clear hl0 hc0
      rcases HROW.out.2 with ⟨rfl, hnil⟩ | ⟨g, cap, cur, rfl, hbase, hb, h1, h2, h3, h4⟩
      · have hss : ss = [] := by simpa using hnil
        subst hss
        clear hnil
        go_wp2_with (first | (go_at_call 73; refine (hS.none _ _ _).mono ?_; rintro e w' ⟨rfl, hB1⟩; have HB1 := Lib.hid hB1; clear hB1) | fail)
        go_ret
        have hL0 : d.L = [] := by have := HLN.out; exact List.length_eq_zero_iff.1 this.symm
        refine ⟨_, rfl, ?_, HNX.out.trans (HB1.out.mono hsz)⟩
        rw [hL0]
        exact World.ownsRow_nil _ _ _ _
      · have hH : Holds encStr wr g 0 ss.toArray := holds_of_block hb (by simpa using h4)
        have hgl : g < wr.heap.size := (Array.getElem?_eq_some_iff.1 hb).1
        have hc := hS.some g 0 cap ss wr hH hgl (by omega)
        have HH := Lib.hid (And.intro hb (And.intro h1 (And.intro h2 h3)))
        clear hb h1 h2 h3 h4 hH
        go_wp2_with (first | (go_at_call 73; refine hc.mono ?_; rintro e w' ⟨rfl, nn, os, rfl⟩) | fail)
        go_ret
        obtain ⟨hb, h1, h2, h3⟩ := HH.out
        refine ⟨_, rfl, ?_, HNX.out.grown (grownBy_sorted _) hsz (fun j hj => by cases hj; exact hbase)⟩
        have ho := ownsRow_sorted (w := wr) (n := nn) (os := os) (ts := ss.mergeSort fun x y => decide (x ≤ y)) (ss := ss) (by simp) hbase hb h1 h2 h3
        rw [HSO.out] at ho ⊢
        rw [nameVals_enc] at ho
        rw [← HLN.out]
        exact ho
    · intro x c kl yd yp w2 cnt2 hkey hlk hv hat hrg2 hlt hg2 hs2 hen
      obtain ⟨x', ex, rfl, _⟩ := Maps.keyOf_str Tryz.underlying9 hkey
      obtain rfl : x = x' := encStr_inj ex
      have hrow2 := HROW.out.kept hg2 (Or.inr (row_ne_iter HROW.out HRG.out).symm)
      have HRW2 := Lib.hid hrow2
      have HG2 := Lib.hid hg2
      have HRG2 := Lib.hid hrg2
      have hz2' := hg2.size
      have HCS := Lib.hid (HC.out.step hlk hat)
      have HLT := Lib.hid hlt
      have hlt2 := hlt
      clear hs2 hrow2 hg2 hrg2 hkey hlk hat hv ex
      go_wp2_with (first
        | (at_builtin; refine wpList_append_own _ rfl _ _ 55 rfl w.heap.size 9 i0 (.string ⟨#[]⟩) 1 16 Tryz.underlying55 hi hz0 hz1 hz2 rfl (by decide) _ _ _ rfl (HRW2.out.alloc _) ⟨w2.heap.size, 0, none⟩ 1 1 [encStr x] rfl rfl (cell_one_new _ _ _) (by simp [Value.oneCell', encStr]) (by unfold maxLen at *; omega) (by omega) (by simp; omega) ?_; intro v' w3 hown' hg3 hnil3; go_frame)
        | fail)
      have hrg3 := (HRG2.out.alloc _).kept hg3 (row_ne_low HRW2.out hmw) (row_ne_iter HRW2.out HRG2.out)
      go_roundw
      case rel =>
        refine ⟨_, cnt2, ss ++ [x], hrg3, by simp; omega, by simpa using hown', HCS.out, ?_⟩
        exact ((HNX.out.grown HG2.out hsz (fun j hj => by cases hj; exact Nat.le_refl _)).alloc (by omega) _).grown hg3 (by simp; omega) (fun j hj => (HRW2.out.lt j hj).1)
      case measure => rw [hrg3.left_eq, HRG.out.left_eq]; exact HLT.out
end Go.Proofs.YtnpgjlhnlakgpaaGreatDoor

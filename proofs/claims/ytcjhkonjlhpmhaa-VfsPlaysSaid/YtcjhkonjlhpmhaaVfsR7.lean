/- Contracts of the reference's disk: Read, Arm, New, Clone, List; of the disk's List; of Texts. -/
import Derived.Test.YtcjhkonjlhpmhaaVfsR6
import Derived.Deep.QuietTactic
import Derived.BigQuiet
namespace Go.Proofs.Ytcjhkonjlhpmhaa
open Go.RowKit Go.Maps

set_option maxRecDepth 100000 in
set_option maxHeartbeats 4000000 in
theorem ref_read {d : Dk} {w : World} {b g : Nat} (h : RAt w b g d) (hok : d.Ok) (nm : ByteArray) :
    Calls Try.prog 48 #[.pointer (some ⟨b, 0, none⟩), .string nm] w fun e w' => e = .returned (.tuple #[.string (d.read nm).1, .int .i64 (d.read nm).2]) ∧ Below w.heap.size w w' := by
  have H := Lib.hid h
  have hm := hok.many
  clear h
  by_cases ho : d.off = true
  · have E := Lib.hid (show d.read nm = (⟨#[]⟩, 143) by simp [Dk.read, ho]; rfl)
    have HO := Lib.hid ho
    clear ho
    rw [E.out]
    go_enter Try.func48, Try.ntmps48
    go_wp2_with fail
    refine (ref_at H.out hm nm).mono ?_
    rintro e w1 ⟨rfl, hB1⟩
    have c3 := (H.out.below hB1).c3
    rw [HO.out] at c3
    have HB1 := Lib.hid hB1
    clear hB1
    go_wp2_with fail
    go_ret2
    exact ⟨rfl, HB1.out⟩
  · have ho' : d.off = false := by simpa using ho
    have HO := Lib.hid ho'
    cases hf : findF nm.data.toList d.L with
    | none =>
      have E := Lib.hid (show d.read nm = (⟨#[]⟩, 140) by simp [Dk.read, ho', hf]; rfl)
      have HF := Lib.hid hf
      clear ho ho' hf
      rw [E.out]
      go_enter Try.func48, Try.ntmps48
      go_wp2_with fail
      refine (ref_at_miss H.out hm HF.out).mono ?_
      rintro e w1 ⟨rfl, hB1⟩
      have c3 := (H.out.below hB1).c3
      rw [HO.out] at c3
      have HB1 := Lib.hid hB1
      clear hB1
      go_wp2_with fail
      go_ret2
      exact ⟨rfl, HB1.out⟩
    | some f =>
      have E := Lib.hid (show d.read nm = (f.bytes, 0) by simp [Dk.read, ho', hf])
      obtain ⟨i, hix, hif⟩ := idx_some hf
      have HI := Lib.hid hix
      have HIF := Lib.hid hif
      have hil : i < d.L.length := (List.getElem?_eq_some_iff.1 hif).1
      clear ho ho' hf hix hif
      rw [E.out]
      go_enter Try.func48, Try.ntmps48
      go_wp2_with fail
      refine (ref_at_hit H.out hm HI.out).mono ?_
      rintro e w1 ⟨rfl, hB1⟩
      have HD1 := H.out.below hB1
      have c3 := HD1.c3
      rw [HO.out] at c3
      obtain ⟨c, x1, hgb, a0, a1, a2, e1, e2⟩ := HD1.file HIF.out
      obtain ⟨fn, fb, fs⟩ := f
      simp only at a1
      have HB1 := Lib.hid hB1
      clear hB1 HD1 a0 a2 e1 e2
      go_wp2_with fail
      go_ret2
      exact ⟨rfl, HB1.out⟩

set_option maxHeartbeats 2000000 in
theorem ref_arm {d : Dk} {w : World} {b g : Nat} (h : RAt w b g d) (n : Int) :
    Calls Try.prog 52 #[.pointer (some ⟨b, 0, none⟩), .int .i64 n] w fun e w' => e = .returned (.tuple #[]) ∧ ROut w w' b g (d.arm n) := by
  have c3 := h.c3
  obtain ⟨lv, hc, hr⟩ := id h
  have c2 := hc.c2
  have f2 := hc.f2
  have H := Lib.hid h
  have HC := Lib.hid hc
  have HR := Lib.hid hr
  clear h hc hr
  by_cases ho : d.off = true
  · have E := Lib.hid (show d.arm n = d by simp [Dk.arm, ho])
    rw [ho] at c3
    clear ho
    rw [E.out]
    go_enter Try.func52, Try.ntmps52
    go_wp2_with fail
    exact bodyPost_ret (results_none rfl _ _ _) rfl ⟨rfl, ROut.same H.out (Kp.refl _ _ _)⟩
  · have ho' : d.off = false := by simpa using ho
    rw [ho'] at c3
    by_cases hn : 0 ≤ n
    · obtain ⟨k, rfl⟩ : ∃ k : Nat, n = (k : Int) := ⟨n.toNat, by omega⟩
      have E := Lib.hid (show d.arm k = { d with armed := true, left := k } by simp [Dk.arm, ho'])
      clear ho ho' hn
      rw [E.out]
      go_enter Try.func52, Try.ntmps52
      go_wp2_with fail
      all_goals first
        | (exfalso; omega)
        | (go_end0
           refine ⟨rfl, ROut.same ?_ ((Kp.refl _ _ _).setCell 2 _)⟩
           (try rw [show max (k : Int) (-1) = (k : Int) by omega])
           exact ⟨lv, HC.out.set2 (k : Int), HR.out.of fun hgb => Below.heap_setCell _ _ _ _ hgb⟩)
    · have E := Lib.hid (show d.arm n = { d with armed := false, left := 0 } by simp [Dk.arm, ho']; omega)
      have hn' : n < 0 := by omega
      clear ho ho' hn
      rw [E.out]
      go_enter Try.func52, Try.ntmps52
      go_wp2_with fail
      all_goals first
        | (go_end0
           refine ⟨rfl, ROut.same ?_ ((Kp.refl _ _ _).setCell 2 _)⟩
           (try rw [show max n (-1) = (-1 : Int) by omega])
           exact ⟨lv, HC.out.set2 (-1), HR.out.of fun hgb => Below.heap_setCell _ _ _ _ hgb⟩)
        | (obtain rfl : n = -1 := by omega
           go_end0
           refine ⟨rfl, ROut.same ?_ ((Kp.refl _ _ _).setCell 2 _)⟩
           exact ⟨lv, HC.out.set2 (-1), HR.out.of fun hgb => Below.heap_setCell _ _ _ _ hgb⟩)
theorem rc_new (w : World) (room : Int) (lv : Value) (armed : Int) (off : Bool) (count : Int) (t : TypeId) :
    RC (w.alloc (.cells #[.int .i64 room, lv, .int .i64 armed, .bool off, .int .i64 count] t)) w.heap.size room lv armed off count := by
  have hc : ∀ o, (w.alloc (.cells #[.int .i64 room, lv, .int .i64 armed, .bool off, .int .i64 count] t)).cell? ⟨w.heap.size, o, none⟩ = (#[.int .i64 room, lv, .int .i64 armed, .bool off, .int .i64 count] : Array Value)[o]? := fun o => World.cell?_alloc_new _ _ _ _
  have hf : ∀ o, (w.alloc (.cells #[.int .i64 room, lv, .int .i64 armed, .bool off, .int .i64 count] t)).frozen? ⟨w.heap.size, o, none⟩ = false := fun o => World.frozen?_alloc_new ..
  exact ⟨by rw [hc]; rfl, by rw [hc]; rfl, by rw [hc]; rfl, by rw [hc]; rfl, by rw [hc]; rfl, hf 1, hf 2, hf 3, hf 4⟩
set_option maxHeartbeats 1000000 in
theorem ref_new_bad (r : Int) (w : World) (h : r < 0 ∨ 4194304 < r) : Calls Try.prog 29 #[.int .i64 r] w fun e w' => e = .returned (.tuple #[.pointer none, .int .i64 1]) ∧ w = w' := by
  rcases h with h | h
  · go_enter Try.func29, Try.ntmps29
    go_wp2_with fail
    go_ret2
    exact ⟨rfl, rfl⟩
  · have h0 : ¬ r < 0 := by omega
    go_enter Try.func29, Try.ntmps29
    go_wp2_with fail
    go_ret2
    exact ⟨rfl, rfl⟩
set_option maxHeartbeats 1000000 in
theorem ref_new_ok (r : Nat) (w : World) (h : r ≤ 4194304) : Calls Try.prog 29 #[.int .i64 (r : Int)] w fun e w' => e = .returned (.tuple #[.pointer (some ⟨w.heap.size, 0, none⟩), .int .i64 0]) ∧ RAt w' w.heap.size w.heap.size (Dk.new r) ∧ Below w.heap.size w w' := by
  go_enter Try.func29, Try.ntmps29
  go_wp2_with fail
  go_ret2
  exact ⟨rfl, ⟨_, rc_new _ _ _ _ _ _ _, World.ownsRow_nil _ _ _ _, rfl⟩, (Below.refl _ _).alloc (Nat.le_refl _) _⟩
end Go.Proofs.Ytcjhkonjlhpmhaa

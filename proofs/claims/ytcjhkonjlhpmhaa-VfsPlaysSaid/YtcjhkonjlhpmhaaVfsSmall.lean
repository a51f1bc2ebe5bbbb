/- Contracts of the disk's Read, Arm, On, Steps, and of New. -/
import Derived.Test.YtcjhkonjlhpmhaaVfsFx
namespace Go.Proofs.Ytcjhkonjlhpmhaa
open Go.RowKit Go.Maps

set_option maxHeartbeats 1000000 in
theorem on_any {d : Dk} {w : World} {b m : Nat} (h : DAt w b m d) : Calls Try.prog 21 #[.pointer (some ⟨b, 0, none⟩)] w fun e w' => e = .returned (.bool (!d.off)) ∧ w = w' := by
  have c3 := h.c3
  clear h
  go_enter Try.func21, Try.ntmps21
  go_wp2_with fail
  go_ret
  exact ⟨rfl, rfl⟩
set_option maxHeartbeats 1000000 in
theorem steps_any {d : Dk} {w : World} {b m : Nat} (h : DAt w b m d) : Calls Try.prog 27 #[.pointer (some ⟨b, 0, none⟩)] w fun e w' => e = .returned (.int .i64 (d.steps : Int)) ∧ w = w' := by
  have c6 := h.c6
  clear h
  go_enter Try.func27, Try.ntmps27
  go_wp2_with fail
  go_ret
  exact ⟨rfl, rfl⟩
set_option maxHeartbeats 1000000 in
theorem read_any {d : Dk} {w : World} {b m : Nat} (h : DAt w b m d) {nm : ByteArray} (hn : nm.size ≤ maxLen) :
    Calls Try.prog 18 #[.pointer (some ⟨b, 0, none⟩), .string nm] w fun e w' => e = .returned (.tuple #[.string (d.read nm).1, .int .i64 (d.read nm).2]) ∧ Below w.heap.size w w' := by
  have H := Lib.hid h
  have HN := Lib.hid hn
  clear h hn
  by_cases ho : d.off = true
  · have E := Lib.hid (show d.read nm = (⟨#[]⟩, 143) by simp [Dk.read, ho]; rfl)
    have HO := Lib.hid ho
    clear ho
    rw [E.out]
    go_enter Try.func18, Try.ntmps18
    go_wp2_with (first | (go_at_call 35; refine (find_off H.out HO.out nm).mono ?_; rintro e w1 ⟨rfl, hB1⟩; have HB1 := Lib.hid hB1; clear hB1) | fail)
    go_ret2
    exact ⟨rfl, HB1.out.alloc HB1.out.size _⟩
  · have ho' : d.off = false := by simpa using ho
    have HO := Lib.hid ho'
    cases hf : findF nm.data.toList d.L with
    | none =>
      have E := Lib.hid (show d.read nm = (⟨#[]⟩, 140) by simp [Dk.read, ho', hf]; rfl)
      have HF := Lib.hid hf
      clear ho ho' hf
      rw [E.out]
      go_enter Try.func18, Try.ntmps18
      go_wp2_with (first | (go_at_call 35; refine (find_miss H.out HO.out HN.out HF.out).mono ?_; rintro e w1 ⟨rfl, hB1⟩; have HB1 := Lib.hid hB1; clear hB1) | fail)
      go_ret2
      exact ⟨rfl, HB1.out.alloc HB1.out.size _⟩
    | some f =>
      have E := Lib.hid (show d.read nm = (f.bytes, 0) by simp [Dk.read, ho', hf])
      have HF := Lib.hid hf
      clear ho ho' hf
      rw [E.out]
      go_enter Try.func18, Try.ntmps18
      go_wp2_with (first | (go_at_call 35; refine (find_hit H.out HO.out HN.out HF.out).mono ?_; rintro e w1 ⟨rfl, hB1⟩; have HB1 := Lib.hid hB1; clear hB1) | fail)
      go_ret2
      exact ⟨rfl, HB1.out.alloc HB1.out.size _⟩
set_option maxHeartbeats 1000000 in
theorem arm_any {d : Dk} {w : World} {b m : Nat} (h : DAt w b m d) (n : Int) :
    Calls Try.prog 15 #[.pointer (some ⟨b, 0, none⟩), .int .i64 n] w fun e w' => e = .returned (.tuple #[]) ∧ DAt w' b m (d.arm n) ∧ Kp b m w w' := by
  have c3 := h.c3
  have c4 := h.c4
  have c5 := h.c5
  have f4 := h.f4
  have f5 := h.f5
  have H := Lib.hid h
  clear h
  by_cases ho : d.off = true
  · have E := Lib.hid (show d.arm n = d by simp [Dk.arm, ho])
    rw [ho] at c3
    clear ho
    rw [E.out]
    go_enter Try.func15, Try.ntmps15
    go_wp2_with fail
    go_end0
    refine ⟨rfl, H.out, Kp.refl _ _ _⟩
  · have ho' : d.off = false := by simpa using ho
    rw [ho'] at c3
    by_cases hn : 0 ≤ n
    · obtain ⟨k, rfl⟩ : ∃ k : Nat, n = (k : Int) := ⟨n.toNat, by omega⟩
      have E := Lib.hid (show d.arm k = { d with armed := true, left := k } by simp [Dk.arm, ho'])
      clear ho ho' hn
      rw [E.out]
      go_enter Try.func15, Try.ntmps15
      go_wp2_with fail
      go_end0
      refine ⟨rfl, ?_, ((Kp.refl _ _ _).setCell 4 _).setCell 5 _⟩
      exact (H.out.set4 true).set5 (k : Int)
    · have E := Lib.hid (show d.arm n = { d with armed := decide (0 ≤ n), left := 0 } by simp [Dk.arm, ho']; omega)
      have hn' : n < 0 := by omega
      clear ho ho' hn
      rw [E.out]
      go_enter Try.func15, Try.ntmps15
      go_wp2_with fail
      go_end0
      refine ⟨rfl, ?_, ((Kp.refl _ _ _).setCell 4 _).setCell 5 _⟩
      exact (H.out.set4 (decide (0 ≤ n))).set5 0
set_option maxHeartbeats 1000000 in
theorem new_bad (r : Int) (w : World) (h : r < 0 ∨ 4194304 < r) : Calls Try.prog 10 #[.int .i64 r] w fun e w' => e = .returned (.tuple #[.pointer none, .int .i64 1]) ∧ w = w' := by
  rcases h with h | h
  · go_enter Try.func10, Try.ntmps10
    go_wp2_with fail
    go_ret2
    exact ⟨rfl, rfl⟩
  · have h0 : ¬ r < 0 := by omega
    go_enter Try.func10, Try.ntmps10
    go_wp2_with fail
    go_ret2
    exact ⟨rfl, rfl⟩
set_option maxHeartbeats 1000000 in
theorem new_ok (r : Nat) (w : World) (h : r ≤ 4194304) : Calls Try.prog 10 #[.int .i64 (r : Int)] w fun e w' => e = .returned (.tuple #[.pointer (some ⟨w.heap.size + 1, 0, none⟩), .int .i64 0]) ∧ DAt w' (w.heap.size + 1) w.heap.size (Dk.new r) ∧ Below w.heap.size w w' ∧ w.heap.size + 1 < w'.heap.size := by
  have hmm := @run_makeMap Try.prog
  go_enter Try.func10, Try.ntmps10
  go_wp2_with fail
  go_ret2
  refine ⟨rfl, ?_, ?_, ?_⟩
  · have hown : (w.alloc (.map #[] 0)).ownsMap Try.prog 9 flElem w.heap.size 0 (.map []) := World.ownsMap_made _ _ _ _
    have hz : (w.alloc (.map #[] 0)).heap.size = w.heap.size + 1 := by simp
    have hc : ∀ o, ((w.alloc (.map #[] 0)).alloc (.cells #[.int .i64 (r : Int), .int .i64 0, .map (some w.heap.size), .bool false, .bool false, .int .i64 0, .int .i64 0] 67)).cell? ⟨w.heap.size + 1, o, none⟩ = (#[.int .i64 (r : Int), .int .i64 0, .map (some w.heap.size), .bool false, .bool false, .int .i64 0, .int .i64 0] : Array Value)[o]? := fun o => by
      rw [← hz]; exact World.cell?_alloc_new _ _ _ _
    have hf : ∀ o, ((w.alloc (.map #[] 0)).alloc (.cells #[.int .i64 (r : Int), .int .i64 0, .map (some w.heap.size), .bool false, .bool false, .int .i64 0, .int .i64 0] 67)).frozen? ⟨w.heap.size + 1, o, none⟩ = false := fun o => by
      rw [← hz]; exact World.frozen?_alloc_new ..
    refine ⟨by rw [hc]; rfl, by rw [hc]; rfl, by rw [hc]; rfl, by rw [hc]; rfl, by rw [hc]; rfl, by rw [hc]; rfl, by rw [hc]; rfl, hf 1, hf 3, hf 4, hf 5, hf 6, by omega, ?_⟩
    exact hown.alloc _
  · exact ((Below.refl _ _).alloc (Nat.le_refl _) _).alloc (by simp) _
  · simp
end Go.Proofs.Ytcjhkonjlhpmhaa

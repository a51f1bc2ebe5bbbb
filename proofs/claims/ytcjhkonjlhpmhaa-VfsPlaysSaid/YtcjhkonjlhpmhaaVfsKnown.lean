/- The contract of known: the calls whose answers the document fixes. -/
import Derived.Test.YtcjhkonjlhpmhaaVfsFiles
import Derived.Test.YtcjhkonjlhpmhaaVfsSync
import Derived.Test.YtcjhkonjlhpmhaaVfsAppend
import Derived.Test.YtcjhkonjlhpmhaaVfsSmall
import Derived.Test.YtcjhkonjlhpmhaaVfsKnownL
namespace Go.Proofs.Ytcjhkonjlhpmhaa
open Go.RowKit Go.Maps

/-- Are two files the same? -/
def eqFl (n b : ByteArray) (s : Int) (n' b' : ByteArray) (s' : Int) : Bool := n.toList == n'.toList && (b.toList == b'.toList && s == s')
theorem ba_toList {a b : ByteArray} : a.toList = b.toList ↔ a = b := by
  constructor
  · intro h
    exact ba_of_list (by rw [← ByteArray.toList_eq, ← ByteArray.toList_eq]; exact h)
  · intro h; rw [h]
theorem eqFl_iff {n b : ByteArray} {s : Int} {n' b' : ByteArray} {s' : Int} : eqFl n b s n' b' s' = true ↔ n = n' ∧ b = b' ∧ s = s' := by simp [eqFl, ba_toList]
theorem eqFl_same (n b : ByteArray) (s : Int) : eqFl n b s n b s = true := eqFl_iff.2 ⟨rfl, rfl, rfl⟩
theorem run_neq_fl (w : World) (n b : ByteArray) (s : Int) (n' b' : ByteArray) (s' : Int) :
    (Go.binOp .neq 43 (.agg #[.string n, .string b, .int .i64 s]) (.agg #[.string n', .string b', .int .i64 s'])).run Try.prog w = .ok (.bool (!eqFl n b s n' b' s')) w := by
  unfold eqFl
  go_simp
  by_cases h1 : n.toList = n'.toList <;> by_cases h2 : b.toList = b'.toList <;> by_cases h3 : s = s' <;> simp [h1, h2, h3]
attribute [go_sem ↓] run_neq_fl
attribute [go_sem] eqFl_same

theorem Ok1 : knD1.Ok := by have := (Dk.Ok.new (room := 10) (by omega)).create kA; rw [kn1] at this; exact this
theorem Ok2 : knD2.Ok := by have := Ok1.append kA k15; rw [kn3] at this; exact this
theorem Ok3 : knD3.Ok := by have := Ok2.sync kA; rw [kn4] at this; exact this
theorem Ok4 : knD4.Ok := by have := Ok3.append kA k69; rw [kn5] at this; exact this
theorem szA : kA.size ≤ maxLen := by unfold maxLen; decide
/-- The first file of an owned row of files. -/
theorem row_file {w : World} {B : Nat} {v : Value} {L : List Fl} (h : w.ownsRow B 43 3 v L.length (fileCells L)) {f : Fl} (hf : L = [f]) :
    ∃ g c, v = .slice (some ⟨g, 0, none⟩) 1 c ∧ w.cell? ⟨g, 0, none⟩ = some (.string f.name) ∧ w.cell? ⟨g, 1, none⟩ = some (.string f.bytes) ∧ w.cell? ⟨g, 2, none⟩ = some (.int .i64 (f.safe : Int)) := by
  subst hf
  rcases h.2 with ⟨h1, h2⟩ | ⟨g, cap, cur, rfl, hb, hcb, h1, h2, h3, h4⟩
  · simp at h2
  · have hadd : ∀ j, (⟨g, 0, none⟩ : Addr).add j = ⟨g, j, none⟩ := fun j => by unfold Addr.add; split <;> simp_all
    have hc := h.cells (g := g) rfl
    refine ⟨g, cap, rfl, ?_, ?_, ?_⟩
    · have := hc 0 (.string f.name) rfl; rwa [hadd] at this
    · have := hc 1 (.string f.bytes) rfl; rwa [hadd] at this
    · have := hc 2 (.int .i64 (f.safe : Int)) rfl; rwa [hadd] at this

set_option maxRecDepth 100000 in
set_option maxHeartbeats 8000000 in
theorem known_any (w : World) : Calls Try.prog 9 #[] w fun e w' => e = .returned (.bool true) ∧ Below w.heap.size w w' := by
  go_enter Try.func9, Try.ntmps9
  go_wp2_with fail
  refine (new_ok 10 w (by omega)).mono ?_
  rintro e w1 ⟨rfl, hd1, hB1, hz1⟩
  have hc1 := create_any hd1 (Dk.Ok.new (room := 10) (by omega)) (by decide) szA
  rw [kn1] at hc1
  have HC1 := Lib.hid hc1
  have HB1 := Lib.hid hB1
  clear hc1 hd1 hB1
  go_wp2_with fail
  refine HC1.out.mono ?_
  rintro e w2 ⟨rfl, hd2, hk2⟩
  have hc2 := create_any hd2 Ok1 (by decide) szA
  rw [kn2] at hc2
  have HC2 := Lib.hid hc2
  have HK2 := Lib.hid hk2
  clear hc2 hd2 hk2
  go_wp2_with fail
  refine HC2.out.mono ?_
  rintro e w3 ⟨rfl, hd3, hk3⟩
  have hc3 := append_any hd3 Ok1 (by decide) szA (data := k15) (by unfold maxLen; decide)
  rw [kn3] at hc3
  have HC3 := Lib.hid hc3
  have HK3 := Lib.hid hk3
  clear hc3 hd3 hk3
  go_wp2_with fail
  refine HC3.out.mono ?_
  rintro e w4 ⟨rfl, hd4, hk4⟩
  have hc4 := sync_any hd4 Ok2 (by decide) szA
  rw [kn4] at hc4
  have HC4 := Lib.hid hc4
  have HK4 := Lib.hid hk4
  clear hc4 hd4 hk4
  go_wp2_with fail
  refine HC4.out.mono ?_
  rintro e w5 ⟨rfl, hd5, hk5⟩
  have hc5 := append_any hd5 Ok3 (by decide) szA (data := k69) (by unfold maxLen; decide)
  rw [kn5] at hc5
  have HC5 := Lib.hid hc5
  have HK5 := Lib.hid hk5
  clear hc5 hd5 hk5
  go_wp2_with fail
  refine HC5.out.mono ?_
  rintro e w6 ⟨rfl, hd6, hk6⟩
  have HK6 := Lib.hid hk6
  have HD6 := Lib.hid hd6
  clear hd6 hk6
  go_wp2_with fail
  refine (files_any HD6.out Ok4).mono ?_
  rintro e w7 ⟨v, rfl, hrow, hB7⟩
  obtain ⟨g, c, rfl, p0, p1, p2⟩ := row_file hrow (f := ⟨kA, k19, 5⟩) rfl
  have HB7 := Lib.hid hB7
  have HD7 := Lib.hid (HD6.out.below hB7)
  have f0 : w7.cell? ⟨g, 0, none⟩ = some (.string ⟨#[97]⟩) := p0
  have f1 : w7.cell? ⟨g, 1, none⟩ = some (.string ⟨#[49, 50, 51, 52, 53, 54, 55, 56, 57]⟩) := p1
  have f2 : w7.cell? ⟨g, 2, none⟩ = some (.int .i64 5) := p2
  clear hrow hB7 p0 p1 p2
  go_wp2_with fail
  have hb7 := HD7.out.lt
  have hm7 := HD7.out.ltm
  have hcr := crash_any (keep := [2]) (turn := []) (kv := .slice (some ⟨w7.heap.size, 0, none⟩) 1 1) (tv := .slice none 0 0) (HD7.out.alloc (.cells #[.int .i64 2] 3)) Ok4
    ⟨_, _, rfl, by decide, .inr ⟨w7.heap.size, 0, rfl, by omega, by omega, fun j hj => by
      have : j = 0 := by simp at hj; omega
      subst this
      rw [Nat.zero_add, World.cell?_alloc_new]; rfl⟩⟩ ⟨none, 0, rfl, by decide, .inl rfl⟩ (by simp) (by simp)
  rw [kn6] at hcr
  have HCR := Lib.hid hcr
  clear hcr f0 f1 f2
  refine HCR.out.mono ?_
  rintro e w8 ⟨rfl, hd8, hk8⟩
  have HD8 := Lib.hid hd8
  have HK8 := Lib.hid hk8
  have hr8 := read_any hd8 szA
  rw [kn7] at hr8
  unfold k17 at hr8
  have HR8 := Lib.hid hr8
  clear hd8 hk8 hr8
  go_wp2_with fail
  refine HR8.out.mono ?_
  rintro e w9 ⟨rfl, hB9⟩
  have HD9 := Lib.hid (HD8.out.below hB9)
  have HB9 := Lib.hid hB9
  clear hB9
  go_wp2_with fail
  refine (on_any HD9.out).mono ?_
  rintro e w10 ⟨rfl, rfl⟩
  go_wp2_with fail
  refine (steps_any HD9.out).mono ?_
  rintro e w11 ⟨rfl, rfl⟩
  go_wp2_with fail
  go_ret
  refine ⟨rfl, ?_⟩
  have K1 := (((((HK2.out.trans HK3.out).trans HK4.out).trans HK5.out).trans HK6.out).step HB7.out).alloc (.cells #[.int .i64 2] 3)
  exact ((K1.trans HK8.out).step HB9.out).below HB1.out (Nat.le_succ _) (Nat.le_refl _)
end Go.Proofs.Ytcjhkonjlhpmhaa

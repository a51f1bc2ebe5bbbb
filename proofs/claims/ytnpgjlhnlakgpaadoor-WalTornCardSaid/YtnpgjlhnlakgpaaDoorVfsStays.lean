/- The contracts of at and stays: what a crash leaves of a file's bytes. -/
import Derived.Test.YtnpgjlhnlakgpaaDoorVfsCopy
namespace Go.Proofs.YtnpgjlhnlakgpaaDoor
open Go.RowKit Go.Maps

/-- A slice of numbers, none of whose blocks is b or m. -/
def IntsAt (b m : Nat) (w : World) (v : Value) (xs : List Int) : Prop :=
  ∃ p c, v = .slice p xs.length c ∧ xs.length ≤ 9223372036854775807 ∧ (xs = [] ∨ ∃ g o, p = some ⟨g, o, none⟩ ∧ g ≠ b ∧ g ≠ m ∧ ∀ j, j < xs.length → w.cell? ⟨g, o + j, none⟩ = some (.int .i64 (xs.getD j 0)))
theorem IntsAt.kept {b m : Nat} {w w' : World} {v : Value} {xs : List Int} (h : IntsAt b m w v xs) (hk : Kp b m w w') : IntsAt b m w' v xs := by
  obtain ⟨p, c, rfl, hl, h⟩ := h
  refine ⟨p, c, rfl, hl, ?_⟩
  rcases h with h | ⟨g, o, rfl, h1, h2, hc⟩
  · exact .inl h
  · exact .inr ⟨g, o, rfl, h1, h2, fun j hj => by rw [hk.cell (j := g) (World.block_lt_of_cell? _ _ (hc j hj)) h1 h2]; exact hc j hj⟩
theorem IntsAt.slice {b m : Nat} {w : World} {v : Value} {xs : List Int} (h : IntsAt b m w v xs) : ∃ p n c, v = .slice p n c := by
  obtain ⟨p, c, rfl, _⟩ := h; exact ⟨_, _, _, rfl⟩

set_option maxHeartbeats 1000000 in
theorem at_any {b m : Nat} {w : World} {v : Value} {xs : List Int} (h : IntsAt b m w v xs) (k : Nat) :
    Calls Tryd.prog 103 #[v, .int .i64 (k : Int)] w fun e w' => e = .returned (.int .i64 (atL xs k)) ∧ w = w' := by
  obtain ⟨p, c, rfl, hl, h⟩ := h
  by_cases hlt : k < xs.length
  · have hne : xs ≠ [] := fun e => by rw [e] at hlt; simp at hlt
    obtain ⟨g, o, rfl, -, -, hc⟩ := h.resolve_left hne
    have hcell := hc k hlt
    have E := Lib.hid (show atL xs k = xs.getD k 0 from rfl)
    generalize xs.getD k 0 = x at *
    generalize xs.length = n at *
    clear hc hne
    rw [E.out]
    go_enter Tryd.func103, Tryd.ntmps103
    go_wp2_with fail
    go_ret
    exact ⟨rfl, rfl⟩
  · have E := Lib.hid (show atL xs k = 0 by unfold atL; rw [List.getD_eq_getElem?_getD, List.getElem?_eq_none (by omega)]; rfl)
    generalize xs.length = n at *
    clear h
    rw [E.out]
    go_enter Tryd.func103, Tryd.ntmps103
    go_wp2_with fail
    go_ret
    exact ⟨rfl, rfl⟩

theorem u8infoV : (Tryd.prog.info? 5).map (fun i => (i.zero, i.size, i.bytes)) = some (some (.int .u8 0), 1, 1) := by kernel_rfl
theorem u8size : (Tryd.prog.info? 5).map (·.size) = some 1 := by kernel_rfl
/-- How many of a file's other bytes stay. -/
def keptN (sz sf : Nat) (keep : Int) : Nat := if 0 < keep then (keep % ((sz - sf + 1 : Nat) : Int)).toNat else 0
theorem keptN_le (sz sf : Nat) (keep : Int) : keptN sz sf keep ≤ sz - sf := by
  unfold keptN
  split
  · have h1 := Int.emod_lt_of_pos keep (b := ((sz - sf + 1 : Nat) : Int)) (by omega)
    omega
  · omega
theorem keptN_pos {sz sf : Nat} {keep : Int} (h : 0 < keep) (hs : sf ≤ sz) : keep % ((sz : Int) - (sf : Int) + 1) = (keptN sz sf keep : Int) := by
  unfold keptN
  rw [if_pos h]
  have e : ((sz - sf + 1 : Nat) : Int) = (sz : Int) - (sf : Int) + 1 := by omega
  rw [e, Int.toNat_of_nonneg (Int.emod_nonneg _ (by omega))]

set_option maxRecDepth 100000 in
set_option maxHeartbeats 2000000 in
theorem stays_cut (nm fb : ByteArray) (fs : Nat) (keep turn : Int) (w : World) (hs : fs ≤ fb.size) (hb : fb.size ≤ 4194304) (hk : keep ≤ 9223372036854775807) (ht : turn ≤ 0 ∨ keptN fb.size fs keep = 0) :
    Calls Tryd.prog 102 #[.agg #[.string nm, .string fb, .int .i64 (fs : Int)], .int .i64 keep, .int .i64 turn] w fun e w' => e = .returned (.string (fb.extract 0 (fs + keptN fb.size fs keep))) ∧ Below w.heap.size w w' := by
  have hle := keptN_le fb.size fs keep
  by_cases h0 : 0 < keep
  · have hm := keptN_pos h0 hs
    have hn0 : ¬ keep ≤ 0 := by omega
    generalize keptN fb.size fs keep = M at *
    by_cases ht1 : turn ≤ 0
    · clear ht
      go_enter Tryd.func102, Tryd.ntmps102
      go_wp2_with fail
      go_ret
      exact ⟨rfl, (Below.refl _ _).alloc (Nat.le_refl _) _⟩
    · obtain rfl : M = 0 := ht.resolve_left ht1
      have ht2 : 0 < turn := by omega
      clear ht ht1
      go_enter Tryd.func102, Tryd.ntmps102
      go_wp2_with fail
      go_ret
      exact ⟨rfl, (Below.refl _ _).alloc (Nat.le_refl _) _⟩
  · have hz : keptN fb.size fs keep = 0 := by unfold keptN; rw [if_neg h0]
    have h1 : keep ≤ 0 := by omega
    rw [hz]
    clear ht hz hle h0
    by_cases ht1 : turn ≤ 0
    · go_enter Tryd.func102, Tryd.ntmps102
      go_wp2_with fail
      go_ret
      exact ⟨rfl, (Below.refl _ _).alloc (Nat.le_refl _) _⟩
    · have ht2 : 0 < turn := by omega
      clear ht1
      go_enter Tryd.func102, Tryd.ntmps102
      go_wp2_with fail
      go_ret
      exact ⟨rfl, (Below.refl _ _).alloc (Nat.le_refl _) _⟩
end Go.Proofs.YtnpgjlhnlakgpaaDoor

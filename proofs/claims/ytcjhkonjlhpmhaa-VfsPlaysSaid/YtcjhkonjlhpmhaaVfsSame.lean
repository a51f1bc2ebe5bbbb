/- The contracts of Same and unlike. -/
import Derived.Test.YtcjhkonjlhpmhaaVfsDoes
namespace Go.Proofs.Ytcjhkonjlhpmhaa
open Go.RowKit Go.Maps

/-- A slice of files. -/
def FilesAt (w : World) (v : Value) (L : List Fl) : Prop :=
  ∃ p c, v = .slice p L.length c ∧ (L = [] ∨ ∃ g, p = some ⟨g, 0, none⟩ ∧ ∀ i f, L[i]? = some f → w.cell? ⟨g, i * 3, none⟩ = some (.string f.name) ∧ w.cell? ⟨g, i * 3 + 1, none⟩ = some (.string f.bytes) ∧ w.cell? ⟨g, i * 3 + 2, none⟩ = some (.int .i64 (f.safe : Int)))
theorem fileCells_get : ∀ (L : List Fl) (i : Nat) (f : Fl), L[i]? = some f → (fileCells L)[i * 3]? = some (.string f.name) ∧ (fileCells L)[i * 3 + 1]? = some (.string f.bytes) ∧ (fileCells L)[i * 3 + 2]? = some (.int .i64 (f.safe : Int))
  | [], i, f, h => by simp at h
  | y :: r, 0, f, h => by
    simp at h; subst h
    exact ⟨rfl, rfl, rfl⟩
  | y :: r, i + 1, f, h => by
    have ih := fileCells_get r i f (by simpa using h)
    have e : fileCells (y :: r) = .string y.name :: .string y.bytes :: .int .i64 (y.safe : Int) :: fileCells r := rfl
    rw [e]
    have e1 : (i + 1) * 3 = i * 3 + 3 := by omega
    have e2 : (i + 1) * 3 + 1 = i * 3 + 1 + 3 := by omega
    have e3 : (i + 1) * 3 + 2 = i * 3 + 2 + 3 := by omega
    rw [e1]
    exact ⟨ih.1, ih.2.1, ih.2.2⟩
theorem FilesAt.of_row {w : World} {B : Nat} {v : Value} {L : List Fl} (h : w.ownsRow B 43 3 v L.length (fileCells L)) : FilesAt w v L := by
  have hall := h
  rcases h.2 with ⟨rfl, hn⟩ | ⟨g, cap, cur, rfl, hb, hcb, h1, h2, h3, h4⟩
  · have : L = [] := by
      cases L with
      | nil => rfl
      | cons a r => simp at hn
    subst this
    exact ⟨none, 0, rfl, .inl rfl⟩
  · have hadd : ∀ j, (⟨g, 0, none⟩ : Addr).add j = ⟨g, j, none⟩ := fun j => by unfold Addr.add; split <;> simp_all
    have hc := hall.cells (g := g) rfl
    refine ⟨_, cap, rfl, .inr ⟨g, rfl, fun i f hi => ?_⟩⟩
    obtain ⟨a, b, c⟩ := fileCells_get L i f hi
    refine ⟨?_, ?_, ?_⟩
    · have := hc _ _ a; rwa [hadd] at this
    · have := hc _ _ b; rwa [hadd] at this
    · have := hc _ _ c; rwa [hadd] at this
/-- A slice of files stays while other blocks, or none that was there, are written. -/
theorem FilesAt.below {w w' : World} {v : Value} {L : List Fl} (h : FilesAt w v L) (hb : Below w.heap.size w w') : FilesAt w' v L := by
  obtain ⟨p, c, rfl, h⟩ := h
  refine ⟨p, c, rfl, ?_⟩
  rcases h with h | ⟨g, rfl, hc⟩
  · exact .inl h
  · refine .inr ⟨g, rfl, fun i f hi => ?_⟩
    obtain ⟨a, b, c⟩ := hc i f hi
    have hg : g < w.heap.size := World.block_lt_of_cell? w _ a
    exact ⟨by rw [hb.cell (p := ⟨g, i * 3, none⟩) hg]; exact a, by rw [hb.cell (p := ⟨g, i * 3 + 1, none⟩) hg]; exact b, by rw [hb.cell (p := ⟨g, i * 3 + 2, none⟩) hg]; exact c⟩
/-- Files that were made behind a disk stay whatever is done to it. -/
theorem FilesAt.kept {w0 w w' : World} {b m : Nat} {v : Value} {L : List Fl} (h : w.ownsRow w0.heap.size 43 3 v L.length (fileCells L)) (hb : b < w0.heap.size) (hm : m < w0.heap.size) (hk : Kp b m w w') : FilesAt w' v L := by
  have hown := h
  obtain ⟨p, c, rfl, h2⟩ := FilesAt.of_row h
  refine ⟨p, c, rfl, ?_⟩
  rcases h2 with h2 | ⟨g, rfl, hc⟩
  · exact .inl h2
  · refine .inr ⟨g, rfl, fun i f hi => ?_⟩
    obtain ⟨a, b', c'⟩ := hc i f hi
    have hlt := hown.lt g rfl
    exact ⟨by rw [hk.cell (j := g) hlt.2 (by omega) (by omega)]; exact a, by rw [hk.cell (j := g) hlt.2 (by omega) (by omega)]; exact b', by rw [hk.cell (j := g) hlt.2 (by omega) (by omega)]; exact c'⟩

theorem eqFl_dec (f g : Fl) : eqFl f.name f.bytes (f.safe : Int) g.name g.bytes (g.safe : Int) = decide (f = g) := by
  rw [Bool.eq_iff_iff, eqFl_iff]
  cases f; cases g
  simp
  omega

set_option maxRecDepth 100000 in
set_option maxHeartbeats 4000000 in
theorem same_any {w : World} {va vb : Value} {La Lb : List Fl} (ha : FilesAt w va La) (hb : FilesAt w vb Lb) (hla : La.length ≤ 64) (_hlb : Lb.length ≤ 64) :
    Calls Try.prog 23 #[va, vb] w fun e w' => e = .returned (.bool (decide (La = Lb))) ∧ Below w.heap.size w w' := by
  obtain ⟨pa, ca, rfl, ha⟩ := ha
  obtain ⟨pb, cb, rfl, hb⟩ := hb
  have HA := Lib.hid ha
  have HB := Lib.hid hb
  clear ha hb
  by_cases hl : La.length = Lb.length
  · have HLL := Lib.hid hl
    have hlb2 : Hid (Lb.length = La.length) := hl.symm
    rw [← hl]
    clear hl
    generalize hn : La.length = n at *
    have HN := Lib.hid hn
    clear hn
    go_enter Try.func23, Try.ntmps23
    go_wp2_with fail
    go_loopw [13] (fun iv wr => ∃ i : Nat, i ≤ n ∧ iv = .int .i64 (i : Int) ∧ La.take i = Lb.take i ∧ Below w.heap.size w wr) (fun iv _ => n - (intOf iv).toNat)
    case atStart => exact ⟨0, Nat.zero_le _, rfl, by simp, Below.refl _ _⟩
    case round =>
      obtain ⟨i, hi, rfl, htk, hbw⟩ := hrel
      have HTK := Lib.hid htk
      have HBW := Lib.hid hbw
      clear htk hbw
      by_cases hlt : i < n
      · have hla' : La.length = n := HN.out
        have hlb' : Lb.length = n := hlb2.out
        obtain ⟨f, hf⟩ : ∃ f, La[i]? = some f := ⟨La[i], List.getElem?_eq_getElem (by omega)⟩
        obtain ⟨f', hf'⟩ : ∃ f, Lb[i]? = some f := ⟨Lb[i], List.getElem?_eq_getElem (by omega)⟩
        obtain ⟨g, rfl, hc⟩ := HA.out.resolve_left (fun e => by rw [e] at hla'; simp at hla'; omega)
        obtain ⟨g', rfl, hc'⟩ := HB.out.resolve_left (fun e => by rw [e] at hlb'; simp at hlb'; omega)
        obtain ⟨a0, a1, a2⟩ := hc i f hf
        obtain ⟨b0, b1, b2⟩ := hc' i f' hf'
        have hg : g < w.heap.size := World.block_lt_of_cell? w _ a0
        have hg' : g' < w.heap.size := World.block_lt_of_cell? w _ b0
        rw [← HBW.out.cell (p := ⟨g, i * 3, none⟩) hg] at a0
        rw [← HBW.out.cell (p := ⟨g, i * 3 + 1, none⟩) hg] at a1
        rw [← HBW.out.cell (p := ⟨g, i * 3 + 2, none⟩) hg] at a2
        rw [← HBW.out.cell (p := ⟨g', i * 3, none⟩) hg'] at b0
        rw [← HBW.out.cell (p := ⟨g', i * 3 + 1, none⟩) hg'] at b1
        rw [← HBW.out.cell (p := ⟨g', i * 3 + 2, none⟩) hg'] at b2
        have HS1 := Lib.hid (show La.take (i + 1) = La.take i ++ [f] by rw [List.take_add_one, hf]; rfl)
        have HS2 := Lib.hid (show Lb.take (i + 1) = Lb.take i ++ [f'] by rw [List.take_add_one, hf']; rfl)
        have HE := Lib.hid (eqFl_dec f f')
        have HF := Lib.hid (And.intro hf hf')
        have hi1 : (i : Int) < (n : Int) := by omega
        have hi0 : (0 : Int) ≤ (i : Int) := by omega
        clear hf hf' hc hc' hla' hlb'
        by_cases hff : f = f'
        · have hq : eqFl f.name f.bytes (f.safe : Int) f'.name f'.bytes (f'.safe : Int) = true := by rw [HE.out]; simpa using hff
          have HFF := Lib.hid hff
          clear hff
          go_wp2_with fail
          go_quiet (fail)
          go_wp2_with fail
          go_roundw
          case rel => exact ⟨i + 1, by omega, by go_num, by rw [HS1.out, HS2.out, HTK.out, HFF.out], HBW.out.trans ⟨rfl, rfl, rfl, Nat.le_refl _, fun _ _ => rfl⟩⟩
          case measure => simp [intOf]; omega
        · have hq : eqFl f.name f.bytes (f.safe : Int) f'.name f'.bytes (f'.safe : Int) = false := by rw [HE.out]; simpa using hff
          have HR := Lib.hid (show decide (La = Lb) = false by
            simp only [decide_eq_false_iff_not]
            intro e
            apply hff
            have h1 := HF.out.1
            rw [e, HF.out.2] at h1
            exact (Option.some.inj h1).symm)
          clear hff
          go_wp2_with fail
          go_quiet (fail)
          go_wp2_with fail
          go_ret
          exact ⟨by rw [HR.out]; rfl, HBW.out.trans ⟨rfl, rfl, rfl, Nat.le_refl _, fun _ _ => rfl⟩⟩
      · obtain rfl : i = n := by omega
        have HR := Lib.hid (show decide (La = Lb) = true by
          simp only [decide_eq_true_eq]
          have h1 := HTK.out
          rw [List.take_of_length_le (by rw [HN.out]; omega), List.take_of_length_le (by rw [hlb2.out]; omega)] at h1
          exact h1)
        go_wp2_with fail
        go_ret
        exact ⟨by rw [HR.out]; rfl, HBW.out⟩
  · have HR := Lib.hid (show decide (La = Lb) = false by
      simp only [decide_eq_false_iff_not]
      intro e; exact hl (by rw [e]))
    have hne : ¬ (La.length : Int) = (Lb.length : Int) := by omega
    rw [HR.out]
    generalize La.length = n at *
    generalize Lb.length = n' at *
    go_enter Try.func23, Try.ntmps23
    go_wp2_with fail
    go_ret
    exact ⟨rfl, Below.refl _ _⟩
end Go.Proofs.Ytcjhkonjlhpmhaa

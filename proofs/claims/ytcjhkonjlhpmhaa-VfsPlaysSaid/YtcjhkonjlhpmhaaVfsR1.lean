/- Contracts of the reference's disk: at, Used, Step, New, Arm. -/
import Derived.Test.YtcjhkonjlhpmhaaVfsRM
namespace Go.Proofs.Ytcjhkonjlhpmhaa
open Go.RowKit Go.Maps

theorem str_eq_false {a b : ByteArray} (h : ¬ a = b) : (a.toList == b.toList) = false := by
  simp only [beq_eq_false_iff_ne, ne_eq]
  intro e
  exact h (ba_of_list (by rw [← ByteArray.toList_eq, ← ByteArray.toList_eq]; exact e))
/-- The three cells of a file behind others that were read. -/
theorem file_cells {w w' : World} {g : Nat} {i : Nat} {f : Fl} (hl : g < w.heap.size) (hB : Below w.heap.size w w')
    (h : w.cell? ⟨g, i * 3, none⟩ = some (.string f.name) ∧ w.cell? ⟨g, i * 3 + 1, none⟩ = some (.string f.bytes) ∧ w.cell? ⟨g, i * 3 + 2, none⟩ = some (.int .i64 (f.safe : Int))) :
    w'.cell? ⟨g, i * 3, none⟩ = some (.string f.name) ∧ w'.cell? ⟨g, i * 3 + 1, none⟩ = some (.string f.bytes) ∧ w'.cell? ⟨g, i * 3 + 2, none⟩ = some (.int .i64 (f.safe : Int)) :=
  ⟨by rw [hB.cell (p := ⟨g, i * 3, none⟩) hl]; exact h.1, by rw [hB.cell (p := ⟨g, i * 3 + 1, none⟩) hl]; exact h.2.1, by rw [hB.cell (p := ⟨g, i * 3 + 2, none⟩) hl]; exact h.2.2⟩

set_option maxRecDepth 100000 in
set_option maxHeartbeats 4000000 in
theorem ref_at {d : Dk} {w : World} {b g : Nat} (h : RAt w b g d) (hm : d.L.length ≤ 64) (nm : ByteArray) :
    Calls Try.prog 57 #[.pointer (some ⟨b, 0, none⟩), .string nm] w fun e w' => e = .returned (.int .i64 (idxI nm d.L)) ∧ Below w.heap.size w w' := by
  obtain ⟨lv, hc, hr⟩ := h
  obtain ⟨p, c, rfl, hlc, hf⟩ := hr.files
  have c1 := hc.c1
  have HF := Lib.hid hf
  have EI := Lib.hid (show idxI nm d.L = idxG nm d.L 0 from rfl)
  clear hc hr hf hlc
  generalize hn : d.L.length = n at *
  have HN := Lib.hid hn
  clear hn
  go_enter Try.func57, Try.ntmps57
  go_wp2_with fail
  go_loopw [12] (fun iv wr => ∃ i : Nat, i ≤ n ∧ iv = .int .i64 (i : Int) ∧ idxI nm d.L = idxG nm (d.L.drop i) i ∧ Below w.heap.size w wr) (fun iv _ => n - (intOf iv).toNat)
  case atStart => exact ⟨0, Nat.zero_le _, rfl, EI.out, Below.refl _ _⟩
  case round =>
    obtain ⟨i, hi, rfl, hix, hbw⟩ := hrel
    have HIX := Lib.hid hix
    have HBW := Lib.hid hbw
    clear hix hbw
    by_cases hlt : i < n
    · have hla : d.L.length = n := HN.out
      obtain ⟨f, hf⟩ : ∃ f, d.L[i]? = some f := ⟨d.L[i], List.getElem?_eq_getElem (by omega)⟩
      obtain ⟨rfl, hg, hcs⟩ := HF.out.resolve_left (fun e => by rw [e] at hla; simp at hla; omega)
      obtain ⟨a0, a1, a2⟩ := file_cells hg HBW.out (hcs i f hf)
      have HR := Lib.hid (idxG_round (nm := nm) hf)
      obtain ⟨fn, fb, fs⟩ := f
      simp only at a0 a1 a2
      clear hf hcs hla
      by_cases he : fn = nm
      · subst he
        have HE := Lib.hid (show idxI fn d.L = (i : Int) by rw [HIX.out, HR.out]; simp)
        go_wp2_with fail
        go_ret
        exact ⟨by rw [HE.out]; rfl, HBW.out.alloc (by have := HBW.out.size; omega) _⟩
      · have HE := Lib.hid (show idxI nm d.L = idxG nm (d.L.drop (i + 1)) (i + 1) by rw [HIX.out, HR.out]; simp [he])
        have hq := str_eq_false he
        clear he
        go_wp2_with fail
        go_roundw
        case rel => exact ⟨i + 1, by omega, by go_num, HE.out, HBW.out.alloc (by have := HBW.out.size; omega) _⟩
        case measure => simp [intOf]; omega
    · obtain rfl : i = n := by omega
      have HE := Lib.hid (show idxI nm d.L = -1 by rw [HIX.out, List.drop_of_length_le (by rw [HN.out]; omega)]; rfl)
      go_wp2_with fail
      go_ret
      exact ⟨by rw [HE.out]; rfl, HBW.out⟩

theorem usedF_take {L : List Fl} {i : Nat} {f : Fl} (h : L[i]? = some f) : usedF (L.take (i + 1)) = usedF (L.take i) + f.bytes.size := by
  rw [List.take_add_one, h]; simp [usedF]
theorem usedF_take_le (L : List Fl) (i : Nat) : usedF (L.take i) ≤ usedF L := by
  have h : usedF L = usedF (L.take i) + usedF (L.drop i) := by
    simp only [usedF]
    rw [← List.sum_append, ← List.map_append, List.take_append_drop]
  omega
set_option maxRecDepth 100000 in
set_option maxHeartbeats 4000000 in
theorem ref_used {d : Dk} {w : World} {b g : Nat} (h : RAt w b g d) (hm : d.L.length ≤ 64) (hu : usedF d.L ≤ 4194304) :
    Calls Try.prog 60 #[.pointer (some ⟨b, 0, none⟩)] w fun e w' => e = .returned (.int .i64 (usedF d.L : Int)) ∧ Below w.heap.size w w' := by
  obtain ⟨lv, hc, hr⟩ := h
  obtain ⟨p, c, rfl, hlc, hf⟩ := hr.files
  have c1 := hc.c1
  have HF := Lib.hid hf
  clear hc hr hf hlc
  generalize hn : d.L.length = n at *
  have HN := Lib.hid hn
  clear hn
  go_enter Try.func60, Try.ntmps60
  go_wp2_with fail
  go_loopw [3, 11] (fun uv iv wr => ∃ i : Nat, i ≤ n ∧ iv = .int .i64 (i : Int) ∧ uv = .int .i64 (usedF (d.L.take i) : Int) ∧ Below w.heap.size w wr) (fun _ iv _ => n - (intOf iv).toNat)
  case atStart => exact ⟨0, Nat.zero_le _, rfl, rfl, Below.refl _ _⟩
  case round =>
    obtain ⟨i, hi, rfl, rfl, hbw⟩ := hrel
    have HBW := Lib.hid hbw
    clear hbw
    have hle := usedF_take_le d.L i
    by_cases hlt : i < n
    · have hla : d.L.length = n := HN.out
      obtain ⟨f, hf⟩ : ∃ f, d.L[i]? = some f := ⟨d.L[i], List.getElem?_eq_getElem (by omega)⟩
      obtain ⟨rfl, hg, hcs⟩ := HF.out.resolve_left (fun e => by rw [e] at hla; simp at hla; omega)
      obtain ⟨a0, a1, a2⟩ := file_cells hg HBW.out (hcs i f hf)
      have HR := Lib.hid (usedF_take hf)
      have hle2 := usedF_take_le d.L (i + 1)
      have hle3 : usedF (d.L.take i) + f.bytes.size ≤ 4194304 := by rw [← usedF_take hf]; omega
      obtain ⟨fn, fb, fs⟩ := f
      simp only at a0 a1 a2 hle3
      clear hf hcs hla hle2
      generalize usedF (d.L.take i) = u at *
      go_wp2_with fail
      go_roundw
      case rel => exact ⟨i + 1, by omega, by go_num, by rw [HR.out]; go_num, HBW.out.alloc (by have := HBW.out.size; omega) _⟩
      case measure => simp [intOf]; omega
    · obtain rfl : i = n := by omega
      have HE := Lib.hid (show d.L.take i = d.L from List.take_of_length_le (by rw [HN.out]; omega))
      go_wp2_with fail
      go_ret
      exact ⟨by rw [HE.out]; rfl, HBW.out⟩

set_option maxHeartbeats 1000000 in
theorem ref_step_no {d : Dk} {w : World} {b g : Nat} (h : RAt w b g d) (hr : d.refuses = true) :
    Calls Try.prog 58 #[.pointer (some ⟨b, 0, none⟩)] w fun e w' => e = .returned (.int .i64 143) ∧ RAt w' b g d.gone ∧ Kp b g w w' := by
  obtain ⟨lv, h, hrow⟩ := h
  have c2 := h.c2
  have f3 := h.f3
  have c3 := h.c3
  obtain ⟨ha, hl⟩ : d.armed = true ∧ d.left = 0 := by simpa [Dk.refuses] using hr
  have E : armI d = 0 := by unfold armI; rw [ha, hl]; rfl
  rw [E] at c2
  have H := Lib.hid h
  have HR := Lib.hid hrow
  clear h ha hl hr E hrow
  go_enter Try.func58, Try.ntmps58
  go_wp2_with fail
  go_ret
  exact ⟨rfl, ⟨lv, H.out.set3 true, HR.out.of fun hgb => Below.heap_setCell _ _ _ _ hgb⟩, (Kp.refl _ _ _).setCell 3 _⟩
set_option maxHeartbeats 1000000 in
theorem ref_step_go {d : Dk} {w : World} {b g : Nat} (h : RAt w b g d) (hr : d.refuses = false) (hl : d.left < 9223372036854775808) (hs : d.steps < 4611686018427387904) :
    Calls Try.prog 58 #[.pointer (some ⟨b, 0, none⟩)] w fun e w' => e = .returned (.int .i64 0) ∧ RAt w' b g d.stepped ∧ Kp b g w w' := by
  obtain ⟨lv, h, hrow⟩ := h
  have c2 := h.c2
  have c4 := h.c4
  have f2 := h.f2
  have f4 := h.f4
  have HR := Lib.hid hrow
  clear hrow
  by_cases ha : d.armed = true
  · have hne : d.left ≠ 0 := by simpa [Dk.refuses, ha] using hr
    have E : armI d = (d.left : Int) := by unfold armI; rw [ha]; rfl
    rw [E] at c2
    have HS : Hid (armI d.stepped = (d.left : Int) - 1) := by show _ = _; simp [Dk.stepped, ha, armI]; omega
    have hpos : 0 < d.left := by omega
    have hb0 : decide (d.left = 0) = false := by simp [hne]
    have H := Lib.hid h
    clear h ha hr hne E
    go_enter Try.func58, Try.ntmps58
    go_wp2_with fail
    go_ret
    refine ⟨rfl, ⟨lv, ?_, (HR.out.of (w' := w.setCell ⟨b, 2, none⟩ (.int .i64 ((d.left : Int) - 1))) fun hgb => Below.heap_setCell _ _ _ _ hgb).of fun hgb => Below.heap_setCell _ _ _ _ hgb⟩, ((Kp.refl _ _ _).setCell 2 _).setCell 4 _⟩
    rw [HS.out]
    exact (H.out.set2 ((d.left : Int) - 1)).set4 ((d.steps : Int) + 1)
  · have ha' : d.armed = false := by simpa using ha
    have E : armI d = -1 := by unfold armI; rw [ha']; rfl
    rw [E] at c2
    have HS : Hid (armI d.stepped = armI d) := by show _ = _; simp [Dk.stepped, ha', armI]
    have H := Lib.hid h
    clear h ha ha' hr E
    go_enter Try.func58, Try.ntmps58
    go_wp2_with fail
    go_ret
    refine ⟨rfl, ⟨lv, ?_, HR.out.of fun hgb => Below.heap_setCell _ _ _ _ hgb⟩, (Kp.refl _ _ _).setCell 4 _⟩
    rw [HS.out]
    exact H.out.set4 ((d.steps : Int) + 1)
end Go.Proofs.Ytcjhkonjlhpmhaa

/- Contracts of the reference's Clone and List, of the disk's List, of Texts. -/
import Derived.Test.YtcjhkonjlhpmhaaVfsR7
import Derived.Test.YtcjhkonjlhpmhaaVfsSort
import Derived.Test.YtcjhkonjlhpmhaaVfsCrash
import Derived.Laws.AppendOwnNone
namespace Go.Proofs.Ytcjhkonjlhpmhaa
open Go.RowKit Go.Maps

theorem cells_of_row {w : World} {b g : Nat} {lv : Value} {L : List Fl} (h : RowAt w b g lv L) (hne : L ≠ []) : ∃ c, lv = .slice (some ⟨g, 0, none⟩) L.length c ∧ L.length ≤ c ∧ g < w.heap.size ∧ ∀ j u, (fileCells L)[j]? = some u → w.cell? ⟨g, j, none⟩ = some u := by
  obtain ⟨p, c, rfl, hlc, hf⟩ := h.files
  obtain ⟨rfl, hg, -⟩ := hf.resolve_left hne
  refine ⟨c, rfl, hlc, hg, fun j u hj => ?_⟩
  have h9 := h.1.cells (g := g) rfl j u hj
  have hadd : (⟨g, 0, none⟩ : Addr).add j = ⟨g, j, none⟩ := by unfold Addr.add; split <;> simp_all
  rwa [hadd] at h9

set_option maxRecDepth 100000 in
set_option maxHeartbeats 4000000 in
theorem ref_clone {d : Dk} {w : World} {b g : Nat} (h : RAt w b g d) (hm : d.L.length ≤ 64) :
    Calls Try.prog 30 #[.pointer (some ⟨b, 0, none⟩)] w fun e w' => e = .returned (.pointer (some ⟨w.heap.size, 0, none⟩)) ∧ (∃ g', RAt w' w.heap.size g' d ∧ w.heap.size ≤ g') ∧ Below w.heap.size w w' := by
  obtain ⟨i0, hi, hz0, hz1, hz2⟩ := info_parts Fileinfo
  obtain ⟨lv, hc, hr⟩ := id h
  have hb := hc.lt
  have HR := Lib.hid hr
  obtain ⟨p, c, rfl, hlc, -⟩ := hr.files
  have c0 := hc.c0
  have c1 := hc.c1
  have c2 := hc.c2
  have c3 := hc.c3
  have c4 := hc.c4
  have hB0 := (Below.refl w.heap.size w).alloc (Nat.le_refl _) (.cells #[.int .i64 (d.room : Int), .slice p d.L.length c, .int .i64 (armI d), .bool d.off, .int .i64 (d.steps : Int)] 82)
  have hrc := rc_new w (d.room : Int) (.slice p d.L.length c) (armI d) d.off (d.steps : Int) 82
  have hz0' : w.heap.size < (w.alloc (.cells #[.int .i64 (d.room : Int), .slice p d.L.length c, .int .i64 (armI d), .bool d.off, .int .i64 (d.steps : Int)] 82)).heap.size := by simp
  have d1 : (w.alloc (.cells #[.int .i64 (d.room : Int), .slice p d.L.length c, .int .i64 (armI d), .bool d.off, .int .i64 (d.steps : Int)] 82)).cell? ⟨b, 1, none⟩ = some (.slice p d.L.length c) := by
    rw [hB0.cell (p := ⟨b, 1, none⟩) hb]; exact c1
  have HB0 := Lib.hid hB0
  have HRC := Lib.hid hrc
  clear hB0 hrc hr h hc
  go_enter Try.func30, Try.ntmps30
  go_upto_region 2 with fail
  generalize w.alloc (.cells #[.int .i64 (d.room : Int), .slice p d.L.length c, .int .i64 (armI d), .bool d.off, .int .i64 (d.steps : Int)] 82) = w0 at *
  have HR0 := Lib.hid (HR.out.of fun hgb => HB0.out.block g (by
    rcases hv : Value.ownBlock (.slice p d.L.length c) with _ | j
    · have := HR.out.2; rw [hv] at this; simp at this; omega
    · have := HR.out.ne hv; omega))
  clear c0 c1 c2 c3 c4
  rcases HR0.out.1.2 with ⟨hv, hn0⟩ | ⟨g', cap, cur, hv, -⟩
  · injection hv with h1 h2 h3
    subst h1 h3
    have hL : d.L = [] := List.length_eq_zero_iff.1 h2
    rw [h2] at d1 HRC
    have f1 := HRC.out.f1
    have k1 := HRC.out.c1
    have HL := Lib.hid hL
    clear h2 hn0 hL HR HR0
    go_wp2_with (first
      | (at_builtin; refine wpList_append_own_none rfl _ _ 40 rfl w0.heap.size 43 i0 3 Try.underlying40 hi (.slice none 0 0) 0 [] rfl (World.ownsRow_nil _ _ _ _) rfl ?_; go_frame)
      | fail)
    go_ret
    refine ⟨rfl, ⟨w.heap.size, ⟨_, HRC.out.set1 _, ?_, rfl⟩, Nat.le_refl _⟩, HB0.out.setCell (p := ⟨w.heap.size, 1, none⟩) (Nat.le_refl _) _⟩
    rw [HL.out]
    exact World.ownsRow_nil _ _ _ _
  · injection hv with h1 h2 h3
    subst h1
    have hgg : g' = g := (HR0.out.ne (j := g') rfl).1
    subst hgg
    have hgl := (HR0.out.ne (j := g') rfl).2.2
    have HCE := Lib.hid (HR0.out.1.cells (g := g') rfl)
    have HLN := Lib.hid (fileCells_len d.L)
    have hone : Hid (∀ u ∈ fileCells d.L, u.oneCell' = true) := Lib.hid (fun u hu => by
      obtain ⟨f, _, hf⟩ := List.mem_flatMap.1 hu
      simp at hf
      rcases hf with rfl | rfl | rfl <;> rfl)
    clear h2 h3 HR HR0
    go_wp2_with (first
      | (at_builtin; refine wpList_append_own _ rfl _ _ 40 rfl w0.heap.size 43 i0 (.agg #[.string ⟨#[]⟩, .string ⟨#[]⟩, .int .i64 0]) 3 40 Try.underlying40 hi hz0 hz1 hz2 rfl (by decide) (.slice none 0 0) 0 [] rfl (World.ownsRow_nil _ _ _ _) ⟨g', 0, none⟩ d.L.length c (fileCells d.L) rfl HLN.out HCE.out hone.out (by unfold maxLen; omega) (by omega) (Nat.le_refl _) ?_; intro v' w3 hown' hg3 _; obtain ⟨vp, vn, vc, hvv⟩ := owns_slice hown'; subst hvv; have HO3 := Lib.hid hown'; have HG3 := Lib.hid hg3; clear hown' hg3; have hrc3 := HRC.out.of_block (HG3.out.block w.heap.size hz0' (by simp [Value.ownBlock])); have f1 := hrc3.f1; have k1 := hrc3.c1; have HRC3 := Lib.hid hrc3; clear hrc3; go_frame)
      | fail)
    go_ret
    have hB3 : Below w.heap.size w w3 := HB0.out.grown HG3.out (by omega) (fun j hj => by simp [Value.ownBlock] at hj)
    have hrow := HO3.out
    simp only [Nat.zero_add, List.nil_append] at hrow
    refine ⟨rfl, ⟨(Value.ownBlock (.slice vp vn vc)).getD w.heap.size, ⟨_, HRC3.out.set1 _, ?_, rfl⟩, ?_⟩, hB3.setCell (p := ⟨w.heap.size, 1, none⟩) (Nat.le_refl _) _⟩
    · refine row_block_kept (owns_down hrow (by omega)) fun j hj => Below.heap_setCell _ _ _ _ ?_
      have := hrow.lt j hj
      show j ≠ w.heap.size; omega
    · cases hv : Value.ownBlock (.slice vp vn vc) with
      | none => exact Nat.le_refl _
      | some j => have := (hrow.lt j hv).1; simp; omega

set_option maxRecDepth 100000 in
set_option maxHeartbeats 4000000 in
theorem ref_list {d : Dk} {w : World} {b g : Nat} (h : RAt w b g d) (hm : d.L.length ≤ 64) (ho : d.off = false) :
    Calls Try.prog 50 #[.pointer (some ⟨b, 0, none⟩)] w fun e w' => ∃ v, e = .returned (.tuple #[v, .int .i64 0]) ∧ w'.ownsRow w.heap.size 9 1 v d.L.length (nameVals d.L) ∧ Below w.heap.size w w' := by
  obtain ⟨i0, hi, hz0, hz1, hz2⟩ := info_parts strinfo
  have c3 := h.c3
  rw [ho] at c3
  obtain ⟨lv, hc, hr⟩ := h
  obtain ⟨p, c, rfl, hlc, hf⟩ := hr.files
  have c1 := hc.c1
  have HF := Lib.hid hf
  clear hc hr hf hlc ho
  generalize hn : d.L.length = n at *
  have HN := Lib.hid hn
  clear hn
  go_enter Try.func50, Try.ntmps50
  go_wp2_with fail
  go_loopw [4, 16] (fun ov iv wr => ∃ i : Nat, i ≤ n ∧ iv = .int .i64 (i : Int) ∧ wr.ownsRow w.heap.size 9 1 ov i (nameVals (d.L.take i)) ∧ Below w.heap.size w wr) (fun _ iv _ => n - (intOf iv).toNat)
  case atStart => exact ⟨0, Nat.zero_le _, rfl, World.ownsRow_nil _ _ _ _, Below.refl _ _⟩
  case round =>
    obtain ⟨i, hi', rfl, hrow, hbw⟩ := hrel
    have HBW := Lib.hid hbw
    have HROW := Lib.hid hrow
    have hzr := hbw.size
    obtain ⟨op, on, oc, hov⟩ := owns_slice HROW.out
    subst hov
    clear hbw hrow
    by_cases hlt : i < n
    · have hla : d.L.length = n := HN.out
      obtain ⟨f, hf⟩ : ∃ f, d.L[i]? = some f := ⟨d.L[i], List.getElem?_eq_getElem (by omega)⟩
      obtain ⟨rfl, hg, hcs⟩ := HF.out.resolve_left (fun e => by rw [e] at hla; simp at hla; omega)
      obtain ⟨a0, a1, a2⟩ := file_cells (w' := wr) hg HBW.out (hcs i f hf)
      have HE := Lib.hid (show nameVals (d.L.take (i + 1)) = nameVals (d.L.take i) ++ [.string f.name] by rw [List.take_add_one, hf]; simp [nameVals])
      obtain ⟨fn, fb, fs⟩ := f
      simp only at a0 a1 a2
      clear hf hcs hla
      go_upto_region 7 with fail
      obtain ⟨z0, z1, z2⟩ := file_box (W := wr) (.string fn) (.string fb) (.int .i64 (fs : Int)) 43 rfl
      have HBA := Lib.hid (HBW.out.alloc hzr (.cells #[.string fn, .string fb, .int .i64 (fs : Int)] 43))
      have HRA := Lib.hid (HROW.out.alloc (.cells #[.string fn, .string fb, .int .i64 (fs : Int)] 43))
      have hza : wr.heap.size < (wr.alloc (.cells #[.string fn, .string fb, .int .i64 (fs : Int)] 43)).heap.size := by simp
      generalize wr.alloc (.cells #[.string fn, .string fb, .int .i64 (fs : Int)] 43) = wa at *
      clear a0 a1 a2 HROW HBW
      go_wp2_with (first
        | (at_builtin; refine wpList_append_own _ rfl _ _ 75 rfl w.heap.size 9 i0 (.string ⟨#[]⟩) 1 16 Try.underlying75 hi hz0 hz1 hz2 rfl (by decide) _ _ _ rfl (HRA.out.alloc _) ⟨wa.heap.size, 0, none⟩ 1 1 [.string fn] rfl rfl (cell_one_new _ _ _) (by simp [Value.oneCell']) (by unfold maxLen; omega) (by omega) (by simp; omega) ?_; intro v' w3 hown' hg3 _; have HO3 := Lib.hid hown'; have HG3 := Lib.hid hg3; clear hown' hg3; go_frame)
        | fail)
      go_roundw
      case rel =>
        refine ⟨i + 1, by omega, by go_num, ?_, ?_⟩
        · rw [HE.out]; exact HO3.out
        · exact (HBA.out.alloc (by omega) _).grown HG3.out (by simp; omega) (fun j hj => (HRA.out.lt j hj).1)
      case measure => simp [intOf]; omega
    · obtain rfl : i = n := by omega
      have HE := Lib.hid (show d.L.take i = d.L from List.take_of_length_le (by rw [HN.out]; omega))
      go_wp2_with fail
      go_ret2
      refine ⟨_, rfl, ?_, HBW.out⟩
      rw [← HE.out]
      exact HROW.out
set_option maxHeartbeats 2000000 in
theorem ref_list_off {d : Dk} {w : World} {b g : Nat} (h : RAt w b g d) (ho : d.off = true) :
    Calls Try.prog 50 #[.pointer (some ⟨b, 0, none⟩)] w fun e w' => e = .returned (.tuple #[.slice none 0 0, .int .i64 143]) ∧ w = w' := by
  have c3 := h.c3
  rw [ho] at c3
  clear h ho
  go_enter Try.func50, Try.ntmps50
  go_wp2_with fail
  go_ret2
  exact ⟨rfl, rfl⟩
set_option maxHeartbeats 2000000 in
theorem list_off {d : Dk} {w : World} {b m : Nat} (h : DAt w b m d) (ho : d.off = true) :
    Calls Try.prog 49 #[.pointer (some ⟨b, 0, none⟩)] w fun e w' => e = .returned (.tuple #[.slice none 0 0, .int .i64 143]) ∧ w = w' := by
  have c3 := h.c3
  rw [ho] at c3
  clear h ho
  go_enter Try.func49, Try.ntmps49
  go_wp2_with fail
  go_ret2
  exact ⟨rfl, rfl⟩
set_option maxHeartbeats 2000000 in
theorem list_on {d : Dk} {w : World} {b m : Nat} (h : DAt w b m d) (hok : d.Ok) (ho : d.off = false) :
    Calls Try.prog 49 #[.pointer (some ⟨b, 0, none⟩)] w fun e w' => ∃ v, e = .returned (.tuple #[v, .int .i64 0]) ∧ w'.ownsRow w.heap.size 9 1 v d.L.length (nameVals d.L) ∧ Below w.heap.size w w' := by
  have c3 := h.c3
  rw [ho] at c3
  have H := Lib.hid h
  clear h ho
  go_enter Try.func49, Try.ntmps49
  go_wp2_with fail
  refine (names_any sortC H.out hok).mono ?_
  rintro e w1 ⟨v, rfl, hrow, hB⟩
  have HR := Lib.hid hrow
  have HB := Lib.hid hB
  clear hrow hB
  go_wp2_with fail
  go_ret2
  exact ⟨v, rfl, HR.out, HB.out⟩

set_option maxRecDepth 100000 in
set_option maxHeartbeats 4000000 in
theorem texts_same {w : World} {Ba Bb : Nat} {va vb : Value} {L : List Fl} (ha : NamesAt Ba w va L) (hb : NamesAt Bb w vb L) (hl : L.length ≤ 64) :
    Calls Try.prog 51 #[va, vb] w fun e w' => e = .returned (.bool true) ∧ Below w.heap.size w w' := by
  obtain ⟨pa, ca, rfl, ha⟩ := ha
  obtain ⟨pb, cb, rfl, hb⟩ := hb
  have HA := Lib.hid ha
  have HB := Lib.hid hb
  clear ha hb
  generalize hn : L.length = n at *
  have HN := Lib.hid hn
  clear hn
  go_enter Try.func51, Try.ntmps51
  go_wp2_with fail
  go_loopw [13] (fun iv wr => ∃ i : Nat, i ≤ n ∧ iv = .int .i64 (i : Int) ∧ Below w.heap.size w wr) (fun iv _ => n - (intOf iv).toNat)
  case atStart => exact ⟨0, Nat.zero_le _, rfl, Below.refl _ _⟩
  case round =>
    obtain ⟨i, hi, rfl, hbw⟩ := hrel
    have HBW := Lib.hid hbw
    clear hbw
    by_cases hlt : i < n
    · have hla : L.length = n := HN.out
      obtain ⟨f, hf⟩ : ∃ f, L[i]? = some f := ⟨L[i], List.getElem?_eq_getElem (by omega)⟩
      have hne : L ≠ [] := fun e => by rw [e] at hla; simp at hla; omega
      obtain ⟨g, rfl, hg1, hc⟩ := HA.out.resolve_left hne
      obtain ⟨g', rfl, hg2, hc'⟩ := HB.out.resolve_left hne
      have a0 := hc i f hf
      have b0 := hc' i f hf
      have hg : g < w.heap.size := World.block_lt_of_cell? w _ a0
      have hg' : g' < w.heap.size := World.block_lt_of_cell? w _ b0
      rw [← HBW.out.cell (p := ⟨g, i, none⟩) hg] at a0
      rw [← HBW.out.cell (p := ⟨g', i, none⟩) hg'] at b0
      have hi1 : (i : Int) < (n : Int) := by omega
      have hi0 : (0 : Int) ≤ (i : Int) := by omega
      clear hf hc hc' hla hne
      go_upto_region 6 with fail
      go_quiet (fail)
      go_wp2_with fail
      go_roundw
      case rel => exact ⟨i + 1, by omega, by go_num, HBW.out.trans ⟨rfl, rfl, rfl, Nat.le_refl _, fun _ _ => rfl⟩⟩
      case measure => simp [intOf]; omega
    · obtain rfl : i = n := by omega
      go_wp2_with fail
      go_ret
      exact ⟨rfl, HBW.out⟩
end Go.Proofs.Ytcjhkonjlhpmhaa

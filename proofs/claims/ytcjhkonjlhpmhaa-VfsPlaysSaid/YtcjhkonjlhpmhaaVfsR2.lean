/- Contracts of the reference's disk: drop, put. -/
import Derived.Test.YtcjhkonjlhpmhaaVfsR1
import Derived.Deep.Cut
import Derived.Deep.CutRange
namespace Go.Proofs.Ytcjhkonjlhpmhaa
open Go.RowKit Go.Maps

theorem file_box {W w' : World} (a b c : Value) (t : TypeId) (hw : w' = W.alloc (.cells #[a, b, c] t)) : w'.cell? ⟨W.heap.size, 0, none⟩ = some a ∧ w'.cell? ⟨W.heap.size, 1, none⟩ = some b ∧ w'.cell? ⟨W.heap.size, 2, none⟩ = some c := by
  subst hw
  simp only [World.cell?_alloc_new]
  exact ⟨rfl, rfl, rfl⟩

set_option maxRecDepth 100000 in
set_option maxHeartbeats 8000000 in
theorem ref_drop {d : Dk} {w : World} {b g : Nat} (h : RAt w b g d) (hm : d.L.length ≤ 64) (k : Nat) :
    Calls Try.prog 61 #[.pointer (some ⟨b, 0, none⟩), .int .i64 (k : Int)] w fun e w' => e = .returned (.tuple #[]) ∧ (∃ g', RAt w' b g' { d with L := d.L.eraseIdx k } ∧ (g' = b ∨ w.heap.size ≤ g')) ∧ Kp b g w w' := by
  obtain ⟨i0, hi, hz0, hz1, hz2⟩ := info_parts Fileinfo
  have hb := h.lt
  obtain ⟨lv, hc, hr⟩ := h
  obtain ⟨p, c, rfl, hlc, hf⟩ := hr.files
  have c1 := hc.c1
  have HF := Lib.hid hf
  have HC := Lib.hid hc
  clear hc hr hf hlc
  generalize hn : d.L.length = n at *
  have HN := Lib.hid hn
  clear hn
  go_enter Try.func61, Try.ntmps61
  go_wp2_with fail
  go_loopw [4, 12] (fun ov iv wr => ∃ i : Nat, i ≤ n ∧ iv = .int .i64 (i : Int) ∧ wr.ownsRow w.heap.size 43 3 ov ((d.L.take i).eraseIdx k).length (fileCells ((d.L.take i).eraseIdx k)) ∧ Below w.heap.size w wr) (fun _ iv _ => n - (intOf iv).toNat)
  case atStart => exact ⟨0, Nat.zero_le _, rfl, by simpa [fileCells] using World.ownsRow_nil w w.heap.size 43 3, Below.refl _ _⟩
  case round =>
    obtain ⟨i, hi', rfl, hrow, hbw⟩ := hrel
    have HBW := Lib.hid hbw
    have HROW := Lib.hid hrow
    have hzr := hbw.size
    clear hbw hrow
    by_cases hlt : i < n
    · have hla : d.L.length = n := HN.out
      obtain ⟨f, hf⟩ : ∃ f, d.L[i]? = some f := ⟨d.L[i], List.getElem?_eq_getElem (by omega)⟩
      obtain ⟨rfl, hg, hcs⟩ := HF.out.resolve_left (fun e => by rw [e] at hla; simp at hla; omega)
      obtain ⟨a0, a1, a2⟩ := file_cells hg HBW.out (hcs i f hf)
      have HE := Lib.hid (erase_take (k := k) hf)
      have hle : ((d.L.take i).eraseIdx k).length ≤ 64 := by
        have h1 := List.length_eraseIdx_le (d.L.take i) k
        have h2 : (d.L.take i).length ≤ i := List.length_take_le _ _
        omega
      obtain ⟨fn, fb, fs⟩ := f
      simp only at a0 a1 a2
      obtain ⟨op, on, oc, hov⟩ := owns_slice HROW.out
      subst hov
      clear hf hcs hla
      generalize (d.L.take i).eraseIdx k = M at *
      go_upto_region 4 with fail
      have hcb := file_box (W := wr) (.string fn) (.string fb) (.int .i64 (fs : Int)) 43 rfl
      obtain ⟨z0, z1, z2⟩ := hcb
      have HBA := Lib.hid (HBW.out.alloc hzr (.cells #[.string fn, .string fb, .int .i64 (fs : Int)] 43))
      have HRA := Lib.hid (HROW.out.alloc (.cells #[.string fn, .string fb, .int .i64 (fs : Int)] 43))
      have hza : wr.heap.size < (wr.alloc (.cells #[.string fn, .string fb, .int .i64 (fs : Int)] 43)).heap.size := by simp
      generalize wr.alloc (.cells #[.string fn, .string fb, .int .i64 (fs : Int)] 43) = wa at *
      clear a0 a1 a2 HROW HBW
      by_cases hk : i = k
      · have HE2 := Lib.hid (show (d.L.take (i + 1)).eraseIdx k = M by rw [HE.out, if_pos hk])
        have hki : (i : Int) = (k : Int) := by omega
        clear HE
        go_wp2_with fail
        go_roundw
        case rel => exact ⟨i + 1, by omega, by go_num, by rw [HE2.out]; exact HRA.out, HBA.out⟩
        case measure => simp [intOf]; omega
      · have HE2 := Lib.hid (show (d.L.take (i + 1)).eraseIdx k = M ++ [⟨fn, fb, fs⟩] by rw [HE.out, if_neg hk])
        have HF2 := Lib.hid (show fileCells (M ++ [⟨fn, fb, fs⟩]) = fileCells M ++ [.string fn, .string fb, .int .i64 (fs : Int)] from fileCells_snoc _ _)
        have hki : ¬ (i : Int) = (k : Int) := by omega
        clear HE
        go_wp2_with (first
          | (at_builtin; refine wpList_append_own _ rfl _ _ 40 rfl w.heap.size 43 i0 (.agg #[.string ⟨#[]⟩, .string ⟨#[]⟩, .int .i64 0]) 3 40 Try.underlying40 hi hz0 hz1 hz2 rfl (by decide) _ _ _ rfl (HRA.out.alloc _) ⟨wa.heap.size, 0, none⟩ 1 1 [.string fn, .string fb, .int .i64 (fs : Int)] rfl rfl (cell3_new _ _ _ _ _) (by simp [Value.oneCell']) (by unfold maxLen; omega) (by omega) (by simp; omega) ?_; intro v' w3 hown' hg3 _; have HO3 := Lib.hid hown'; have HG3 := Lib.hid hg3; clear hown' hg3; go_frame)
          | fail)
        go_roundw
        case rel =>
          refine ⟨i + 1, by omega, by go_num, ?_, ?_⟩
          · rw [HE2.out, HF2.out]; simpa using HO3.out
          · exact (HBA.out.alloc (by omega) _).grown HG3.out (by simp; omega) (fun j hj => (HRA.out.lt j hj).1)
        case measure => simp [intOf]; omega
    · obtain rfl : i = n := by omega
      have HE := Lib.hid (show d.L.take i = d.L from List.take_of_length_le (by rw [HN.out]; omega))
      obtain ⟨op, on, oc, hov⟩ := owns_slice HROW.out
      subst hov
      have HCW := Lib.hid (HC.out.of_block (HBW.out.block b hb))
      have d1 := HCW.out.c1
      have e1 := HCW.out.f1
      go_wp2_with fail
      go_end0
      have hrow := HROW.out
      rw [HE.out] at hrow
      refine ⟨rfl, ⟨(Value.ownBlock (.slice op on oc)).getD b, ⟨_, HCW.out.set1 _, ?_, rfl⟩, ?_⟩, (Kp.of_below HBW.out).setCell 1 _⟩
      · refine row_block_kept (owns_down hrow (by omega)) fun j hj => Below.heap_setCell _ _ _ _ ?_
        have := hrow.lt j hj
        show j ≠ b; omega
      · cases hv : Value.ownBlock (.slice op on oc) with
        | none => exact .inl rfl
        | some j => exact .inr (hrow.lt j hv).1

theorem less_before : ∀ (x y : List UInt8), Op.bytesLess x y = bytesBefore x y
  | [], [] => rfl
  | [], _ :: _ => rfl
  | _ :: _, [] => rfl
  | x :: a, y :: b => by
    simp only [Op.bytesLess, bytesBefore, less_before a b]
theorem less_ba (x y : ByteArray) : Op.bytesLess x.toList y.toList = bytesBefore x.data.toList y.data.toList := by
  rw [less_before, ByteArray.toList_eq, ByteArray.toList_eq]
set_option maxRecDepth 100000 in
set_option maxHeartbeats 16000000 in
theorem ref_put {d : Dk} {w : World} {b g : Nat} (h : RAt w b g d) (hm : d.L.length ≤ 64) (f : Fl) :
    Calls Try.prog 59 #[.pointer (some ⟨b, 0, none⟩), .agg #[.string f.name, .string f.bytes, .int .i64 (f.safe : Int)]] w fun e w' => e = .returned (.tuple #[]) ∧ (∃ g', RAt w' b g' { d with L := insF f d.L } ∧ (g' = b ∨ w.heap.size ≤ g')) ∧ Kp b g w w' := by
  obtain ⟨i0, hi, hz0, hz1, hz2⟩ := info_parts Fileinfo
  have hb := h.lt
  obtain ⟨nm, nb, ns⟩ := f
  simp only
  obtain ⟨lv, hc, hr⟩ := h
  obtain ⟨p, c, rfl, hlc, hf⟩ := hr.files
  have hB0 := (Below.refl w.heap.size w).alloc (Nat.le_refl _) (.cells #[.string nm, .string nb, .int .i64 (ns : Int)] 43)
  have hc2 := hc.of_block (hB0.block b hb)
  have hfb : Hid (d.L = [] ∨ p = some ⟨g, 0, none⟩ ∧ g < w.heap.size ∧ ∀ i f, d.L[i]? = some f → _) := Lib.hid hf
  have HC := Lib.hid hc
  have HF := Lib.hid hf
  clear hr hf hlc hfb
  generalize hn : d.L.length = n at *
  have HN := Lib.hid hn
  clear hn
  go_enter Try.func59, Try.ntmps59
  go_upto_region 1 with fail
  obtain ⟨x0, x1, x2⟩ := file_box (W := w) (.string nm) (.string nb) (.int .i64 (ns : Int)) 43 rfl
  have hz0' : w.heap.size < (w.alloc (.cells #[.string nm, .string nb, .int .i64 (ns : Int)] 43)).heap.size := by simp
  generalize w.alloc (.cells #[.string nm, .string nb, .int .i64 (ns : Int)] 43) = w0 at *
  have HB0 := Lib.hid hB0
  have HX := Lib.hid (And.intro x0 (And.intro x1 x2))
  have c1 := hc2.c1
  clear hB0 hc2 hc x0 x1 x2
  go_wp2_with fail
  go_loopw [4, 5, 13] (fun ov dv iv wr => ∃ (i : Nat) (dn : Bool) (O : List Fl), i ≤ n ∧ O.length ≤ i + dn.toNat ∧ iv = .int .i64 (i : Int) ∧ dv = .bool dn ∧ O ++ restF ⟨nm, nb, ns⟩ dn (d.L.drop i) = insF ⟨nm, nb, ns⟩ d.L ∧ wr.ownsRow w0.heap.size 43 3 ov O.length (fileCells O) ∧ Below w0.heap.size w0 wr) (fun _ _ iv _ => n - (intOf iv).toNat)
  case atStart => exact ⟨0, false, [], Nat.zero_le _, by simp, rfl, rfl, rfl, World.ownsRow_nil _ _ _ _, Below.refl _ _⟩
  case round =>
    obtain ⟨i, dn, O, hi', hol, rfl, rfl, hre, hrow, hbw⟩ := hrel
    have hol1 : O.length ≤ i + 1 := by have : dn.toNat ≤ 1 := Bool.toNat_le dn; omega
    have HRE := Lib.hid hre
    have HBW := Lib.hid hbw
    have HROW := Lib.hid hrow
    have hzr := hbw.size
    obtain ⟨op, on, oc, hov⟩ := owns_slice HROW.out
    subst hov
    have y0 : wr.cell? ⟨w.heap.size, 0, none⟩ = some (.string nm) := by rw [hbw.cell (p := ⟨w.heap.size, 0, none⟩) hz0']; exact HX.out.1
    have y1 : wr.cell? ⟨w.heap.size, 1, none⟩ = some (.string nb) := by rw [hbw.cell (p := ⟨w.heap.size, 1, none⟩) hz0']; exact HX.out.2.1
    have y2 : wr.cell? ⟨w.heap.size, 2, none⟩ = some (.int .i64 (ns : Int)) := by rw [hbw.cell (p := ⟨w.heap.size, 2, none⟩) hz0']; exact HX.out.2.2
    clear hre hbw hrow
    by_cases hlt : i < n
    · have hla : d.L.length = n := HN.out
      obtain ⟨f, hf⟩ : ∃ f, d.L[i]? = some f := ⟨d.L[i], List.getElem?_eq_getElem (by omega)⟩
      obtain ⟨rfl, hg, hcs⟩ := HF.out.resolve_left (fun e => by rw [e] at hla; simp at hla; omega)
      obtain ⟨a0, a1, a2⟩ := file_cells (w' := wr) hg (HB0.out.trans (HBW.out.mono (by omega))) (hcs i f hf)
      have R1 := Lib.hid (restF_done (f := ⟨nm, nb, ns⟩) hf)
      have R2 := Lib.hid (restF_now (f := ⟨nm, nb, ns⟩) hf)
      have R3 := Lib.hid (restF_later (f := ⟨nm, nb, ns⟩) hf)
      obtain ⟨fn, fb, fs⟩ := f
      simp only at a0 a1 a2
      clear hf hcs hla
      go_upto_region 6 with fail
      have hcb := file_box (W := wr) (.string fn) (.string fb) (.int .i64 (fs : Int)) 43 rfl
      obtain ⟨z0, z1, z2⟩ := hcb
      have HBA := Lib.hid (HBW.out.alloc hzr (.cells #[.string fn, .string fb, .int .i64 (fs : Int)] 43))
      have HRA := Lib.hid (HROW.out.alloc (.cells #[.string fn, .string fb, .int .i64 (fs : Int)] 43))
      have hza : wr.heap.size < (wr.alloc (.cells #[.string fn, .string fb, .int .i64 (fs : Int)] 43)).heap.size := by simp
      have hba := (Below.refl wr.heap.size wr).alloc (Nat.le_refl _) (.cells #[.string fn, .string fb, .int .i64 (fs : Int)] 43)
      rw [← hba.cell (p := ⟨w.heap.size, 0, none⟩) (show w.heap.size < _ by omega)] at y0
      rw [← hba.cell (p := ⟨w.heap.size, 1, none⟩) (show w.heap.size < _ by omega)] at y1
      rw [← hba.cell (p := ⟨w.heap.size, 2, none⟩) (show w.heap.size < _ by omega)] at y2
      generalize wr.alloc (.cells #[.string fn, .string fb, .int .i64 (fs : Int)] 43) = wa at *
      have HRO := Lib.hid (show ∀ j, (Value.slice op on oc).ownBlock = some j → j < wr.heap.size from fun j hj => (HROW.out.lt j hj).2)
      clear a0 a1 a2 HROW HBW hba
      cases dn with
      | true =>
        have HF2 := Lib.hid (show fileCells (O ++ [⟨fn, fb, fs⟩]) = fileCells O ++ [.string fn, .string fb, .int .i64 (fs : Int)] from fileCells_snoc _ _)
        have HR2 := Lib.hid (show (O ++ [⟨fn, fb, fs⟩]) ++ restF ⟨nm, nb, ns⟩ true (d.L.drop (i + 1)) = insF ⟨nm, nb, ns⟩ d.L by rw [← HRE.out, R1.out]; simp)
        go_wp2_with (first
          | (at_builtin; refine wpList_append_own _ rfl _ _ 40 rfl w0.heap.size 43 i0 (.agg #[.string ⟨#[]⟩, .string ⟨#[]⟩, .int .i64 0]) 3 40 Try.underlying40 hi hz0 hz1 hz2 rfl (by decide) _ _ _ rfl (HRA.out.alloc _) ⟨wa.heap.size, 0, none⟩ 1 1 [.string fn, .string fb, .int .i64 (fs : Int)] rfl rfl (cell3_new _ _ _ _ _) (by simp [Value.oneCell']) (by unfold maxLen; omega) (by omega) (by simp; omega) ?_; intro v' w3 hown' hg3 _; have HO3 := Lib.hid hown'; have HG3 := Lib.hid hg3; clear hown' hg3; go_frame)
          | fail)
        go_roundw
        case rel =>
          refine ⟨i + 1, true, O ++ [⟨fn, fb, fs⟩], by omega, by simp at hol ⊢; omega, by go_num, rfl, HR2.out, ?_, ?_⟩
          · rw [HF2.out]; simpa using HO3.out
          · exact (HBA.out.alloc (by omega) _).grown HG3.out (by simp; omega) (fun j hj => (HRA.out.lt j hj).1)
        case measure => simp [intOf]; omega
      | false =>
        have hol2 : O.length ≤ i := by simpa using hol
        have hlb := less_ba nm fn
        cases hbe : bytesBefore nm.data.toList fn.data.toList with
        | true =>
          rw [hbe] at hlb
          have HF2 := Lib.hid (show fileCells (O ++ [⟨nm, nb, ns⟩]) = fileCells O ++ [.string nm, .string nb, .int .i64 (ns : Int)] from fileCells_snoc _ _)
          have HF3 := Lib.hid (show fileCells ((O ++ [⟨nm, nb, ns⟩]) ++ [⟨fn, fb, fs⟩]) = fileCells (O ++ [⟨nm, nb, ns⟩]) ++ [.string fn, .string fb, .int .i64 (fs : Int)] from fileCells_snoc _ _)
          have HR2 := Lib.hid (show ((O ++ [⟨nm, nb, ns⟩]) ++ [⟨fn, fb, fs⟩]) ++ restF ⟨nm, nb, ns⟩ true (d.L.drop (i + 1)) = insF ⟨nm, nb, ns⟩ d.L by rw [← HRE.out, R2.out hbe]; simp)
          clear hbe
          go_upto_region 9 with (first
            | (at_builtin; refine wpList_append_own _ rfl _ _ 40 rfl w0.heap.size 43 i0 (.agg #[.string ⟨#[]⟩, .string ⟨#[]⟩, .int .i64 0]) 3 40 Try.underlying40 hi hz0 hz1 hz2 rfl (by decide) _ _ _ rfl (HRA.out.alloc _) ⟨wa.heap.size, 0, none⟩ 1 1 [.string nm, .string nb, .int .i64 (ns : Int)] rfl rfl (cell3_new _ _ _ _ _) (by simp [Value.oneCell']) (by unfold maxLen; omega) (by omega) (by simp; omega) ?_; intro v' w3 hown' hg3 _; have HO3 := Lib.hid hown'; have HG3 := Lib.hid hg3; clear hown' hg3; go_frame)
            | fail)
          have hg3 := HG3.out
          have hz3 : wa.heap.size < w3.heap.size := by have := hg3.size; simp at this; omega
          have hblk : w3.heap[wr.heap.size]? = wa.heap[wr.heap.size]? := by
            rw [hg3.block wr.heap.size (by simp; omega) (fun e => by have := HRO.out _ e.symm; omega)]
            exact ((Below.refl wa.heap.size wa).alloc (Nat.le_refl _) _).block _ hza
          rw [← World.cell?_of_block (w := wa) (w' := w3) hblk] at z0 z1 z2
          have HO3' := Lib.hid (show w3.ownsRow w0.heap.size 43 3 v' (O.length + 1) (fileCells (O ++ [⟨nm, nb, ns⟩])) by rw [HF2.out]; exact HO3.out)
          have HB3 := Lib.hid ((HBA.out.alloc (by omega) _).grown hg3 (by simp; omega) (fun j hj => (HRA.out.lt j hj).1))
          obtain ⟨vp, vn, vc, hvv⟩ := owns_slice HO3.out
          subst hvv
          clear hg3 hblk HG3 HO3 HBA HRA y0 y1 y2
          go_wp2_with (first
            | (at_builtin; refine wpList_append_own _ rfl _ _ 40 rfl w0.heap.size 43 i0 (.agg #[.string ⟨#[]⟩, .string ⟨#[]⟩, .int .i64 0]) 3 40 Try.underlying40 hi hz0 hz1 hz2 rfl (by decide) _ _ _ rfl (HO3'.out.alloc _) ⟨w3.heap.size, 0, none⟩ 1 1 [.string fn, .string fb, .int .i64 (fs : Int)] rfl rfl (cell3_new _ _ _ _ _) (by simp [Value.oneCell']) (by unfold maxLen; omega) (by omega) (by simp; omega) ?_; intro v'' w4 hown' hg4 _; have HO4 := Lib.hid hown'; have HG4 := Lib.hid hg4; clear hown' hg4; go_frame)
            | fail)
          go_roundw
          case rel =>
            refine ⟨i + 1, true, (O ++ [⟨nm, nb, ns⟩]) ++ [⟨fn, fb, fs⟩], by omega, by simp at hol ⊢; omega, by go_num, rfl, HR2.out, ?_, ?_⟩
            · rw [HF3.out]; simpa using HO4.out
            · exact (HB3.out.alloc (by have := HB3.out.size; omega) _).grown HG4.out (by have := HB3.out.size; simp; omega) (fun j hj => (HO3'.out.lt j hj).1)
          case measure => simp [intOf]; omega
        | false =>
          rw [hbe] at hlb
          have HF2 := Lib.hid (show fileCells (O ++ [⟨fn, fb, fs⟩]) = fileCells O ++ [.string fn, .string fb, .int .i64 (fs : Int)] from fileCells_snoc _ _)
          have HR2 := Lib.hid (show (O ++ [⟨fn, fb, fs⟩]) ++ restF ⟨nm, nb, ns⟩ false (d.L.drop (i + 1)) = insF ⟨nm, nb, ns⟩ d.L by rw [← HRE.out, R3.out hbe]; simp)
          clear hbe
          go_wp2_with (first
            | (at_builtin; refine wpList_append_own _ rfl _ _ 40 rfl w0.heap.size 43 i0 (.agg #[.string ⟨#[]⟩, .string ⟨#[]⟩, .int .i64 0]) 3 40 Try.underlying40 hi hz0 hz1 hz2 rfl (by decide) _ _ _ rfl (HRA.out.alloc _) ⟨wa.heap.size, 0, none⟩ 1 1 [.string fn, .string fb, .int .i64 (fs : Int)] rfl rfl (cell3_new _ _ _ _ _) (by simp [Value.oneCell']) (by unfold maxLen; omega) (by omega) (by simp; omega) ?_; intro v' w3 hown' hg3 _; have HO3 := Lib.hid hown'; have HG3 := Lib.hid hg3; clear hown' hg3; go_frame)
            | fail)
          go_roundw
          case rel =>
            refine ⟨i + 1, false, O ++ [⟨fn, fb, fs⟩], by omega, by simp at hol ⊢; omega, by go_num, rfl, HR2.out, ?_, ?_⟩
            · rw [HF2.out]; simpa using HO3.out
            · exact (HBA.out.alloc (by omega) _).grown HG3.out (by simp; omega) (fun j hj => (HRA.out.lt j hj).1)
          case measure => simp [intOf]; omega
    · obtain rfl : i = n := by omega
      have HE := Lib.hid (show d.L.drop i = [] from List.drop_of_length_le (by rw [HN.out]; omega))
      have HBW2 := Lib.hid (HB0.out.trans (HBW.out.mono (by omega)))
      have HCW := Lib.hid (HC.out.of_block (HBW2.out.block b hb))
      have d1 := HCW.out.c1
      have e1 := HCW.out.f1
      have hbz : b < wr.heap.size := by omega
      cases dn with
      | true =>
        have HL := Lib.hid (show O = insF ⟨nm, nb, ns⟩ d.L by have h9 := HRE.out; rw [HE.out] at h9; simpa [restF] using h9)
        clear y0 y1 y2
        go_wp2_with fail
        go_end0
        have hrow := HROW.out
        rw [HL.out] at hrow
        refine ⟨rfl, ⟨(Value.ownBlock (.slice op on oc)).getD b, ⟨_, HCW.out.set1 _, ?_, rfl⟩, ?_⟩, (Kp.of_below HBW2.out).setCell 1 _⟩
        · refine row_block_kept (owns_down hrow (by omega)) fun j hj => Below.heap_setCell _ _ _ _ ?_
          have := hrow.lt j hj
          show j ≠ b; omega
        · cases hv : Value.ownBlock (.slice op on oc) with
          | none => exact .inl rfl
          | some j => exact .inr (by have := (hrow.lt j hv).1; simp; omega)
      | false =>
        have HL := Lib.hid (show O ++ [⟨nm, nb, ns⟩] = insF ⟨nm, nb, ns⟩ d.L by have h9 := HRE.out; rw [HE.out] at h9; simpa [restF, insF] using h9)
        have HF2 := Lib.hid (show fileCells (O ++ [⟨nm, nb, ns⟩]) = fileCells O ++ [.string nm, .string nb, .int .i64 (ns : Int)] from fileCells_snoc _ _)
        clear d1 e1
        go_upto_region 13 with (first
            | (at_builtin; refine wpList_append_own _ rfl _ _ 40 rfl w0.heap.size 43 i0 (.agg #[.string ⟨#[]⟩, .string ⟨#[]⟩, .int .i64 0]) 3 40 Try.underlying40 hi hz0 hz1 hz2 rfl (by decide) _ _ _ rfl (HROW.out.alloc _) ⟨wr.heap.size, 0, none⟩ 1 1 [.string nm, .string nb, .int .i64 (ns : Int)] rfl rfl (cell3_new _ _ _ _ _) (by simp [Value.oneCell']) (by unfold maxLen; omega) (by omega) (by simp; omega) ?_; intro v' w3 hown' hg3 _; have HO3 := Lib.hid hown'; have HG3 := Lib.hid hg3; clear hown' hg3; go_frame)
            | fail)
        obtain ⟨vp, vn, vc, hvv⟩ := owns_slice HO3.out
        subst hvv
        have HB3 := Lib.hid (((Below.refl w.heap.size w).trans HBW2.out |>.alloc (by have := HBW2.out.size; omega) _).grown HG3.out (by have := HBW2.out.size; simp; omega) (fun j hj => by have := (HROW.out.lt j hj).1; omega))
        have HC3 := Lib.hid (HC.out.of_block (HB3.out.block b hb))
        have d1 := HC3.out.c1
        have e1 := HC3.out.f1
        clear y0 y1 y2 HG3
        go_wp2_with fail
        go_end0
        have hrow := HO3.out
        rw [← HF2.out] at hrow
        have hl1 : O.length + 1 = (O ++ [(⟨nm, nb, ns⟩ : Fl)]).length := by simp
        rw [hl1, HL.out] at hrow
        refine ⟨rfl, ⟨(Value.ownBlock (.slice vp vn vc)).getD b, ⟨_, HC3.out.set1 _, ?_, rfl⟩, ?_⟩, (Kp.of_below HB3.out).setCell 1 _⟩
        · refine row_block_kept (owns_down hrow (by omega)) fun j hj => Below.heap_setCell _ _ _ _ ?_
          have := hrow.lt j hj
          show j ≠ b; omega
        · cases hv : Value.ownBlock (.slice vp vn vc) with
          | none => exact .inl rfl
          | some j => exact .inr (by have := (hrow.lt j hv).1; simp; omega)
end Go.Proofs.Ytcjhkonjlhpmhaa

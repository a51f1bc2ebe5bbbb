/- Contracts of the reference's disk: drop, put. Contracts of the reference's disk: Create, Remove (printed by gen_ref.py). -/
import Derived.Test.YtnpgjlhnlakgpaaGreatDoorG06
import Derived.Deep.Cut
import Derived.Deep.CutRange
namespace Go.Proofs.YtnpgjlhnlakgpaaGreatDoor
open Go.RowKit Go.Maps

theorem file_box {W w' : World} (a b c : Value) (t : TypeId) (hw : w' = W.alloc (.cells #[a, b, c] t)) : w'.cell? ⟨W.heap.size, 0, none⟩ = some a ∧ w'.cell? ⟨W.heap.size, 1, none⟩ = some b ∧ w'.cell? ⟨W.heap.size, 2, none⟩ = some c := by
  subst hw
  simp only [World.cell?_alloc_new]
  exact ⟨rfl, rfl, rfl⟩

set_option maxRecDepth 100000 in
set_option maxHeartbeats 8000000 in
theorem ref_drop {d : Dk} {w : World} {b g : Nat} (h : RAt w b g d) (hm : d.L.length ≤ 64) (k : Nat) :
    Calls Tryz.prog 84 #[.pointer (some ⟨b, 0, none⟩), .int .i64 (k : Int)] w fun e w' => e = .returned (.tuple #[]) ∧ (∃ g', RAt w' b g' { d with L := d.L.eraseIdx k } ∧ (g' = b ∨ w.heap.size ≤ g')) ∧ Kp b g w w' := by
  obtain ⟨i0, hi, hz0, hz1, hz2⟩ := info_parts Fileinfo
  have hb := h.lt
  obtain ⟨lv, hc, hr⟩ := h
  obtain ⟨p, c, rfl, hlc, hf⟩ := hr.files
  have c1 := hc.c1
  have HF := Lib.hid hf
  have HC := Lib.hid hc
  clear hc hr hf hlc
  generalize hn : d.L.length = n at *
  have HN := Lib.hid hn
  clear hn
  go_enter Tryz.func84, Tryz.ntmps84
  go_wp2_with fail
  go_loopw [4, 12] (fun ov iv wr => ∃ i : Nat, i ≤ n ∧ iv = .int .i64 (i : Int) ∧ wr.ownsRow w.heap.size 75 3 ov ((d.L.take i).eraseIdx k).length (fileCells ((d.L.take i).eraseIdx k)) ∧ Below w.heap.size w wr) (fun _ iv _ => n - (intOf iv).toNat)
  case atStart => exact ⟨0, Nat.zero_le _, rfl, by simpa [fileCells] using World.ownsRow_nil w w.heap.size 75 3, Below.refl _ _⟩
  case round =>
    obtain ⟨i, hi', rfl, hrow, hbw⟩ := hrel
    have HBW := Lib.hid hbw
    have HROW := Lib.hid hrow
    have hzr := hbw.size
    clear hbw hrow
    by_cases hlt : i < n
    · have hla : d.L.length = n := HN.out
      obtain ⟨f, hf⟩ : ∃ f, d.L[i]? = some f := ⟨d.L[i], List.getElem?_eq_getElem (by omega)⟩
      obtain ⟨rfl, hg, hcs⟩ := HF.out.resolve_left (fun e => by rw [e] at hla; simp at hla; omega)
      obtain ⟨a0, a1, a2⟩ := file_cells hg HBW.out (hcs i f hf)
      have HE := Lib.hid (erase_take (k := k) hf)
      have hle : ((d.L.take i).eraseIdx k).length ≤ 64 := by
        have h1 := List.length_eraseIdx_le (d.L.take i) k
        have h2 : (d.L.take i).length ≤ i := List.length_take_le _ _
        omega
      obtain ⟨fn, fb, fs⟩ := f
      simp only at a0 a1 a2
      obtain ⟨op, on, oc, hov⟩ := owns_slice HROW.out
      subst hov
      clear hf hcs hla
      generalize (d.L.take i).eraseIdx k = M at *
      go_upto_region 4 with fail
      have hcb := file_box (W := wr) (.string fn) (.string fb) (.int .i64 (fs : Int)) 75 rfl
      obtain ⟨z0, z1, z2⟩ := hcb
      have HBA := Lib.hid (HBW.out.alloc hzr (.cells #[.string fn, .string fb, .int .i64 (fs : Int)] 75))
      have HRA := Lib.hid (HROW.out.alloc (.cells #[.string fn, .string fb, .int .i64 (fs : Int)] 75))
      have hza : wr.heap.size < (wr.alloc (.cells #[.string fn, .string fb, .int .i64 (fs : Int)] 75)).heap.size := by simp
      generalize wr.alloc (.cells #[.string fn, .string fb, .int .i64 (fs : Int)] 75) = wa at *
      clear a0 a1 a2 HROW HBW
      by_cases hk : i = k
      · have HE2 := Lib.hid (show (d.L.take (i + 1)).eraseIdx k = M by rw [HE.out, if_pos hk])
        have hki : (i : Int) = (k : Int) := by omega
        clear HE
        go_wp2_with fail
        go_roundw
        case rel => exact ⟨i + 1, by omega, by go_num, by rw [HE2.out]; exact HRA.out, HBA.out⟩
        case measure => simp [intOf]; omega
      · have HE2 := Lib.hid (show (d.L.take (i + 1)).eraseIdx k = M ++ [⟨fn, fb, fs⟩] by rw [HE.out, if_neg hk])
        have HF2 := Lib.hid (show fileCells (M ++ [⟨fn, fb, fs⟩]) = fileCells M ++ [.string fn, .string fb, .int .i64 (fs : Int)] from fileCells_snoc _ _)
        have hki : ¬ (i : Int) = (k : Int) := by omega
        clear HE
        go_wp2_with (first
          | (at_builtin; refine wpList_append_own _ rfl _ _ 45 rfl w.heap.size 75 i0 (.agg #[.string ⟨#[]⟩, .string ⟨#[]⟩, .int .i64 0]) 3 40 Tryz.underlying45 hi hz0 hz1 hz2 rfl (by decide) _ _ _ rfl (HRA.out.alloc _) ⟨wa.heap.size, 0, none⟩ 1 1 [.string fn, .string fb, .int .i64 (fs : Int)] rfl rfl (cell3_new _ _ _ _ _) (by simp [Value.oneCell']) (by unfold maxLen; omega) (by omega) (by simp; omega) ?_; intro v' w3 hown' hg3 _; have HO3 := Lib.hid hown'; have HG3 := Lib.hid hg3; clear hown' hg3; go_frame)
          | fail)
        go_roundw
        case rel =>
          refine ⟨i + 1, by omega, by go_num, ?_, ?_⟩
          · rw [HE2.out, HF2.out]; simpa using HO3.out
          · exact (HBA.out.alloc (by omega) _).grown HG3.out (by simp; omega) (fun j hj => (HRA.out.lt j hj).1)
        case measure => simp [intOf]; omega
    · obtain rfl : i = n := by omega
      have HE := Lib.hid (show d.L.take i = d.L from List.take_of_length_le (by rw [HN.out]; omega))
      obtain ⟨op, on, oc, hov⟩ := owns_slice HROW.out
      subst hov
      have HCW := Lib.hid (HC.out.of_block (HBW.out.block b hb))
      have d1 := HCW.out.c1
      have e1 := HCW.out.f1
      go_wp2_with fail
      go_end0
      have hrow := HROW.out
      rw [HE.out] at hrow
      refine ⟨rfl, ⟨(Value.ownBlock (.slice op on oc)).getD b, ⟨_, HCW.out.set1 _, ?_, rfl⟩, ?_⟩, (Kp.of_below HBW.out).setCell 1 _⟩
      · refine row_block_kept (owns_down hrow (by omega)) fun j hj => Below.heap_setCell _ _ _ _ ?_
        have := hrow.lt j hj
        show j ≠ b; omega
      · cases hv : Value.ownBlock (.slice op on oc) with
        | none => exact .inl rfl
        | some j => exact .inr (hrow.lt j hv).1

theorem less_before : ∀ (x y : List UInt8), Op.bytesLess x y = bytesBefore x y
  | [], [] => rfl
  | [], _ :: _ => rfl
  | _ :: _, [] => rfl
  | x :: a, y :: b => by
    simp only [Op.bytesLess, bytesBefore, less_before a b]
theorem less_ba (x y : ByteArray) : Op.bytesLess x.toList y.toList = bytesBefore x.data.toList y.data.toList := by
  rw [less_before, ByteArray.toList_eq, ByteArray.toList_eq]
set_option maxRecDepth 100000 in
set_option maxHeartbeats 16000000 in
theorem ref_put {d : Dk} {w : World} {b g : Nat} (h : RAt w b g d) (hm : d.L.length ≤ 64) (f : Fl) :
    Calls Tryz.prog 66 #[.pointer (some ⟨b, 0, none⟩), .agg #[.string f.name, .string f.bytes, .int .i64 (f.safe : Int)]] w fun e w' => e = .returned (.tuple #[]) ∧ (∃ g', RAt w' b g' { d with L := insF f d.L } ∧ (g' = b ∨ w.heap.size ≤ g')) ∧ Kp b g w w' := by
  obtain ⟨i0, hi, hz0, hz1, hz2⟩ := info_parts Fileinfo
  have hb := h.lt
  obtain ⟨nm, nb, ns⟩ := f
  simp only
  obtain ⟨lv, hc, hr⟩ := h
  obtain ⟨p, c, rfl, hlc, hf⟩ := hr.files
  have hB0 := (Below.refl w.heap.size w).alloc (Nat.le_refl _) (.cells #[.string nm, .string nb, .int .i64 (ns : Int)] 75)
  have hc2 := hc.of_block (hB0.block b hb)
  have hfb : Hid (d.L = [] ∨ p = some ⟨g, 0, none⟩ ∧ g < w.heap.size ∧ ∀ i f, d.L[i]? = some f → _) := Lib.hid hf
  have HC := Lib.hid hc
  have HF := Lib.hid hf
  clear hr hf hlc hfb
  generalize hn : d.L.length = n at *
  have HN := Lib.hid hn
  clear hn
  go_enter Tryz.func66, Tryz.ntmps66
  go_upto_region 1 with fail
  obtain ⟨x0, x1, x2⟩ := file_box (W := w) (.string nm) (.string nb) (.int .i64 (ns : Int)) 75 rfl
  have hz0' : w.heap.size < (w.alloc (.cells #[.string nm, .string nb, .int .i64 (ns : Int)] 75)).heap.size := by simp
  generalize w.alloc (.cells #[.string nm, .string nb, .int .i64 (ns : Int)] 75) = w0 at *
  have HB0 := Lib.hid hB0
  have HX := Lib.hid (And.intro x0 (And.intro x1 x2))
  have c1 := hc2.c1
  clear hB0 hc2 hc x0 x1 x2
  go_wp2_with fail
  go_loopw [4, 5, 13] (fun ov dv iv wr => ∃ (i : Nat) (dn : Bool) (O : List Fl), i ≤ n ∧ O.length ≤ i + dn.toNat ∧ iv = .int .i64 (i : Int) ∧ dv = .bool dn ∧ O ++ restF ⟨nm, nb, ns⟩ dn (d.L.drop i) = insF ⟨nm, nb, ns⟩ d.L ∧ wr.ownsRow w0.heap.size 75 3 ov O.length (fileCells O) ∧ Below w0.heap.size w0 wr) (fun _ _ iv _ => n - (intOf iv).toNat)
  case atStart => exact ⟨0, false, [], Nat.zero_le _, by simp, rfl, rfl, rfl, World.ownsRow_nil _ _ _ _, Below.refl _ _⟩
  case round =>
    obtain ⟨i, dn, O, hi', hol, rfl, rfl, hre, hrow, hbw⟩ := hrel
    have hol1 : O.length ≤ i + 1 := by have : dn.toNat ≤ 1 := Bool.toNat_le dn; omega
    have HRE := Lib.hid hre
    have HBW := Lib.hid hbw
    have HROW := Lib.hid hrow
    have hzr := hbw.size
    obtain ⟨op, on, oc, hov⟩ := owns_slice HROW.out
    subst hov
    have y0 : wr.cell? ⟨w.heap.size, 0, none⟩ = some (.string nm) := by rw [hbw.cell (p := ⟨w.heap.size, 0, none⟩) hz0']; exact HX.out.1
    have y1 : wr.cell? ⟨w.heap.size, 1, none⟩ = some (.string nb) := by rw [hbw.cell (p := ⟨w.heap.size, 1, none⟩) hz0']; exact HX.out.2.1
    have y2 : wr.cell? ⟨w.heap.size, 2, none⟩ = some (.int .i64 (ns : Int)) := by rw [hbw.cell (p := ⟨w.heap.size, 2, none⟩) hz0']; exact HX.out.2.2
    clear hre hbw hrow
    by_cases hlt : i < n
    · have hla : d.L.length = n := HN.out
      obtain ⟨f, hf⟩ : ∃ f, d.L[i]? = some f := ⟨d.L[i], List.getElem?_eq_getElem (by omega)⟩
      obtain ⟨rfl, hg, hcs⟩ := HF.out.resolve_left (fun e => by rw [e] at hla; simp at hla; omega)
      obtain ⟨a0, a1, a2⟩ := file_cells (w' := wr) hg (HB0.out.trans (HBW.out.mono (by omega))) (hcs i f hf)
      have R1 := Lib.hid (restF_done (f := ⟨nm, nb, ns⟩) hf)
      have R2 := Lib.hid (restF_now (f := ⟨nm, nb, ns⟩) hf)
      have R3 := Lib.hid (restF_later (f := ⟨nm, nb, ns⟩) hf)
      obtain ⟨fn, fb, fs⟩ := f
      simp only at a0 a1 a2
      clear hf hcs hla
      go_upto_region 6 with fail
      have hcb := file_box (W := wr) (.string fn) (.string fb) (.int .i64 (fs : Int)) 75 rfl
      obtain ⟨z0, z1, z2⟩ := hcb
      have HBA := Lib.hid (HBW.out.alloc hzr (.cells #[.string fn, .string fb, .int .i64 (fs : Int)] 75))
      have HRA := Lib.hid (HROW.out.alloc (.cells #[.string fn, .string fb, .int .i64 (fs : Int)] 75))
      have hza : wr.heap.size < (wr.alloc (.cells #[.string fn, .string fb, .int .i64 (fs : Int)] 75)).heap.size := by simp
      have hba := (Below.refl wr.heap.size wr).alloc (Nat.le_refl _) (.cells #[.string fn, .string fb, .int .i64 (fs : Int)] 75)
      rw [← hba.cell (p := ⟨w.heap.size, 0, none⟩) (show w.heap.size < _ by omega)] at y0
      rw [← hba.cell (p := ⟨w.heap.size, 1, none⟩) (show w.heap.size < _ by omega)] at y1
      rw [← hba.cell (p := ⟨w.heap.size, 2, none⟩) (show w.heap.size < _ by omega)] at y2
      generalize wr.alloc (.cells #[.string fn, .string fb, .int .i64 (fs : Int)] 75) = wa at *
      have HRO := Lib.hid (show ∀ j, (Value.slice op on oc).ownBlock = some j → j < wr.heap.size from fun j hj => (HROW.out.lt j hj).2)
      clear a0 a1 a2 HROW HBW hba
      cases dn with
      | true =>
        have HF2 := Lib.hid (show fileCells (O ++ [⟨fn, fb, fs⟩]) = fileCells O ++ [.string fn, .string fb, .int .i64 (fs : Int)] from fileCells_snoc _ _)
        have HR2 := Lib.hid (show (O ++ [⟨fn, fb, fs⟩]) ++ restF ⟨nm, nb, ns⟩ true (d.L.drop (i + 1)) = insF ⟨nm, nb, ns⟩ d.L by rw [← HRE.out, R1.out]; simp)
        go_wp2_with (first
          | (at_builtin; refine wpList_append_own _ rfl _ _ 45 rfl w0.heap.size 75 i0 (.agg #[.string ⟨#[]⟩, .string ⟨#[]⟩, .int .i64 0]) 3 40 Tryz.underlying45 hi hz0 hz1 hz2 rfl (by decide) _ _ _ rfl (HRA.out.alloc _) ⟨wa.heap.size, 0, none⟩ 1 1 [.string fn, .string fb, .int .i64 (fs : Int)] rfl rfl (cell3_new _ _ _ _ _) (by simp [Value.oneCell']) (by unfold maxLen; omega) (by omega) (by simp; omega) ?_; intro v' w3 hown' hg3 _; have HO3 := Lib.hid hown'; have HG3 := Lib.hid hg3; clear hown' hg3; go_frame)
          | fail)
        go_roundw
        case rel =>
          refine ⟨i + 1, true, O ++ [⟨fn, fb, fs⟩], by omega, by simp at hol ⊢; omega, by go_num, rfl, HR2.out, ?_, ?_⟩
          · rw [HF2.out]; simpa using HO3.out
          · exact (HBA.out.alloc (by omega) _).grown HG3.out (by simp; omega) (fun j hj => (HRA.out.lt j hj).1)
        case measure => simp [intOf]; omega
      | false =>
        have hol2 : O.length ≤ i := by simpa using hol
        have hlb := less_ba nm fn
        cases hbe : bytesBefore nm.data.toList fn.data.toList with
        | true =>
          rw [hbe] at hlb
          have HF2 := Lib.hid (show fileCells (O ++ [⟨nm, nb, ns⟩]) = fileCells O ++ [.string nm, .string nb, .int .i64 (ns : Int)] from fileCells_snoc _ _)
          have HF3 := Lib.hid (show fileCells ((O ++ [⟨nm, nb, ns⟩]) ++ [⟨fn, fb, fs⟩]) = fileCells (O ++ [⟨nm, nb, ns⟩]) ++ [.string fn, .string fb, .int .i64 (fs : Int)] from fileCells_snoc _ _)
          have HR2 := Lib.hid (show ((O ++ [⟨nm, nb, ns⟩]) ++ [⟨fn, fb, fs⟩]) ++ restF ⟨nm, nb, ns⟩ true (d.L.drop (i + 1)) = insF ⟨nm, nb, ns⟩ d.L by rw [← HRE.out, R2.out hbe]; simp)
          clear hbe
          go_upto_region 9 with (first
            | (at_builtin; refine wpList_append_own _ rfl _ _ 45 rfl w0.heap.size 75 i0 (.agg #[.string ⟨#[]⟩, .string ⟨#[]⟩, .int .i64 0]) 3 40 Tryz.underlying45 hi hz0 hz1 hz2 rfl (by decide) _ _ _ rfl (HRA.out.alloc _) ⟨wa.heap.size, 0, none⟩ 1 1 [.string nm, .string nb, .int .i64 (ns : Int)] rfl rfl (cell3_new _ _ _ _ _) (by simp [Value.oneCell']) (by unfold maxLen; omega) (by omega) (by simp; omega) ?_; intro v' w3 hown' hg3 _; have HO3 := Lib.hid hown'; have HG3 := Lib.hid hg3; clear hown' hg3; go_frame)
            | fail)
          have hg3 := HG3.out
          have hz3 : wa.heap.size < w3.heap.size := by have := hg3.size; simp at this; omega
          have hblk : w3.heap[wr.heap.size]? = wa.heap[wr.heap.size]? := by
            rw [hg3.block wr.heap.size (by simp; omega) (fun e => by have := HRO.out _ e.symm; omega)]
            exact ((Below.refl wa.heap.size wa).alloc (Nat.le_refl _) _).block _ hza
          rw [← World.cell?_of_block (w := wa) (w' := w3) hblk] at z0 z1 z2
          have HO3' := Lib.hid (show w3.ownsRow w0.heap.size 75 3 v' (O.length + 1) (fileCells (O ++ [⟨nm, nb, ns⟩])) by rw [HF2.out]; exact HO3.out)
          have HB3 := Lib.hid ((HBA.out.alloc (by omega) _).grown hg3 (by simp; omega) (fun j hj => (HRA.out.lt j hj).1))
          obtain ⟨vp, vn, vc, hvv⟩ := owns_slice HO3.out
          subst hvv
          clear hg3 hblk HG3 HO3 HBA HRA y0 y1 y2
          go_wp2_with (first
            | (at_builtin; refine wpList_append_own _ rfl _ _ 45 rfl w0.heap.size 75 i0 (.agg #[.string ⟨#[]⟩, .string ⟨#[]⟩, .int .i64 0]) 3 40 Tryz.underlying45 hi hz0 hz1 hz2 rfl (by decide) _ _ _ rfl (HO3'.out.alloc _) ⟨w3.heap.size, 0, none⟩ 1 1 [.string fn, .string fb, .int .i64 (fs : Int)] rfl rfl (cell3_new _ _ _ _ _) (by simp [Value.oneCell']) (by unfold maxLen; omega) (by omega) (by simp; omega) ?_; intro v'' w4 hown' hg4 _; have HO4 := Lib.hid hown'; have HG4 := Lib.hid hg4; clear hown' hg4; go_frame)
            | fail)
          go_roundw
          case rel =>
            refine ⟨i + 1, true, (O ++ [⟨nm, nb, ns⟩]) ++ [⟨fn, fb, fs⟩], by omega, by simp at hol ⊢; omega, by go_num, rfl, HR2.out, ?_, ?_⟩
            · rw [HF3.out]; simpa using HO4.out
            · exact (HB3.out.alloc (by have := HB3.out.size; omega) _).grown HG4.out (by have := HB3.out.size; simp; omega) (fun j hj => (HO3'.out.lt j hj).1)
          case measure => simp [intOf]; omega
        | false =>
          rw [hbe] at hlb
          have HF2 := Lib.hid (show fileCells (O ++ [⟨fn, fb, fs⟩]) = fileCells O ++ [.string fn, .string fb, .int .i64 (fs : Int)] from fileCells_snoc _ _)
          have HR2 := Lib.hid (show (O ++ [⟨fn, fb, fs⟩]) ++ restF ⟨nm, nb, ns⟩ false (d.L.drop (i + 1)) = insF ⟨nm, nb, ns⟩ d.L by rw [← HRE.out, R3.out hbe]; simp)
          clear hbe
          go_wp2_with (first
            | (at_builtin; refine wpList_append_own _ rfl _ _ 45 rfl w0.heap.size 75 i0 (.agg #[.string ⟨#[]⟩, .string ⟨#[]⟩, .int .i64 0]) 3 40 Tryz.underlying45 hi hz0 hz1 hz2 rfl (by decide) _ _ _ rfl (HRA.out.alloc _) ⟨wa.heap.size, 0, none⟩ 1 1 [.string fn, .string fb, .int .i64 (fs : Int)] rfl rfl (cell3_new _ _ _ _ _) (by simp [Value.oneCell']) (by unfold maxLen; omega) (by omega) (by simp; omega) ?_; intro v' w3 hown' hg3 _; have HO3 := Lib.hid hown'; have HG3 := Lib.hid hg3; clear hown' hg3; go_frame)
            | fail)
          go_roundw
          case rel =>
            refine ⟨i + 1, false, O ++ [⟨fn, fb, fs⟩], by omega, by simp at hol ⊢; omega, by go_num, rfl, HR2.out, ?_, ?_⟩
            · rw [HF2.out]; simpa using HO3.out
            · exact (HBA.out.alloc (by omega) _).grown HG3.out (by simp; omega) (fun j hj => (HRA.out.lt j hj).1)
          case measure => simp [intOf]; omega
    · obtain rfl : i = n := by omega
      have HE := Lib.hid (show d.L.drop i = [] from List.drop_of_length_le (by rw [HN.out]; omega))
      have HBW2 := Lib.hid (HB0.out.trans (HBW.out.mono (by omega)))
      have HCW := Lib.hid (HC.out.of_block (HBW2.out.block b hb))
      have d1 := HCW.out.c1
      have e1 := HCW.out.f1
      have hbz : b < wr.heap.size := by omega
      cases dn with
      | true =>
        have HL := Lib.hid (show O = insF ⟨nm, nb, ns⟩ d.L by have h9 := HRE.out; rw [HE.out] at h9; simpa [restF] using h9)
        clear y0 y1 y2
        go_wp2_with fail
        go_end0
        have hrow := HROW.out
        rw [HL.out] at hrow
        refine ⟨rfl, ⟨(Value.ownBlock (.slice op on oc)).getD b, ⟨_, HCW.out.set1 _, ?_, rfl⟩, ?_⟩, (Kp.of_below HBW2.out).setCell 1 _⟩
        · refine row_block_kept (owns_down hrow (by omega)) fun j hj => Below.heap_setCell _ _ _ _ ?_
          have := hrow.lt j hj
          show j ≠ b; omega
        · cases hv : Value.ownBlock (.slice op on oc) with
          | none => exact .inl rfl
          | some j => exact .inr (by have := (hrow.lt j hv).1; simp; omega)
      | false =>
        have HL := Lib.hid (show O ++ [⟨nm, nb, ns⟩] = insF ⟨nm, nb, ns⟩ d.L by have h9 := HRE.out; rw [HE.out] at h9; simpa [restF, insF] using h9)
        have HF2 := Lib.hid (show fileCells (O ++ [⟨nm, nb, ns⟩]) = fileCells O ++ [.string nm, .string nb, .int .i64 (ns : Int)] from fileCells_snoc _ _)
        clear d1 e1
        go_upto_region 13 with (first
            | (at_builtin; refine wpList_append_own _ rfl _ _ 45 rfl w0.heap.size 75 i0 (.agg #[.string ⟨#[]⟩, .string ⟨#[]⟩, .int .i64 0]) 3 40 Tryz.underlying45 hi hz0 hz1 hz2 rfl (by decide) _ _ _ rfl (HROW.out.alloc _) ⟨wr.heap.size, 0, none⟩ 1 1 [.string nm, .string nb, .int .i64 (ns : Int)] rfl rfl (cell3_new _ _ _ _ _) (by simp [Value.oneCell']) (by unfold maxLen; omega) (by omega) (by simp; omega) ?_; intro v' w3 hown' hg3 _; have HO3 := Lib.hid hown'; have HG3 := Lib.hid hg3; clear hown' hg3; go_frame)
            | fail)
        obtain ⟨vp, vn, vc, hvv⟩ := owns_slice HO3.out
        subst hvv
        have HB3 := Lib.hid (((Below.refl w.heap.size w).trans HBW2.out |>.alloc (by have := HBW2.out.size; omega) _).grown HG3.out (by have := HBW2.out.size; simp; omega) (fun j hj => by have := (HROW.out.lt j hj).1; omega))
        have HC3 := Lib.hid (HC.out.of_block (HB3.out.block b hb))
        have d1 := HC3.out.c1
        have e1 := HC3.out.f1
        clear y0 y1 y2 HG3
        go_wp2_with fail
        go_end0
        have hrow := HO3.out
        rw [← HF2.out] at hrow
        have hl1 : O.length + 1 = (O ++ [(⟨nm, nb, ns⟩ : Fl)]).length := by simp
        rw [hl1, HL.out] at hrow
        refine ⟨rfl, ⟨(Value.ownBlock (.slice vp vn vc)).getD b, ⟨_, HC3.out.set1 _, ?_, rfl⟩, ?_⟩, (Kp.of_below HB3.out).setCell 1 _⟩
        · refine row_block_kept (owns_down hrow (by omega)) fun j hj => Below.heap_setCell _ _ _ _ ?_
          have := hrow.lt j hj
          show j ≠ b; omega
        · cases hv : Value.ownBlock (.slice vp vn vc) with
          | none => exact .inl rfl
          | some j => exact .inr (by have := (hrow.lt j hv).1; simp; omega)
end Go.Proofs.YtnpgjlhnlakgpaaGreatDoor
namespace Go.Proofs.YtnpgjlhnlakgpaaGreatDoor
open Go.RowKit Go.Maps

/-- What a call leaves of the reference's disk. -/
def ROut (w w' : World) (b g : Nat) (d : Dk) : Prop := (∃ g', RAt w' b g' d ∧ (g' = g ∨ g' = b ∨ w.heap.size ≤ g')) ∧ Kp b g w w'
theorem ROut.same {w w' : World} {b g : Nat} {d : Dk} (h : RAt w' b g d) (hk : Kp b g w w') : ROut w w' b g d := ⟨⟨g, h, .inl rfl⟩, hk⟩
theorem ROut.new {w w1 w' : World} {b g : Nat} {d : Dk} (hk : Kp b g w w1) (h : ∃ g', RAt w' b g' d ∧ (g' = b ∨ w1.heap.size ≤ g')) (hk2 : Kp b g w1 w') : ROut w w' b g d := by
  obtain ⟨g', h1, h2⟩ := h
  refine ⟨⟨g', h1, ?_⟩, hk.trans hk2⟩
  rcases h2 with h2 | h2
  · exact .inr (.inl h2)
  · exact .inr (.inr (Nat.le_trans hk.size h2))
theorem Kp.mono2 {b g g' : Nat} {w0 w w' : World} (hk : Kp b g w0 w) (h : Kp b g' w w') (hg : g' = g ∨ g' = b ∨ w0.heap.size ≤ g') : Kp b g w0 w' :=
  ⟨h.os.trans hk.os, h.tape.trans hk.tape, h.output.trans hk.output, Nat.le_trans hk.size h.size, fun k hlt h1 h2 =>
    (h.block k (Nat.lt_of_lt_of_le hlt hk.size) h1 (by rcases hg with rfl | rfl | hg <;> first | exact h2 | exact h1 | omega)).trans (hk.block k hlt h1 h2)⟩
theorem ROut.trans {w w1 w' : World} {b g : Nat} {d d' : Dk} (h : ROut w w1 b g d) (k : ∀ g', RAt w1 b g' d → ROut w1 w' b g' d') : ROut w w' b g d' := by
  obtain ⟨⟨g1, h1, h2⟩, hk⟩ := h
  obtain ⟨⟨g2, h3, h4⟩, hk2⟩ := k g1 h1
  refine ⟨⟨g2, h3, ?_⟩, hk.mono2 hk2 h2⟩
  have hz := hk.size
  rcases h4 with rfl | h4 | h4
  · exact h2
  · exact .inr (.inl h4)
  · exact .inr (.inr (by omega))
theorem Kp.set2 {b g : Nat} {w0 w : World} (h : Kp b g w0 w) (o : Nat) (u : Value) : Kp b g w0 (w.setCell ⟨g, o, none⟩ u) :=
  h.trans ⟨rfl, rfl, rfl, by simp [World.setCell], fun k _ _ h2 => Below.heap_setCell _ _ _ _ h2⟩
theorem RAt.c0 {w : World} {b g : Nat} {d : Dk} (h : RAt w b g d) : w.cell? ⟨b, 0, none⟩ = some (.int .i64 (d.room : Int)) := by obtain ⟨lv, h, _⟩ := h; exact h.c0
theorem RAt.c3 {w : World} {b g : Nat} {d : Dk} (h : RAt w b g d) : w.cell? ⟨b, 3, none⟩ = some (.bool d.off) := by obtain ⟨lv, h, _⟩ := h; exact h.c3
theorem RAt.c4 {w : World} {b g : Nat} {d : Dk} (h : RAt w b g d) : w.cell? ⟨b, 4, none⟩ = some (.int .i64 (d.steps : Int)) := by obtain ⟨lv, h, _⟩ := h; exact h.c4
/-- The list as a slice. -/
theorem RAt.c1 {w : World} {b g : Nat} {d : Dk} (h : RAt w b g d) : ∃ p c, w.cell? ⟨b, 1, none⟩ = some (.slice p d.L.length c) := by
  obtain ⟨lv, h, r⟩ := h
  obtain ⟨p, c, rfl, -, -⟩ := r.files
  exact ⟨p, c, h.c1⟩
/-- One file of the list: its cells, and that they may be written. -/
theorem RAt.file {w : World} {b g : Nat} {d : Dk} (h : RAt w b g d) {i : Nat} {f : Fl} (hi : d.L[i]? = some f) :
    ∃ c, w.cell? ⟨b, 1, none⟩ = some (.slice (some ⟨g, 0, none⟩) d.L.length c) ∧ g ≠ b ∧ w.cell? ⟨g, i * 3, none⟩ = some (.string f.name) ∧ w.cell? ⟨g, i * 3 + 1, none⟩ = some (.string f.bytes) ∧ w.cell? ⟨g, i * 3 + 2, none⟩ = some (.int .i64 (f.safe : Int)) ∧ w.frozen? ⟨g, i * 3 + 1, none⟩ = false ∧ w.frozen? ⟨g, i * 3 + 2, none⟩ = false := by
  obtain ⟨lv, h, r⟩ := h
  obtain ⟨p, c, rfl, -, hf⟩ := r.files
  obtain ⟨rfl, hg, hc⟩ := hf.resolve_left (fun e => by rw [e] at hi; simp at hi)
  have hne := r.ne (j := g) rfl
  have hr := r.1
  obtain ⟨a0, a1, a2⟩ := hc i f hi
  exact ⟨c, h.c1, by omega, a0, a1, a2, hr.frozenAt _, hr.frozenAt _⟩
theorem RAt.set_bytes {w : World} {b g : Nat} {d : Dk} (h : RAt w b g d) {i : Nat} {f : Fl} (hi : d.L[i]? = some f) (nb : ByteArray) : RAt (w.setCell ⟨g, i * 3 + 1, none⟩ (.string nb)) b g { d with L := d.L.set i { f with bytes := nb } } := by
  obtain ⟨lv, h, r⟩ := h
  obtain ⟨p, c, rfl, -, hf⟩ := r.files
  obtain ⟨rfl, hg, hc⟩ := hf.resolve_left (fun e => by rw [e] at hi; simp at hi)
  have hne := r.ne (j := g) rfl
  have hr := (r.1.stored (i * 3 + 1) (.string nb)).1
  rw [fileCells_bytes hi] at hr
  refine ⟨_, h.of_block (Below.heap_setCell _ _ _ _ (by show b ≠ g; omega)), ?_, r.2⟩
  rw [show ({ d with L := d.L.set i { f with bytes := nb } } : Dk).L.length = d.L.length from List.length_set]
  exact hr
theorem RAt.set_safe {w : World} {b g : Nat} {d : Dk} (h : RAt w b g d) {i : Nat} {f : Fl} (hi : d.L[i]? = some f) (ns : Nat) : RAt (w.setCell ⟨g, i * 3 + 2, none⟩ (.int .i64 (ns : Int))) b g { d with L := d.L.set i { f with safe := ns } } := by
  obtain ⟨lv, h, r⟩ := h
  obtain ⟨p, c, rfl, -, hf⟩ := r.files
  obtain ⟨rfl, hg, hc⟩ := hf.resolve_left (fun e => by rw [e] at hi; simp at hi)
  have hne := r.ne (j := g) rfl
  have hr := (r.1.stored (i * 3 + 2) (.int .i64 (ns : Int))).1
  rw [fileCells_safe hi] at hr
  refine ⟨_, h.of_block (Below.heap_setCell _ _ _ _ (by show b ≠ g; omega)), ?_, r.2⟩
  rw [show ({ d with L := d.L.set i { f with safe := ns } } : Dk).L.length = d.L.length from List.length_set]
  exact hr
theorem ref_at_miss {d : Dk} {w : World} {b g : Nat} (h : RAt w b g d) (hm : d.L.length ≤ 64) {nm : ByteArray} (hf : findF nm.data.toList d.L = none) :
    Calls Tryz.prog 64 #[.pointer (some ⟨b, 0, none⟩), .string nm] w fun e w' => e = .returned (.int .i64 (-1)) ∧ Below w.heap.size w w' :=
  (ref_at h hm nm).mono fun e w' h => by rw [idx_none hf] at h; exact h
theorem ref_at_hit {d : Dk} {w : World} {b g : Nat} (h : RAt w b g d) (hm : d.L.length ≤ 64) {nm : ByteArray} {i : Nat} (hf : idxI nm d.L = (i : Int)) :
    Calls Tryz.prog 64 #[.pointer (some ⟨b, 0, none⟩), .string nm] w fun e w' => e = .returned (.int .i64 (i : Int)) ∧ Below w.heap.size w w' :=
  (ref_at h hm nm).mono fun e w' h => by rw [hf] at h; exact h

set_option maxRecDepth 100000 in
set_option maxHeartbeats 8000000 in
theorem ref_create {d : Dk} {w : World} {b g : Nat} (h : RAt w b g d) (hok : d.Ok) (hs : d.steps < 4611686018427387904) (nm : ByteArray) (hn : nm.size ≤ maxLen) :
    Calls Tryz.prog 29 #[.pointer (some ⟨b, 0, none⟩), .string nm] w fun e w' => e = .returned (.int .i64 (d.create nm).1) ∧ ROut w w' b g (d.create nm).2 := by
  have H := Lib.hid h
  have HOK := Lib.hid hok
  have hm := hok.many
  have hl := hok.left
  have hus := hok.used
  have hrm := hok.room
  unfold maxLen at *
  clear hok h
  by_cases ho : d.off = true
  · have HO := Lib.hid ho
    have E := Lib.hid (show d.create nm = (143, d) by simp [Dk.create, ho])
    clear ho
    rw [E.out]
    have c3 := H.out.c3
    rw [HO.out] at c3
    go_enter Tryz.func29, Tryz.ntmps29
    go_wp2_with fail
    go_ret
    exact ⟨rfl, ROut.same H.out (Kp.refl _ _ _)⟩
  · have ho' : d.off = false := by simpa using ho
    have HO := Lib.hid ho'
    have c3 := H.out.c3
    rw [HO.out] at c3
    by_cases hqn : nm.size < 1
    · have E := Lib.hid (show d.create nm = (144, d) by have : namedB nm = false := by { unfold namedB; simp; omega }; simp [Dk.create, ho', this])
      clear ho ho'
      rw [E.out]
      go_enter Tryz.func29, Tryz.ntmps29
      go_wp2_with fail
      go_ret
      exact ⟨rfl, ROut.same H.out (Kp.refl _ _ _)⟩
    by_cases hq2 : 20 < nm.size
    · have E := Lib.hid (show d.create nm = (144, d) by have : namedB nm = false := by { unfold namedB; simp; omega }; simp [Dk.create, ho', this])
      clear ho ho'
      rw [E.out]
      go_enter Tryz.func29, Tryz.ntmps29
      go_wp2_with fail
      go_ret
      exact ⟨rfl, ROut.same H.out (Kp.refl _ _ _)⟩
    have hnb : namedB nm = true := by unfold namedB; simp; omega
    have q1 : 1 ≤ nm.size := by omega
    have q2 : nm.size ≤ 20 := by omega
    clear hqn hq2
    cases hf : findF nm.data.toList d.L with
    | some f =>
      obtain ⟨i, hix, -⟩ := idx_some hf
      have HI := Lib.hid hix
      have E := Lib.hid (show d.create nm = (141, d) by simp [Dk.create, ho', hnb, hf])
      clear ho ho' hf hix hnb
      rw [E.out]
      go_enter Tryz.func29, Tryz.ntmps29
      go_wp2_with fail
      refine (ref_at_hit H.out hm HI.out).mono ?_
      rintro e w1 ⟨rfl, hB1⟩
      have HD1 := Lib.hid (H.out.below hB1)
      have HK1 := Lib.hid (Kp.of_below (b := b) (m := g) hB1)
      have hz1 := hB1.size
      have c3 := HD1.out.c3
      rw [HO.out] at c3
      clear hB1
      go_wp2_with fail
      go_ret
      exact ⟨rfl, ROut.same HD1.out HK1.out⟩
    | none =>
      have HF := Lib.hid hf
      by_cases h64 : 64 ≤ d.L.length
      · have E := Lib.hid (show d.create nm = (2, d) by simp [Dk.create, ho', hnb, hf, h64])
        clear ho ho' hf hnb
        rw [E.out]
        go_enter Tryz.func29, Tryz.ntmps29
        go_wp2_with fail
        refine (ref_at_miss H.out hm HF.out).mono ?_
        rintro e w1 ⟨rfl, hB1⟩
        have HD1 := Lib.hid (H.out.below hB1)
        have HK1 := Lib.hid (Kp.of_below (b := b) (m := g) hB1)
        have hz1 := hB1.size
        have c3 := HD1.out.c3
        rw [HO.out] at c3
        clear hB1
        obtain ⟨lp, lc, c1⟩ := HD1.out.c1
        generalize d.L.length = n at *
        go_wp2_with fail
        go_ret
        exact ⟨rfl, ROut.same HD1.out HK1.out⟩
      · cases hr : d.refuses with
        | true =>
          have HR := Lib.hid hr
          have E := Lib.hid (show d.create nm = (143, d.gone) by simp [Dk.create, ho', hnb, hf, h64, act_no hr])
          clear ho ho' hf hr hnb
          rw [E.out]
          go_enter Tryz.func29, Tryz.ntmps29
          go_wp2_with fail
          refine (ref_at_miss H.out hm HF.out).mono ?_
          rintro e w1 ⟨rfl, hB1⟩
          have HD1 := Lib.hid (H.out.below hB1)
          have HK1 := Lib.hid (Kp.of_below (b := b) (m := g) hB1)
          have hz1 := hB1.size
          have c3 := HD1.out.c3
          rw [HO.out] at c3
          clear hB1
          obtain ⟨lp, lc, c1⟩ := HD1.out.c1
          have h64' : d.L.length < 64 := by omega
          generalize hnn : d.L.length = n at *
          have HNN := Lib.hid hnn
          clear hnn
          go_wp2_with fail
          refine (ref_step_no HD1.out HR.out).mono ?_
          rintro e w2 ⟨rfl, hd2, hk2⟩
          have HD2 := Lib.hid hd2
          have HK2 := Lib.hid (HK1.out.trans hk2)
          clear hd2 hk2
          go_wp2_with fail
          go_ret
          exact ⟨rfl, ROut.same HD2.out HK2.out⟩
        | false =>
          have HR := Lib.hid hr
          have E := Lib.hid (show d.create nm = (0, { d.stepped with L := insF ⟨nm, ⟨#[]⟩, 0⟩ d.L }) by simp [Dk.create, ho', hnb, hf, h64, act_go hr]; exact put_new (f := ⟨nm, ⟨#[]⟩, 0⟩) hf)
          clear ho ho' hf hr hnb
          rw [E.out]
          go_enter Tryz.func29, Tryz.ntmps29
          go_wp2_with fail
          refine (ref_at_miss H.out hm HF.out).mono ?_
          rintro e w1 ⟨rfl, hB1⟩
          have HD1 := Lib.hid (H.out.below hB1)
          have HK1 := Lib.hid (Kp.of_below (b := b) (m := g) hB1)
          have hz1 := hB1.size
          have c3 := HD1.out.c3
          rw [HO.out] at c3
          clear hB1
          obtain ⟨lp, lc, c1⟩ := HD1.out.c1
          have h64' : d.L.length < 64 := by omega
          generalize hnn : d.L.length = n at *
          have HNN := Lib.hid hnn
          clear hnn
          go_wp2_with fail
          refine (ref_step_go HD1.out HR.out hl hs).mono ?_
          rintro e w2 ⟨rfl, hd2, hk2⟩
          have HD2 := Lib.hid hd2
          have HK2 := Lib.hid (HK1.out.trans hk2)
          have hz2 := HK2.out.size
          clear hd2 hk2
          go_wp2_with fail
          refine (ref_put HD2.out (by show d.L.length ≤ 64; rw [HNN.out]; exact hm) ⟨nm, ⟨#[]⟩, 0⟩).mono ?_
          rintro e w3 ⟨rfl, hd3, hk3⟩
          have HD3 := Lib.hid hd3
          have HK3 := Lib.hid hk3
          clear hd3 hk3
          go_wp2_with fail
          go_ret
          refine ⟨rfl, ROut.new HK2.out HD3.out HK3.out⟩
set_option maxRecDepth 100000 in
set_option maxHeartbeats 8000000 in
theorem ref_remove {d : Dk} {w : World} {b g : Nat} (h : RAt w b g d) (hok : d.Ok) (hs : d.steps < 4611686018427387904) (nm : ByteArray) :
    Calls Tryz.prog 71 #[.pointer (some ⟨b, 0, none⟩), .string nm] w fun e w' => e = .returned (.int .i64 (d.remove nm).1) ∧ ROut w w' b g (d.remove nm).2 := by
  have H := Lib.hid h
  have HOK := Lib.hid hok
  have hm := hok.many
  have hl := hok.left
  have hus := hok.used
  have hrm := hok.room
  unfold maxLen at *
  clear hok h
  by_cases ho : d.off = true
  · have HO := Lib.hid ho
    have E := Lib.hid (show d.remove nm = (143, d) by simp [Dk.remove, ho])
    clear ho
    rw [E.out]
    go_enter Tryz.func71, Tryz.ntmps71
    go_wp2_with fail
    refine (ref_at H.out hm nm).mono ?_
    rintro e w1 ⟨rfl, hB1⟩
    have HD1 := Lib.hid (H.out.below hB1)
    have HK1 := Lib.hid (Kp.of_below (b := b) (m := g) hB1)
    have hz1 := hB1.size
    have c3 := HD1.out.c3
    rw [HO.out] at c3
    clear hB1
    go_wp2_with fail
    go_ret
    exact ⟨rfl, ROut.same HD1.out HK1.out⟩
  · have ho' : d.off = false := by simpa using ho
    have HO := Lib.hid ho'
    cases hf : findF nm.data.toList d.L with
    | none =>
      have HF := Lib.hid hf
      have E := Lib.hid (show d.remove nm = (140, d) by simp [Dk.remove, ho', hf])
      clear ho ho' hf
      rw [E.out]
      go_enter Tryz.func71, Tryz.ntmps71
      go_wp2_with fail
      refine (ref_at_miss H.out hm HF.out).mono ?_
      rintro e w1 ⟨rfl, hB1⟩
      have HD1 := Lib.hid (H.out.below hB1)
      have HK1 := Lib.hid (Kp.of_below (b := b) (m := g) hB1)
      have hz1 := hB1.size
      have c3 := HD1.out.c3
      rw [HO.out] at c3
      clear hB1
      go_wp2_with fail
      go_ret
      exact ⟨rfl, ROut.same HD1.out HK1.out⟩
    | some f =>
      obtain ⟨i, hix, hif⟩ := idx_some hf
      have HI := Lib.hid hix
      have HIF := Lib.hid hif
      have hil : i < d.L.length := (List.getElem?_eq_some_iff.1 hif).1
      have hfu := mem_used (List.mem_of_getElem? hif)
      have hfs := HOK.out.safe f (List.mem_of_getElem? hif)
      have hk : f.name = nm := ba_of_list (findF_key hf)
      have HKN := Lib.hid hk
      clear hix hif hk
      cases hr : d.refuses with
      | true =>
        have HR := Lib.hid hr
        have E := Lib.hid (show d.remove nm = (143, d.gone) by simp [Dk.remove, ho', hf, act_no hr])
        clear ho ho' hf hr 
        rw [E.out]
        go_enter Tryz.func71, Tryz.ntmps71
        go_wp2_with fail
        refine (ref_at_hit H.out hm HI.out).mono ?_
        rintro e w1 ⟨rfl, hB1⟩
        have HD1 := Lib.hid (H.out.below hB1)
        have HK1 := Lib.hid (Kp.of_below (b := b) (m := g) hB1)
        have hz1 := hB1.size
        have c3 := HD1.out.c3
        rw [HO.out] at c3
        clear hB1
        go_wp2_with fail
        refine (ref_step_no HD1.out HR.out).mono ?_
        rintro e w2 ⟨rfl, hd2, hk2⟩
        have HD2 := Lib.hid hd2
        have HK2 := Lib.hid (HK1.out.trans hk2)
        clear hd2 hk2
        go_wp2_with fail
        go_ret
        exact ⟨rfl, ROut.same HD2.out HK2.out⟩
      | false =>
        have HR := Lib.hid hr
        have E := Lib.hid (show d.remove nm = (0, { d.stepped with L := delF nm.data.toList d.L }) by simp [Dk.remove, ho', hf, act_go hr])
        clear ho ho' hf hr 
        rw [E.out]
        go_enter Tryz.func71, Tryz.ntmps71
        go_wp2_with fail
        refine (ref_at_hit H.out hm HI.out).mono ?_
        rintro e w1 ⟨rfl, hB1⟩
        have HD1 := Lib.hid (H.out.below hB1)
        have HK1 := Lib.hid (Kp.of_below (b := b) (m := g) hB1)
        have hz1 := hB1.size
        have c3 := HD1.out.c3
        rw [HO.out] at c3
        clear hB1
        go_wp2_with fail
        refine (ref_step_go HD1.out HR.out hl hs).mono ?_
        rintro e w2 ⟨rfl, hd2, hk2⟩
        have HD2 := Lib.hid hd2
        have HK2 := Lib.hid (HK1.out.trans hk2)
        have hz2 := HK2.out.size
        clear hd2 hk2
        go_wp2_with fail
        refine (ref_drop HD2.out hm i).mono ?_
        rintro e w3 ⟨rfl, hd3, hk3⟩
        have HD3 := Lib.hid hd3
        have HK3 := Lib.hid hk3
        clear hd3 hk3
        go_wp2_with fail
        go_ret
        refine ⟨rfl, ROut.new HK2.out ?_ HK3.out⟩
        have h9 := HD3.out
        rw [show d.stepped.L.eraseIdx i = delF nm.data.toList d.L by rw [← HKN.out]; exact (delF_erase HOK.out.rise HIF.out).symm] at h9
        exact h9
end Go.Proofs.YtnpgjlhnlakgpaaGreatDoor

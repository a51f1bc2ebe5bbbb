/- The contract of the law's stands: both disks stand alike. -/
import Derived.Test.YtcjhkonjlhpmhaaVfsStepM
namespace Go.Proofs.Ytcjhkonjlhpmhaa
open Go.RowKit Go.Maps

theorem RowAt.filesAt {w : World} {b g : Nat} {lv : Value} {L : List Fl} (h : RowAt w b g lv L) : FilesAt w lv L := FilesAt.of_row h.1

theorem same_true {w : World} {va vb : Value} {L : List Fl} (ha : FilesAt w va L) (hb : FilesAt w vb L) (hla : L.length ≤ 64) :
    Calls Try.prog 23 #[va, vb] w fun e w' => e = .returned (.bool true) ∧ Below w.heap.size w w' :=
  (same_any ha hb hla hla).mono fun e w' h => by
    rw [show decide (L = L) = true by simp] at h; exact h
set_option maxRecDepth 100000 in
set_option maxHeartbeats 8000000 in
theorem stands_any {w : World} {b m r g : Nat} {d : Dk} (h : Both w b m r g d) (hok : d.Ok) :
    Calls Try.prog 32 #[.pointer (some ⟨b, 0, none⟩), .pointer (some ⟨r, 0, none⟩)] w fun e w' => e = .returned (.bool true) ∧ Below w.heap.size w w' := by
  have HOK := Lib.hid hok
  have hm64 := hok.many
  obtain ⟨lv, hc, hr⟩ := h.R
  obtain ⟨lp, lc, rfl, -, -⟩ := hr.files
  have hlt := h.lt
  have HB := Lib.hid h
  have HC := Lib.hid hc
  have HR := Lib.hid hr
  have HF1 := Lib.hid (files_any h.D hok)
  clear hok hc hr h
  go_enter Try.func32, Try.ntmps32
  go_wp2_with fail
  refine HF1.out.mono ?_
  rintro e w1 ⟨v1, rfl, hrow1, hb1⟩
  have HB1 := Lib.hid hb1
  have hz1 := hb1.size
  have HROW1 := Lib.hid hrow1
  have HC1 := Lib.hid (HC.out.of_block (hb1.block r hlt.2.2.1))
  have HR1 := Lib.hid (HR.out.of fun _ => hb1.block g hlt.2.2.2)
  have HSA := Lib.hid (same_any (FilesAt.of_row hrow1) HR1.out.filesAt hm64 hm64)
  have HTR : Hid (decide (d.L = d.L) = true) := Lib.hid (by simp)
  rw [HTR.out] at HSA
  have c1 := HC1.out.c1
  obtain ⟨p1, n1, c1', hv1⟩ := owns_slice hrow1
  subst hv1
  clear hb1 hrow1 HF1
  go_wp2_with fail
  refine HSA.out.mono ?_
  rintro e w2 ⟨rfl, hb2⟩
  have HB2 := Lib.hid (HB1.out.trans (hb2.mono hz1))
  have hz2 := hb2.size
  have HROW2 := Lib.hid (row_block_kept HROW1.out fun k hk => hb2.block k (HROW1.out.lt k hk).2)
  have hn : n1 = d.L.length := by obtain ⟨p, c, e, _⟩ := FilesAt.of_row HROW1.out; injection e
  subst hn
  clear hb2 HROW1 HSA c1 HC1 HR1
  generalize hnn : d.L.length = n at *
  have HNN := Lib.hid hnn
  clear hnn
  go_wp2_with fail
  go_loopw [18] (fun iv wr => ∃ (i : Nat) (xs : List Value), i ≤ n ∧ iv = .int .i64 (i : Int) ∧ wr.ownsRow w.heap.size 43 3 (.slice p1 n c1') n xs ∧ Below w.heap.size w wr) (fun iv _ => n - (intOf iv).toNat)
  case atStart => exact ⟨0, _, Nat.zero_le _, rfl, HROW2.out, HB2.out⟩
  case round =>
    obtain ⟨i, xs, hi, rfl, hrow, hbw⟩ := hrel
    have HROW := Lib.hid hrow
    have HBW := Lib.hid hbw
    have hzr := hbw.size
    clear hrow hbw
    by_cases hlt2 : i < n
    · obtain ⟨gs, cs, hv, hg1, hg2⟩ := World.ownsRow.form HROW.out (by omega)
      injection hv with hv1 hv2 hv3
      subst hv1
      have hxl : xs.length = n * 3 := HROW.out.1
      have hx0 := HROW.out.cellAt (i * 3) (by omega)
      have hx1 := HROW.out.cellAt (i * 3 + 1) (by omega)
      have hx2 := HROW.out.cellAt (i * 3 + 2) (by omega)
      rw [List.getElem?_eq_getElem (by omega)] at hx0 hx1 hx2
      have hf0 := HROW.out.frozenAt (i * 3)
      have hf1 := HROW.out.frozenAt (i * 3 + 1)
      have hf2 := HROW.out.frozenAt (i * 3 + 2)
      have hst := (HROW.out.stored (i * 3) (.string ⟨#[115, 112, 111, 105, 108, 116]⟩)).1
      have hst2 := (hst.stored (i * 3 + 1) (.string ⟨#[]⟩)).1
      have HST := Lib.hid (hst2.stored (i * 3 + 2) (.int .i64 0)).1
      clear hst hst2 hv2 hv3
      have hi1 : (i : Int) < (n : Int) := by omega
      go_wp2_with fail
      go_roundw
      case rel => exact ⟨i + 1, _, by omega, by go_num, HST.out, ((HBW.out.setCell (p := ⟨gs, i * 3, none⟩) hg1 _).setCell (p := ⟨gs, i * 3 + 1, none⟩) hg1 _).setCell (p := ⟨gs, i * 3 + 2, none⟩) hg1 _⟩
      case measure => simp [intOf]; omega
    · obtain rfl : i = n := by omega
      have HBR := Lib.hid (HB.out.below HBW.out)
      have HCR := Lib.hid (HC.out.of_block (HBW.out.block r hlt.2.2.1))
      have HRR := Lib.hid (HR.out.of fun _ => HBW.out.block g hlt.2.2.2)
      have HFD := Lib.hid (fun wx (h : DAt wx b m d) => files_any h HOK.out)
      have HST := Lib.hid (fun wx (h : DAt wx b m d) => steps_any h)
      have c1 := HCR.out.c1
      have c3 := HCR.out.c3
      have c4 := HCR.out.c4
      have hlr : r < wr.heap.size := by omega
      have HDW := Lib.hid (show DAt wr.drew b m d from HBR.out.D.drew)
      clear HROW2 HROW HB1 HB2 HB HC HR
      cases hoff : d.off
      all_goals
        rw [hoff] at c3
        have hon := fun wx (h : DAt wx b m d) => on_any h
        rw [hoff] at hon
        simp only [Bool.not_true, Bool.not_false] at hon
        have HON := Lib.hid hon
        clear hon
        have HO := Lib.hid hoff
        clear hoff
        go_upto_region 8 with fail
        go_region_held3 (fun w' => w'.cell? ⟨r, 1, none⟩ = some (.slice lp i lc) ∧ w'.cell? ⟨r, 3, none⟩ = wr.cell? ⟨r, 3, none⟩ ∧ w'.cell? ⟨r, 4, none⟩ = some (.int .i64 (d.steps : Int))) ((first | assumption | exact ⟨c1, rfl, c4⟩))
          (first
            | (go_at_call 20; (with_reducible refine (HFD.out _ HDW.out).mono ?_); rintro e w5 ⟨v5, rfl, hrow5, hb5⟩; have k5 : w5.cell? ⟨r, 1, none⟩ = some (.slice lp i lc) ∧ w5.cell? ⟨r, 3, none⟩ = wr.cell? ⟨r, 3, none⟩ ∧ w5.cell? ⟨r, 4, none⟩ = some (.int .i64 (d.steps : Int)) := ⟨(hb5.cell (p := ⟨r, 1, none⟩) hlr).trans c1, hb5.cell (p := ⟨r, 3, none⟩) hlr, (hb5.cell (p := ⟨r, 4, none⟩) hlr).trans c4⟩; have HF5 := Lib.hid (FilesAt.of_row hrow5); have HL5 := Lib.hid (RowAt.filesAt (HRR.out.of (w' := w5) fun _ => hb5.block g (by show g < wr.heap.size; omega))); have HD5 := Lib.hid (show DAt w5 b m d from HDW.out.below hb5); have HB5 := Lib.hid (HBW.out.drew.trans (hb5.mono hzr)); have hz5 : wr.heap.size ≤ w5.heap.size := hb5.size; obtain ⟨p5, n5, c5, hv5⟩ := owns_slice hrow5; subst hv5; clear hb5 hrow5)
            | (go_at_call 23; refine (same_true HF5.out HL5.out (by rw [HNN.out]; exact hm64)).mono ?_; rintro e w6 ⟨rfl, hb6⟩; have k6 : w6.cell? ⟨r, 1, none⟩ = some (.slice lp i lc) ∧ w6.cell? ⟨r, 3, none⟩ = wr.cell? ⟨r, 3, none⟩ ∧ w6.cell? ⟨r, 4, none⟩ = some (.int .i64 (d.steps : Int)) := ⟨(hb6.cell (p := ⟨r, 1, none⟩) (Nat.lt_of_lt_of_le hlr hz5)).trans k5.1, (hb6.cell (p := ⟨r, 3, none⟩) (Nat.lt_of_lt_of_le hlr hz5)).trans k5.2.1, (hb6.cell (p := ⟨r, 4, none⟩) (Nat.lt_of_lt_of_le hlr hz5)).trans k5.2.2⟩; have HD6 := Lib.hid (show DAt w6 b m d from HD5.out.below hb6); have HB6 := Lib.hid (HB5.out.trans (hb6.mono (Nat.le_trans hzr hz5))); clear hb6)
            | (go_at_call 21; (with_reducible refine (HON.out _ HD6.out).mono ?_); rintro e w7 ⟨rfl, rfl⟩)
            | (go_at_call 27; (with_reducible refine (HST.out _ HD6.out).mono ?_); rintro e w8 ⟨rfl, rfl⟩))
        go_wp2_with fail
        go_ret
        exact ⟨rfl, HB6.out⟩
end Go.Proofs.Ytcjhkonjlhpmhaa

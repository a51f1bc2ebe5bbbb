/- The contract of the law's step at KList, and at every kind (printed by gen_step.py). -/
import Derived.Test.YtcjhkonjlhpmhaaVfsStepL
import Derived.Deep.Cut
import Derived.Deep.AppendLies
import Derived.Deep.CutRange
namespace Go.Proofs.Ytcjhkonjlhpmhaa
open Go.RowKit Go.Maps

theorem namesAt_none (w : World) : NamesAt 0 w (.slice none 0 0) ([] : List Fl) := ⟨none, 0, rfl, .inl rfl⟩
set_option maxRecDepth 100000 in
set_option maxHeartbeats 8000000 in
theorem step_k8 {w : World} {b m r g : Nat} {d : Dk} (h : Both w b m r g d) (hok : d.Ok) (hs : d.steps < 4611686018427387904) (on on2 : Int) (nm dt : ByteArray) (kp : Option Addr) (kn kc : Nat) (tp : Option Addr) (tn tc : Nat) (hn : nm.size ≤ maxLen) (hdt : dt.size ≤ maxLen) (hon : on2 ≤ 9223372036854775807) :
    Calls Try.prog 31 #[.pointer (some ⟨b, 0, none⟩), .pointer (some ⟨r, 0, none⟩), .agg #[.int .i64 8, .int .i64 on, .int .i64 on2, .string nm, .string dt, .slice kp kn kc, .slice tp tn tc]] w fun e w' => e = .returned (.bool true) ∧ SOut w w' b m r g (d) := by
  have hB0 := (Below.refl w.heap.size w).alloc (Nat.le_refl _) (.cells #[.int .i64 8, .int .i64 on, .int .i64 on2, .string nm, .string dt, .slice kp kn kc, .slice tp tn tc] 49)
  have hca := op_box w 8 on on2 nm dt (.slice kp kn kc) (.slice tp tn tc) 49
  have hz0 : w.heap.size < (w.alloc (.cells #[.int .i64 8, .int .i64 on, .int .i64 on2, .string nm, .string dt, .slice kp kn kc, .slice tp tn tc] 49)).heap.size := by simp
  have hlt := h.lt
  go_enter Try.func31, Try.ntmps31
  go_upto_region 1 with fail
  generalize w.alloc (.cells #[.int .i64 8, .int .i64 on, .int .i64 on2, .string nm, .string dt, .slice kp kn kc, .slice tp tn tc] 49) = wa at *
  have z0 : wa.cell? ⟨w.heap.size, 0, none⟩ = some (.int .i64 8) := hca 0
  have z2 : wa.cell? ⟨w.heap.size, 2, none⟩ = some (.int .i64 on2) := hca 2
  have z3 : wa.cell? ⟨w.heap.size, 3, none⟩ = some (.string nm) := hca 3
  have z4 : wa.cell? ⟨w.heap.size, 4, none⟩ = some (.string dt) := hca 4
  have HBA := Lib.hid (h.below hB0)
  have HB0 := Lib.hid hB0
  have HOK := Lib.hid hok
  have HS := Lib.hid hs
  have HN := Lib.hid hn
  have HDT := Lib.hid hdt
  have HON := Lib.hid hon
  clear hca hB0 h hok hs hn hdt hon
  by_cases ho : d.off = true
  · have HP1 := Lib.hid (list_off HBA.out.D ho)
    have HP2 := Lib.hid (ref_list_off HBA.out.R ho)
    have HT := Lib.hid (texts_same (namesAt_none wa) (namesAt_none wa) (by simp))
    clear ho
    go_wp2_with fail
    refine HP1.out.mono ?_
    rintro e w1 ⟨rfl, rfl⟩
    go_wp2_with fail
    refine HP2.out.mono ?_
    rintro e w1 ⟨rfl, rfl⟩
    go_wp2_with fail
    refine HT.out.mono ?_
    rintro e w1 ⟨rfl, hb1⟩
    have HB1 := Lib.hid hb1
    clear hb1 HT HP1 HP2
    go_wp2_with fail
    go_loopw [143] (fun iv wr => iv = .int .i64 0 ∧ w1 = wr) (fun _ _ => 0)
    case atStart => exact ⟨rfl, rfl⟩
    case round =>
      obtain ⟨rfl, rfl⟩ := hrel
      go_wp2_with fail
      go_ret
      exact ⟨rfl, SOut.from HB0.out (HBA.out.sout HB1.out)⟩
  · have ho' : d.off = false := by simpa using ho
    have HP1 := Lib.hid (list_on HBA.out.D HOK.out ho')
    have hm64 := HOK.out.many
    have HP2 := Lib.hid (fun w1 (hb : Below wa.heap.size wa w1) => ref_list (HBA.out.R.below hb) hm64 ho')
    clear ho ho'
    go_wp2_with fail
    refine HP1.out.mono ?_
    rintro e w1 ⟨v1, rfl, hr1, hb1⟩
    have HR1 := Lib.hid hr1
    have HB1 := Lib.hid hb1
    have hz1 := hb1.size
    obtain ⟨p1, n1, c1, hv1⟩ := owns_slice hr1
    subst hv1
    clear hr1 hb1 HP1
    go_wp2_with fail
    refine (HP2.out _ HB1.out).mono ?_
    rintro e w2 ⟨v2, rfl, hr2, hb2⟩
    have HN2 := Lib.hid (NamesAt.of_row hr2)
    have HN1 := Lib.hid ((NamesAt.of_row HR1.out).below hb2)
    have HR2 := Lib.hid (row_block_kept HR1.out fun g hg => hb2.block g (HR1.out.lt g hg).2)
    have HB2 := Lib.hid (HB1.out.trans (hb2.mono hz1))
    have hz2 := hb2.size
    obtain ⟨p2, n2, c2, hv2⟩ := owns_slice hr2
    subst hv2
    clear hr2 hb2 HP2 HR1 HB1
    go_wp2_with fail
    refine (texts_same HN1.out HN2.out hm64).mono ?_
    rintro e w3 ⟨rfl, hb3⟩
    have HR3 := Lib.hid (row_block_kept HR2.out fun g hg => hb3.block g (HR2.out.lt g hg).2)
    have HB3 := Lib.hid (HB2.out.trans (hb3.mono (by omega)))
    have hl : n1 = d.L.length := by obtain ⟨q, c, e, _⟩ := HN1.out; injection e
    subst hl
    have hz3 := hb3.size
    clear hb3 HN1 HN2 HR2 HB2
    generalize hn : d.L.length = n at *
    have HNN := Lib.hid hn
    clear hn
    go_wp2_with fail
    go_loopw [143] (fun iv wr => ∃ (i : Nat) (xs : List Value), i ≤ n ∧ iv = .int .i64 (i : Int) ∧ wr.ownsRow wa.heap.size 9 1 (.slice p1 n c1) n xs ∧ Below wa.heap.size wa wr) (fun iv _ => n - (intOf iv).toNat)
    case atStart => exact ⟨0, _, Nat.zero_le _, rfl, HR3.out, HB3.out⟩
    case round =>
      obtain ⟨i, xs, hi, rfl, hrow, hbw⟩ := hrel
      have HROW := Lib.hid hrow
      have HBW := Lib.hid hbw
      clear hrow hbw
      by_cases hlt : i < n
      · obtain ⟨gs, cs, hv, hb1, hb2⟩ := HROW.out.form (by omega)
        injection hv with hv1 hv2 hv3
        subst hv1
        have hx : i < xs.length := by rw [HROW.out.1]; omega
        have hc := HROW.out.cellAt i (by omega)
        rw [List.getElem?_eq_getElem hx] at hc
        have hf := HROW.out.frozenAt i
        generalize xs[i] = u at *
        have hi1 : (i : Int) < (n : Int) := by omega
        have hst := HROW.out.stored i (.string ⟨#[115, 112, 111, 105, 108, 116]⟩)
        have HST := Lib.hid hst
        clear hst hv2 hv3
        go_wp2_with fail
        go_roundw
        case rel =>
          exact ⟨i + 1, _, by omega, by go_num, HST.out.1, HBW.out.setCell (p := ⟨gs, i, none⟩) hb1 _⟩
        case measure => simp [intOf]; omega
      · obtain rfl : i = n := by omega
        go_wp2_with fail
        go_ret
        exact ⟨rfl, SOut.from HB0.out (HBA.out.sout HBW.out)⟩
end Go.Proofs.Ytcjhkonjlhpmhaa

/- What datum.Print writes. -/
import Derived.Test.YtokbdleokihdaaaGreatDoorPrintF
import Derived.Test.YtokbdleokihdaaaGreatDoorG04
import Derived.Test.YtokbdleokihdaaaGreatDoorG03
import Derived.Test.YtokbdleokihdaaaGreatDoorG05
import Derived.Test.YtokbdleokihdaaaGreatDoorWide
namespace Go.Proofs.YtokbdleokihdaaaGreatDoor
open Go.RowKit


set_option maxHeartbeats 1000000 in
theorem print_bad (d : Dt) (w : World) (hT : Tabs w) (hr : rightD d = false) :
    Calls Tryz.prog 11 #[d.v] w fun e w' => e = .returned (.string (bs (printF d))) ∧ Below w.heap.size w w' := by
  have HE : Hid (printF d = []) := if_pos hr
  have HR := Lib.hid hr
  obtain ⟨k, i, s⟩ := d
  have hb := boxes1 w #[.int .i64 k, .int .i64 i, .string s] 27
  have HB := Lib.hid hb.1
  have HT2 := Lib.hid (hT.below hb.1)
  clear hb hr hT
  rw [HE.out]
  go_enter Tryz.func11, Tryz.ntmps11
  go_wp2_with fail
  refine (right_any _ _ _ _ HT2.out).mono ?_
  rintro e w2 ⟨rfl, hb2⟩
  rw [HR.out]
  go_wp2_with fail
  go_ret
  exact ⟨rfl, HB.out.trans (hb2.mono (by simp))⟩

set_option maxHeartbeats 1000000 in
theorem print_small (d : Dt) (w : World) (hT : Tabs w) (hr : rightD d = true) (hk : d.k = 0 ∨ d.k = 1) :
    Calls Tryz.prog 11 #[d.v] w fun e w' => e = .returned (.string (bs (printF d))) ∧ Below w.heap.size w w' := by
  have HR := Lib.hid hr
  have HE := Lib.hid (show printF d = _ from if_neg (by rw [hr]; decide))
  obtain ⟨k, i, s⟩ := d
  obtain ⟨hb, hz, X⟩ := boxes1 w #[.int .i64 k, .int .i64 i, .string s] 27
  have HB := Lib.hid hb
  have HT2 := Lib.hid (hT.below hb)
  have HX := Lib.hid X
  clear hb hr hT X hz
  rcases hk with hk | hk
  · dsimp only at hk
    subst hk
    have HE2 : Hid (printF ⟨0, i, s⟩ = [78, 85, 76, 76]) := HE.out
    rw [HE2.out]
    clear HE HE2
    go_enter Tryz.func11, Tryz.ntmps11
    go_wp2_with fail
    refine (right_any _ _ _ _ HT2.out).mono ?_
    rintro e w2 ⟨rfl, hb2⟩
    have c0 : w2.cell? ⟨w.heap.size, 0, none⟩ = some (.int .i64 0) := by rw [hb2.cell (p := ⟨w.heap.size, 0, none⟩) (by simp), HX.out]; rfl
    have HB2 := Lib.hid (HB.out.trans (hb2.mono (by simp)))
    clear hb2
    rw [HR.out]
    go_wp2_with fail
    go_ret
    exact ⟨rfl, HB2.out⟩
  · dsimp only at hk
    subst hk
    have HE2 : Hid (printF ⟨1, i, s⟩ = if i = 1 then [84, 82, 85, 69] else [70, 65, 76, 83, 69]) := HE.out
    rw [HE2.out]
    clear HE HE2
    by_cases hi : i = 1
    · rw [if_pos hi]
      subst hi
      go_enter Tryz.func11, Tryz.ntmps11
      go_wp2_with fail
      refine (right_any _ _ _ _ HT2.out).mono ?_
      rintro e w2 ⟨rfl, hb2⟩
      have c0 : w2.cell? ⟨w.heap.size, 0, none⟩ = some (.int .i64 1) := by rw [hb2.cell (p := ⟨w.heap.size, 0, none⟩) (by simp), HX.out]; rfl
      have c1 : w2.cell? ⟨w.heap.size, 1, none⟩ = some (.int .i64 1) := by rw [hb2.cell (p := ⟨w.heap.size, 1, none⟩) (by simp), HX.out]; rfl
      have HB2 := Lib.hid (HB.out.trans (hb2.mono (by simp)))
      clear hb2
      rw [HR.out]
      go_wp2_with fail
      go_ret
      exact ⟨rfl, HB2.out⟩
    · rw [if_neg hi]
      have hi2 : (i == 1) = false := by simpa using hi
      go_enter Tryz.func11, Tryz.ntmps11
      go_wp2_with fail
      refine (right_any _ _ _ _ HT2.out).mono ?_
      rintro e w2 ⟨rfl, hb2⟩
      have c0 : w2.cell? ⟨w.heap.size, 0, none⟩ = some (.int .i64 1) := by rw [hb2.cell (p := ⟨w.heap.size, 0, none⟩) (by simp), HX.out]; rfl
      have c1 : w2.cell? ⟨w.heap.size, 1, none⟩ = some (.int .i64 i) := by rw [hb2.cell (p := ⟨w.heap.size, 1, none⟩) (by simp), HX.out]; rfl
      have HB2 := Lib.hid (HB.out.trans (hb2.mono (by simp)))
      clear hb2
      rw [HR.out]
      go_wp2_with fail
      go_ret
      exact ⟨rfl, HB2.out⟩

set_option maxHeartbeats 1000000 in
theorem print_int (d : Dt) (w : World) (hT : Tabs w) (hP : Pow w) (hr : rightD d = true) (hk : d.k = 2) (i0 : -9223372036854775808 ≤ d.i) (i1 : d.i ≤ 9223372036854775807) :
    Calls Tryz.prog 11 #[d.v] w fun e w' => e = .returned (.string (bs (printF d))) ∧ Below w.heap.size w w' := by
  have HR := Lib.hid hr
  have HE := Lib.hid (show printF d = _ from if_neg (by rw [hr]; decide))
  obtain ⟨k, i, s⟩ := d
  obtain ⟨hb, hz, X⟩ := boxes1 w #[.int .i64 k, .int .i64 i, .string s] 27
  have HB := Lib.hid hb
  have HT2 := Lib.hid (hT.below hb)
  have HP2 := Lib.hid (hP.below hb)
  have HX := Lib.hid X
  clear hb hr hT X hz hP
  dsimp only at hk
  subst hk
  have HE2 : Hid (printF ⟨2, i, s⟩ = Lib.itoa i) := HE.out
  rw [HE2.out]
  have HI := Lib.hid (fun W h => fmtI_any i i0 i1 W h)
  clear HE HE2 i0 i1
  go_enter Tryz.func11, Tryz.ntmps11
  go_wp2_with fail
  refine (right_any _ _ _ _ HT2.out).mono ?_
  rintro e w2 ⟨rfl, hb2⟩
  have c0 : w2.cell? ⟨w.heap.size, 0, none⟩ = some (.int .i64 2) := by rw [hb2.cell (p := ⟨w.heap.size, 0, none⟩) (by simp), HX.out]; rfl
  have c1 : w2.cell? ⟨w.heap.size, 1, none⟩ = some (.int .i64 i) := by rw [hb2.cell (p := ⟨w.heap.size, 1, none⟩) (by simp), HX.out]; rfl
  have HB2 := Lib.hid (HB.out.trans (hb2.mono (by simp)))
  have HP3 := Lib.hid (HP2.out.below hb2)
  clear hb2
  rw [HR.out]
  go_wp2_with fail
  refine (HI.out _ HP3.out).mono ?_
  rintro e w3 ⟨rfl, hb3⟩
  have HB3 := Lib.hid (HB2.out.trans (hb3.mono HB2.out.size))
  clear hb3 c0 c1
  go_wp2_with fail
  go_ret
  exact ⟨rfl, HB3.out⟩

set_option maxHeartbeats 1000000 in
theorem print_dec (d : Dt) (w : World) (hT : Tabs w) (hP : Pow w) (hr : rightD d = true) (hk : d.k = 3) (i0 : -9223372036854775808 ≤ d.i) (i1 : d.i ≤ 9223372036854775807) :
    Calls Tryz.prog 11 #[d.v] w fun e w' => e = .returned (.string (bs (printF d))) ∧ Below w.heap.size w w' := by
  have HR := Lib.hid hr
  have HE := Lib.hid (show printF d = _ from if_neg (by rw [hr]; decide))
  obtain ⟨k, i, s⟩ := d
  obtain ⟨hb, hz, X⟩ := boxes1 w #[.int .i64 k, .int .i64 i, .string s] 27
  have HB := Lib.hid hb
  have HT2 := Lib.hid (hT.below hb)
  have HP2 := Lib.hid (hP.below hb)
  have HX := Lib.hid X
  clear hb hr hT X hz hP
  dsimp only at hk i0 i1
  subst hk
  have HE2 : Hid (printF ⟨3, i, s⟩ = decL i) := HE.out
  rw [HE2.out]
  obtain ⟨n, hn⟩ : ∃ n, n = i.natAbs := ⟨_, rfl⟩
  have hn1 : n ≤ 9223372036854775808 := by omega
  have HA := Lib.hid (fun W => amount_any i W i0 i1)
  obtain ⟨q, hq⟩ : ∃ q, q = n / 10000 := ⟨_, rfl⟩
  obtain ⟨r, hr⟩ : ∃ r, r = n % 10000 := ⟨_, rfl⟩
  have hq1 : q < 18446744073709551616 := by omega
  have hr1 : r < 10000 := by omega
  have eq1 : (n : Int) / 10000 = (q : Int) := by omega
  have er1 : (n : Int) % 10000 = (r : Int) := by omega
  obtain ⟨t, ht⟩ : ∃ t, t = 10000 + r := ⟨_, rfl⟩
  have er2 : (10000 : Int) + (r : Int) = (t : Int) := by omega
  obtain ⟨S1, hS1⟩ : ∃ S1, S1 = bs (Lib.decDigits q) := ⟨_, rfl⟩
  obtain ⟨S2, hS2⟩ : ∃ S2, S2 = bs (Lib.decDigits t) := ⟨_, rfl⟩
  have HQ : Hid (∀ W, Pow W → Calls Tryz.prog 26 #[.int .u64 (q : Int), .int .i64 10] W fun e w' => e = .returned (.string S1) ∧ Below W.heap.size W w') := by rw [hS1]; exact fun W h => fmtU_any q hq1 W h
  have HRr : Hid (∀ W, Pow W → Calls Tryz.prog 26 #[.int .u64 (t : Int), .int .i64 10] W fun e w' => e = .returned (.string S2) ∧ Below W.heap.size W w') := by rw [hS2]; exact fun W h => fmtU_any t (by omega) W h
  have HD := Lib.hid (Lib.decDigits_length q)
  have hDl : (Lib.decDigits q).length ≤ 20 := by
    rw [Lib.decDigits_length]
    by_cases h0 : q = 0
    · rw [h0, Lib.nDigits_small (by decide)]; decide
    · have := Lib.numDigits_eq q (by omega) hq1
      split at this <;> omega
  have hz1 : S1.size ≤ 20 := by rw [hS1, bs_size]; exact hDl
  have hz2 : S2.size = 5 := by rw [hS2, bs_size, ht, dec_pad hr1]; rfl
  have hz3 : (1 : Int) ≤ (S2.size : Int) := by omega
  have HJ : Hid (S1 ++ ⟨#[46]⟩ ++ S2.extract 1 5 = bs (Lib.decDigits q ++ (46 :: four r))) := by
    show _ = _
    rw [hS1, hS2, ht, dec_pad hr1, show (⟨#[46]⟩ : ByteArray) = bs [46] from rfl, show (bs (49 :: four r)).extract 1 5 = bs (four r) from rfl, bs_append, bs_append]
    simp
  have HP4 : Hid (Lib.decDigits t = 49 :: four r) := by show _ = _; rw [ht]; exact dec_pad hr1
  have HL : Hid (decL i = (if i < 0 then [45] else []) ++ (Lib.decDigits q ++ (46 :: four r))) := by
    show _ = _
    rw [hq, hr, hn]; rfl
  have HN := Lib.hid hn
  clear HE HE2 i0 i1 hq hr hn HD ht hS1 hS2
  go_enter Tryz.func11, Tryz.ntmps11
  go_wp2_with fail
  refine (right_any _ _ _ _ HT2.out).mono ?_
  rintro e w2 ⟨rfl, hb2⟩
  have c0 : w2.cell? ⟨w.heap.size, 0, none⟩ = some (.int .i64 3) := by rw [hb2.cell (p := ⟨w.heap.size, 0, none⟩) (by simp), HX.out]; rfl
  have c1 : w2.cell? ⟨w.heap.size, 1, none⟩ = some (.int .i64 i) := by rw [hb2.cell (p := ⟨w.heap.size, 1, none⟩) (by simp), HX.out]; rfl
  have HB2 := Lib.hid (HB.out.trans (hb2.mono (by simp)))
  have HP3 := Lib.hid (HP2.out.below hb2)
  clear hb2
  rw [HR.out]
  go_wp2_with fail
  refine (HA.out _).mono ?_
  rintro e w3 ⟨rfl, rfl⟩
  rw [← HN.out]
  go_wp2_with fail
  refine (HQ.out _ HP3.out).mono ?_
  rintro e w4 ⟨rfl, hb4⟩
  have c2 : w4.cell? ⟨w.heap.size, 1, none⟩ = some (.int .i64 i) := by rw [hb4.cell (p := ⟨w.heap.size, 1, none⟩) (World.block_lt_of_cell? _ _ c1)]; exact c1
  have HB4 := Lib.hid (HB2.out.trans (hb4.mono HB2.out.size))
  have HP5 := Lib.hid (HP3.out.below hb4)
  have HL4 := World.block_lt_of_cell? _ _ c2
  clear hb4
  go_wp2_with fail
  refine (HRr.out _ HP5.out).mono ?_
  rintro e w5 ⟨rfl, hb5⟩
  have c3 : w5.cell? ⟨w.heap.size, 1, none⟩ = some (.int .i64 i) := by rw [hb5.cell (p := ⟨w.heap.size, 1, none⟩) HL4]; exact c2
  have HB5 := Lib.hid (HB4.out.trans (hb5.mono HB4.out.size))
  clear hb5 c0 c1 c2
  by_cases hi : i < 0
  · go_wp2_with fail
    go_ret
    exact ⟨ret_str (by rw [HL.out, if_pos hi, HJ.out, show (⟨#[45]⟩ : ByteArray) = bs [45] from rfl, bs_append]), HB5.out⟩
  · go_wp2_with fail
    go_ret
    exact ⟨ret_str (by rw [HL.out, if_neg (by omega), HJ.out]; rfl), HB5.out⟩

set_option maxHeartbeats 1000000 in
theorem print_text (d : Dt) (w : World) (hT : Tabs w) (m : Int) (hm : w.cell? ⟨3, 0, none⟩ = some (.int .i64 m)) (hr : rightD d = true) (hk : d.k = 4) :
    Calls Tryz.prog 11 #[d.v] w fun e w' => e = .returned (.string (bs (printF d))) ∧ Below w.heap.size w w' := by
  have HR := Lib.hid hr
  have HE := Lib.hid (show printF d = _ from if_neg (by rw [hr]; decide))
  obtain ⟨k, i, s⟩ := d
  dsimp only at hk
  subst hk
  obtain ⟨hb, hz, X⟩ := boxes1 w #[.int .i64 4, .int .i64 i, .string s] 27
  have HB := Lib.hid hb
  have HT2 := Lib.hid (hT.below hb)
  have HX := Lib.hid X
  have hsz : s.size ≤ 1000 := by
    unfold rightD at hr
    rw [if_pos rfl] at hr
    simp only [Bool.and_eq_true, decide_eq_true_eq] at hr
    exact hr.2.1
  have hgm := World.block_lt_of_cell? _ _ hm
  have HM := Lib.hid (show (w.alloc (.cells #[.int .i64 4, .int .i64 i, .string s] 27)).cell? ⟨3, 0, none⟩ = some (.int .i64 m) by rw [hb.cell (p := ⟨3, 0, none⟩) hgm]; exact hm)
  have HG := Lib.hid hgm
  clear hb hr hT X hz hm hgm
  have HE2 : Hid (printF ⟨4, i, s⟩ = 39 :: (quoted s.data.toList ++ [39])) := HE.out
  rw [HE2.out]
  obtain ⟨q, hq⟩ : ∃ q, q = bs (quoted s.data.toList) := ⟨_, rfl⟩
  have hql : q.size ≤ 2000 := by
    rw [hq, bs_size]
    have := quoted_len s.data.toList
    have e : s.data.toList.length = s.size := rfl
    omega
  have hcnt : Lib.countB s ⟨#[39]⟩ ≤ s.size := by
    have := Lib.countB_mul_le ⟨#[39]⟩ (by decide) s.size s (Nat.le_refl _)
    have e : (⟨#[39]⟩ : ByteArray).size = 1 := rfl
    rw [e] at this
    omega
  have HRA : Hid (∀ W, W.cell? ⟨3, 0, none⟩ = some (.int .i64 m) → Calls Tryz.prog 27 #[.string s, .string ⟨#[39]⟩, .string ⟨#[39, 39]⟩] W fun e w' => e = .returned (.string q) ∧ Below W.heap.size W w') := fun W hW => by
    have h := Tryz.strings_ReplaceAll s ⟨#[39]⟩ ⟨#[39, 39]⟩ m W (by omega) hW (by decide) (by
      have e2 : (⟨#[39, 39]⟩ : ByteArray).size = 2 := rfl
      rw [e2]; omega)
    rw [show (⟨#[39]⟩ : ByteArray).data.toList = [39] from rfl, show (⟨#[39, 39]⟩ : ByteArray).data.toList = [39, 39] from rfl, replaceAll_quote] at h
    rw [hq]
    exact h
  have HJ : Hid (⟨#[39]⟩ ++ q ++ ⟨#[39]⟩ = bs (39 :: (quoted s.data.toList ++ [39]))) := by
    show _ = _
    rw [hq, show (⟨#[39]⟩ : ByteArray) = bs [39] from rfl, bs_append, bs_append]
    rfl
  clear HE HE2 hq hcnt
  go_enter Tryz.func11, Tryz.ntmps11
  go_wp2_with fail
  refine (right_any _ _ _ _ HT2.out).mono ?_
  rintro e w2 ⟨rfl, hb2⟩
  have c0 : w2.cell? ⟨w.heap.size, 0, none⟩ = some (.int .i64 4) := by rw [hb2.cell (p := ⟨w.heap.size, 0, none⟩) (by simp), HX.out]; rfl
  have c2 : w2.cell? ⟨w.heap.size, 2, none⟩ = some (.string s) := by rw [hb2.cell (p := ⟨w.heap.size, 2, none⟩) (by simp), HX.out]; rfl
  have HB2 := Lib.hid (HB.out.trans (hb2.mono (by simp)))
  have HM2 := Lib.hid (show w2.cell? ⟨3, 0, none⟩ = some (.int .i64 m) by rw [hb2.cell (p := ⟨3, 0, none⟩) (by simp; have := HG.out; omega)]; exact HM.out)
  clear hb2
  rw [HR.out]
  go_wp2_with fail
  refine (HRA.out _ HM2.out).mono ?_
  rintro e w3 ⟨rfl, hb3⟩
  have HB3 := Lib.hid (HB2.out.trans (hb3.mono HB2.out.size))
  clear hb3 c0 c2
  go_wp2_with fail
  go_ret
  exact ⟨ret_str (by rw [HJ.out]), HB3.out⟩
end Go.Proofs.YtokbdleokihdaaaGreatDoor

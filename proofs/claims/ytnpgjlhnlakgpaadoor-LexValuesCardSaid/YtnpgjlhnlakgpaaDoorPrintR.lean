/- What the document's Print writes. -/
import Derived.Test.YtnpgjlhnlakgpaaDoorPrintK
import Derived.Test.YtnpgjlhnlakgpaaDoorG04
namespace Go.Proofs.YtnpgjlhnlakgpaaDoor
open Go.RowKit

def strOf : Value → Nat | .string s => s.size | _ => 0
/-- Zeros ahead. -/
structure Pad (S : ByteArray) (j : Nat) (l : List UInt8) : Prop where
  eq : S = bs (List.replicate j 48 ++ l)
  size : S.size = j + l.length
theorem sz48 (S : ByteArray) : ((⟨#[48]⟩ : ByteArray) ++ S).size = 1 + S.size := ByteArray.size_append
theorem Pad.next {S : ByteArray} {j : Nat} {l : List UInt8} (h : Pad S j l) : Pad (⟨#[48]⟩ ++ S) (j + 1) l := by
  refine ⟨?_, ?_⟩
  · rw [h.eq, show (⟨#[48]⟩ : ByteArray) = bs [48] from rfl, bs_append]
    rfl
  · rw [ByteArray.size_append, h.size]
    show 1 + _ = _
    omega
theorem Pad.done {S : ByteArray} {j : Nat} {l f : List UInt8} (h : Pad S j l) (h4 : S.size ≤ 4) (hn : ¬ S.size < 4) (hp : padF l = f) : S = bs f := by
  rw [h.eq, ← hp]
  unfold padF
  have := h.size
  rw [show 4 - l.length = j by omega]
theorem dec_join (a b c : List UInt8) : bs a ++ bs b ++ ⟨#[46]⟩ ++ bs c = bs (a ++ (b ++ (46 :: c))) := by
  rw [show (⟨#[46]⟩ : ByteArray) = bs [46] from rfl, bs_append, bs_append, bs_append]
  simp

set_option maxHeartbeats 1000000 in
theorem rprint_bad (d : Dt) (w : World) (hr : rightD d = false) :
    Calls Tryd.prog 23 #[d.v] w fun e w' => e = .returned (.string (bs (printF d))) ∧ Below w.heap.size w w' := by
  have HE : Hid (printF d = []) := if_pos hr
  have HR := Lib.hid hr
  obtain ⟨k, i, s⟩ := d
  have hb := boxes1 w #[.int .i64 k, .int .i64 i, .string s] 28
  have HB := Lib.hid hb.1
  clear hb hr
  rw [HE.out]
  go_enter Tryd.func23, Tryd.ntmps23
  go_wp2_with fail
  refine (refright_any _ _ _ _).mono ?_
  rintro e w2 ⟨rfl, hb2⟩
  rw [HR.out]
  go_wp2_with fail
  go_ret
  exact ⟨rfl, HB.out.trans (hb2.mono (by simp))⟩

set_option maxRecDepth 100000 in
set_option maxHeartbeats 2000000 in
theorem rprint_null (d : Dt) (w : World)  (hr : rightD d = true) (hk : d.k = 0) :
    Calls Tryd.prog 23 #[d.v] w fun e w' => e = .returned (.string (bs (printF d))) ∧ Below w.heap.size w w' := by
  have HR := Lib.hid hr
  have HE := Lib.hid (show printF d = _ from if_neg (by rw [hr]; decide))
  obtain ⟨k, i, s⟩ := d
  dsimp only at hk
  subst hk
  obtain ⟨hb, hz, X⟩ := boxes1 w #[.int .i64 0, .int .i64 i, .string s] 28
  have HB := Lib.hid hb
  have HX := Lib.hid X
  have HE2 : Hid (printF ⟨0, i, s⟩ = [78, 85, 76, 76]) := HE.out
  rw [HE2.out]
  clear HE HE2 hb hr X hz
  go_enter Tryd.func23, Tryd.ntmps23
  go_wp2_with fail
  refine (refright_any _ _ _ _).mono ?_
  rintro e w2 ⟨rfl, hb2⟩
  have c0 : w2.cell? ⟨w.heap.size, 0, none⟩ = some (.int .i64 0) := by rw [hb2.cell (p := ⟨w.heap.size, 0, none⟩) (by simp), HX.out]; rfl
  have c1 : w2.cell? ⟨w.heap.size, 1, none⟩ = some (.int .i64 i) := by rw [hb2.cell (p := ⟨w.heap.size, 1, none⟩) (by simp), HX.out]; rfl
  have c2 : w2.cell? ⟨w.heap.size, 2, none⟩ = some (.string s) := by rw [hb2.cell (p := ⟨w.heap.size, 2, none⟩) (by simp), HX.out]; rfl
  have HB2 := Lib.hid (HB.out.trans (hb2.mono (by simp)))
  have HB2' := Lib.hid hb2
  clear hb2
  rw [HR.out]
  go_wp2_with fail
  go_ret
  exact ⟨rfl, HB2.out⟩

set_option maxRecDepth 100000 in
set_option maxHeartbeats 2000000 in
theorem rprint_true (d : Dt) (w : World) (hi : d.i = 1) (hr : rightD d = true) (hk : d.k = 1) :
    Calls Tryd.prog 23 #[d.v] w fun e w' => e = .returned (.string (bs (printF d))) ∧ Below w.heap.size w w' := by
  have HR := Lib.hid hr
  have HE := Lib.hid (show printF d = _ from if_neg (by rw [hr]; decide))
  obtain ⟨k, i, s⟩ := d
  dsimp only at hk
  subst hk
  obtain ⟨hb, hz, X⟩ := boxes1 w #[.int .i64 1, .int .i64 i, .string s] 28
  have HB := Lib.hid hb
  have HX := Lib.hid X
  have HE2 : Hid (printF ⟨1, i, s⟩ = [84, 82, 85, 69]) := by
    show _ = _
    rw [HE.out]
    dsimp only at hi ⊢
    simp [hi]
  have hi2 : (i == 1) = true := by dsimp only at hi; simpa using hi
  rw [HE2.out]
  clear HE HE2 hb hr X hz hi
  go_enter Tryd.func23, Tryd.ntmps23
  go_wp2_with fail
  refine (refright_any _ _ _ _).mono ?_
  rintro e w2 ⟨rfl, hb2⟩
  have c0 : w2.cell? ⟨w.heap.size, 0, none⟩ = some (.int .i64 1) := by rw [hb2.cell (p := ⟨w.heap.size, 0, none⟩) (by simp), HX.out]; rfl
  have c1 : w2.cell? ⟨w.heap.size, 1, none⟩ = some (.int .i64 i) := by rw [hb2.cell (p := ⟨w.heap.size, 1, none⟩) (by simp), HX.out]; rfl
  have c2 : w2.cell? ⟨w.heap.size, 2, none⟩ = some (.string s) := by rw [hb2.cell (p := ⟨w.heap.size, 2, none⟩) (by simp), HX.out]; rfl
  have HB2 := Lib.hid (HB.out.trans (hb2.mono (by simp)))
  have HB2' := Lib.hid hb2
  clear hb2
  rw [HR.out]
  go_wp2_with fail
  go_ret
  exact ⟨rfl, HB2.out⟩

set_option maxRecDepth 100000 in
set_option maxHeartbeats 2000000 in
theorem rprint_false (d : Dt) (w : World) (hi : d.i ≠ 1) (hr : rightD d = true) (hk : d.k = 1) :
    Calls Tryd.prog 23 #[d.v] w fun e w' => e = .returned (.string (bs (printF d))) ∧ Below w.heap.size w w' := by
  have HR := Lib.hid hr
  have HE := Lib.hid (show printF d = _ from if_neg (by rw [hr]; decide))
  obtain ⟨k, i, s⟩ := d
  dsimp only at hk
  subst hk
  obtain ⟨hb, hz, X⟩ := boxes1 w #[.int .i64 1, .int .i64 i, .string s] 28
  have HB := Lib.hid hb
  have HX := Lib.hid X
  have HE2 : Hid (printF ⟨1, i, s⟩ = [70, 65, 76, 83, 69]) := by
    show _ = _
    rw [HE.out]
    dsimp only at hi ⊢
    simp [hi]
  have hi2 : (i == 1) = false := by dsimp only at hi; simpa using hi
  rw [HE2.out]
  clear HE HE2 hb hr X hz hi
  go_enter Tryd.func23, Tryd.ntmps23
  go_wp2_with fail
  refine (refright_any _ _ _ _).mono ?_
  rintro e w2 ⟨rfl, hb2⟩
  have c0 : w2.cell? ⟨w.heap.size, 0, none⟩ = some (.int .i64 1) := by rw [hb2.cell (p := ⟨w.heap.size, 0, none⟩) (by simp), HX.out]; rfl
  have c1 : w2.cell? ⟨w.heap.size, 1, none⟩ = some (.int .i64 i) := by rw [hb2.cell (p := ⟨w.heap.size, 1, none⟩) (by simp), HX.out]; rfl
  have c2 : w2.cell? ⟨w.heap.size, 2, none⟩ = some (.string s) := by rw [hb2.cell (p := ⟨w.heap.size, 2, none⟩) (by simp), HX.out]; rfl
  have HB2 := Lib.hid (HB.out.trans (hb2.mono (by simp)))
  have HB2' := Lib.hid hb2
  clear hb2
  rw [HR.out]
  go_wp2_with fail
  go_ret
  exact ⟨rfl, HB2.out⟩

set_option maxRecDepth 100000 in
set_option maxHeartbeats 2000000 in
theorem rprint_int (d : Dt) (w : World) (hP : Pow w) (i0 : -9223372036854775808 ≤ d.i) (i1 : d.i ≤ 9223372036854775807) (hr : rightD d = true) (hk : d.k = 2) :
    Calls Tryd.prog 23 #[d.v] w fun e w' => e = .returned (.string (bs (printF d))) ∧ Below w.heap.size w w' := by
  have HR := Lib.hid hr
  have HE := Lib.hid (show printF d = _ from if_neg (by rw [hr]; decide))
  obtain ⟨k, i, s⟩ := d
  dsimp only at hk
  subst hk
  obtain ⟨hb, hz, X⟩ := boxes1 w #[.int .i64 2, .int .i64 i, .string s] 28
  have HB := Lib.hid hb
  have HX := Lib.hid X
  have HE2 : Hid (printF ⟨2, i, s⟩ = Lib.itoa i) := HE.out
  rw [HE2.out]
  have HP2 := Lib.hid (hP.below hb)
  have HI := Lib.hid (fun W h => itoa_any i i0 i1 W h)
  have hwr : IntKind.i64.wrap i = i := by dsimp only at i0 i1; rw [IntKind.wrap_i64]; omega
  clear HE HE2 hb hr X hz hP i0 i1
  go_enter Tryd.func23, Tryd.ntmps23
  go_wp2_with fail
  refine (refright_any _ _ _ _).mono ?_
  rintro e w2 ⟨rfl, hb2⟩
  have c0 : w2.cell? ⟨w.heap.size, 0, none⟩ = some (.int .i64 2) := by rw [hb2.cell (p := ⟨w.heap.size, 0, none⟩) (by simp), HX.out]; rfl
  have c1 : w2.cell? ⟨w.heap.size, 1, none⟩ = some (.int .i64 i) := by rw [hb2.cell (p := ⟨w.heap.size, 1, none⟩) (by simp), HX.out]; rfl
  have c2 : w2.cell? ⟨w.heap.size, 2, none⟩ = some (.string s) := by rw [hb2.cell (p := ⟨w.heap.size, 2, none⟩) (by simp), HX.out]; rfl
  have HB2 := Lib.hid (HB.out.trans (hb2.mono (by simp)))
  have HB2' := Lib.hid hb2
  clear hb2
  rw [HR.out]
  have HP3 := Lib.hid (HP2.out.below HB2'.out)
  go_wp2_with fail
  refine (HI.out _ HP3.out).mono ?_
  rintro e w3 ⟨rfl, hb3⟩
  have HB3 := Lib.hid (HB2.out.trans (hb3.mono HB2.out.size))
  clear hb3 c0 c1 c2
  go_wp2_with fail
  go_ret
  exact ⟨rfl, HB3.out⟩

set_option maxRecDepth 100000 in
set_option maxHeartbeats 2000000 in
theorem rprint_dec (d : Dt) (w : World) (hP : Pow w) (i0 : -9223372036854775808 ≤ d.i) (i1 : d.i ≤ 9223372036854775807) (hr : rightD d = true) (hk : d.k = 3) :
    Calls Tryd.prog 23 #[d.v] w fun e w' => e = .returned (.string (bs (printF d))) ∧ Below w.heap.size w w' := by
  have HR := Lib.hid hr
  have HE := Lib.hid (show printF d = _ from if_neg (by rw [hr]; decide))
  obtain ⟨k, i, s⟩ := d
  dsimp only at hk
  subst hk
  obtain ⟨hb, hz, X⟩ := boxes1 w #[.int .i64 3, .int .i64 i, .string s] 28
  have HB := Lib.hid hb
  have HX := Lib.hid X
  have HE2 : Hid (printF ⟨3, i, s⟩ = decL i) := HE.out
  rw [HE2.out]
  have HP2 := Lib.hid (hP.below hb)
  dsimp only at i0 i1
  obtain ⟨n, hn⟩ : ∃ n, n = i.natAbs := ⟨_, rfl⟩
  have hn1 : n ≤ 9223372036854775808 := by omega
  obtain ⟨q, hq⟩ : ∃ q, q = n / 10000 := ⟨_, rfl⟩
  obtain ⟨r, hr'⟩ : ∃ r, r = n % 10000 := ⟨_, rfl⟩
  have hq1 : q < 9223372036854775808 := by omega
  have hr1 : r < 10000 := by omega
  have eq1 : (n : Int) / 10000 = (q : Int) := by omega
  have er1 : (n : Int) % 10000 = (r : Int) := by omega
  have wq : IntKind.i64.wrap (q : Int) = (q : Int) := by rw [IntKind.wrap_i64]; omega
  have wr1 : IntKind.i64.wrap (r : Int) = (r : Int) := by rw [IntKind.wrap_i64]; omega
  obtain ⟨S1, hS1⟩ : ∃ S1, S1 = bs (Lib.decDigits q) := ⟨_, rfl⟩
  obtain ⟨l0, hl0⟩ : ∃ l0, l0 = Lib.decDigits r := ⟨_, rfl⟩
  have HQ : Hid (∀ W, Pow W → Calls Tryd.prog 55 #[.int .i64 (q : Int)] W fun e w' => e = .returned (.string S1) ∧ Below W.heap.size W w') := by rw [hS1]; exact fun W h => by have := itoa_any (q : Int) (by omega) (by omega) W h; rwa [Lib.itoa_nonneg] at this
  have HRr : Hid (∀ W, Pow W → Calls Tryd.prog 55 #[.int .i64 (r : Int)] W fun e w' => e = .returned (.string (bs l0)) ∧ Below W.heap.size W w') := by rw [hl0]; exact fun W h => by have := itoa_any (r : Int) (by omega) (by omega) W h; rwa [Lib.itoa_nonneg] at this
  have hDl : (Lib.decDigits q).length ≤ 20 := by
    rw [Lib.decDigits_length]
    by_cases h0 : q = 0
    · rw [h0, Lib.nDigits_small (by decide)]; decide
    · have := Lib.numDigits_eq q (by omega) (by omega)
      split at this <;> omega
  have hz1 : S1.size ≤ 20 := by rw [hS1, bs_size]; exact hDl
  have hl4 : l0.length ≤ 4 := by rw [hl0]; exact dec_len hr1
  have HPd : Hid (padF l0 = four r) := by show _ = _; rw [hl0]; exact pad_four hr1
  have HJ : Hid (S1 = bs (Lib.decDigits q)) := hS1
  have HL : Hid (decL i = (if i < 0 then [45] else []) ++ (Lib.decDigits q ++ (46 :: four r))) := by
    show _ = _
    rw [hq, hr', hn]; rfl
  have hw1 : ¬ i < 0 → IntKind.u64.wrap i = (n : Int) := fun h => by rw [IntKind.wrap_u64]; omega
  have hw2 : i < 0 → IntKind.u64.wrap (-IntKind.u64.wrap i) = (n : Int) := fun h => by rw [IntKind.wrap_u64, IntKind.wrap_u64]; omega
  have HW1 := Lib.hid hw1
  have HW2 := Lib.hid hw2
  clear HE HE2 hb hr X hz hP i0 i1 hS1 hl0 hq hr' hn hw1 hw2
  go_enter Tryd.func23, Tryd.ntmps23
  go_wp2_with fail
  refine (refright_any _ _ _ _).mono ?_
  rintro e w2 ⟨rfl, hb2⟩
  have c0 : w2.cell? ⟨w.heap.size, 0, none⟩ = some (.int .i64 3) := by rw [hb2.cell (p := ⟨w.heap.size, 0, none⟩) (by simp), HX.out]; rfl
  have c1 : w2.cell? ⟨w.heap.size, 1, none⟩ = some (.int .i64 i) := by rw [hb2.cell (p := ⟨w.heap.size, 1, none⟩) (by simp), HX.out]; rfl
  have c2 : w2.cell? ⟨w.heap.size, 2, none⟩ = some (.string s) := by rw [hb2.cell (p := ⟨w.heap.size, 2, none⟩) (by simp), HX.out]; rfl
  have HB2 := Lib.hid (HB.out.trans (hb2.mono (by simp)))
  have HB2' := Lib.hid hb2
  clear hb2
  rw [HR.out]
  have HP3 := Lib.hid (HP2.out.below HB2'.out)
  by_cases hi : i < 0
  · have hwn := HW2.out hi
    have HSg := Lib.hid (show decL i = [45] ++ (Lib.decDigits q ++ (46 :: four r)) by rw [HL.out, if_pos hi])
    go_wp2_with fail
    refine (HRr.out _ HP3.out).mono ?_
    rintro e w3 ⟨rfl, hb3⟩
    have HB3 := Lib.hid (HB2.out.trans (hb3.mono HB2.out.size))
    have HP4 := Lib.hid (HP3.out.below hb3)
    clear hb3 c0 c1 c2 HL
    go_wp2_with fail
    go_loopw [5] (fun v wr => ∃ (S : ByteArray) (j : Nat), v = .string S ∧ S.size ≤ 4 ∧ Pad S j l0 ∧ wr = w3) (fun v _ => 4 - strOf v)
    case atStart => exact ⟨bs l0, 0, rfl, by rw [bs_size]; exact hl4, ⟨by simp, by simp [bs_size]⟩, rfl⟩
    case round =>
      obtain ⟨S, j, rfl, hS4, hpad, rfl⟩ := hrel
      have HPS := Lib.hid hpad
      clear hpad
      by_cases hlt : S.size < 4
      · have hi4 : (S.size : Int) < 4 := by omega
        go_wp2_with fail
        go_roundw
        case rel => exact ⟨_, j + 1, rfl, by rw [sz48]; omega, HPS.out.next, trivial⟩
        case measure =>
          show 4 - ((⟨#[48]⟩ : ByteArray) ++ S).size < 4 - S.size
          rw [sz48]; omega
      · have hi4 : ¬ (S.size : Int) < 4 := by omega
        have HF := Lib.hid (HPS.out.done hS4 hlt HPd.out)
        go_wp2_with fail
        refine (HQ.out _ HP4.out).mono ?_
        rintro e w4 ⟨rfl, hb4⟩
        have HB4 := Lib.hid (HB3.out.trans (hb4.mono HB3.out.size))
        clear hb4
        go_wp2_with fail
        go_ret
        exact ⟨ret_str (by rw [HSg.out, HF.out, HJ.out]; exact dec_join [45] _ _), HB4.out⟩
  · have hwn := HW1.out (by omega)
    have HSg := Lib.hid (show decL i = [] ++ (Lib.decDigits q ++ (46 :: four r)) by rw [HL.out, if_neg hi])
    go_wp2_with fail
    refine (HRr.out _ HP3.out).mono ?_
    rintro e w3 ⟨rfl, hb3⟩
    have HB3 := Lib.hid (HB2.out.trans (hb3.mono HB2.out.size))
    have HP4 := Lib.hid (HP3.out.below hb3)
    clear hb3 c0 c1 c2 HL
    go_wp2_with fail
    go_loopw [5] (fun v wr => ∃ (S : ByteArray) (j : Nat), v = .string S ∧ S.size ≤ 4 ∧ Pad S j l0 ∧ wr = w3) (fun v _ => 4 - strOf v)
    case atStart => exact ⟨bs l0, 0, rfl, by rw [bs_size]; exact hl4, ⟨by simp, by simp [bs_size]⟩, rfl⟩
    case round =>
      obtain ⟨S, j, rfl, hS4, hpad, rfl⟩ := hrel
      have HPS := Lib.hid hpad
      clear hpad
      by_cases hlt : S.size < 4
      · have hi4 : (S.size : Int) < 4 := by omega
        go_wp2_with fail
        go_roundw
        case rel => exact ⟨_, j + 1, rfl, by rw [sz48]; omega, HPS.out.next, trivial⟩
        case measure =>
          show 4 - ((⟨#[48]⟩ : ByteArray) ++ S).size < 4 - S.size
          rw [sz48]; omega
      · have hi4 : ¬ (S.size : Int) < 4 := by omega
        have HF := Lib.hid (HPS.out.done hS4 hlt HPd.out)
        go_wp2_with fail
        refine (HQ.out _ HP4.out).mono ?_
        rintro e w4 ⟨rfl, hb4⟩
        have HB4 := Lib.hid (HB3.out.trans (hb4.mono HB3.out.size))
        clear hb4
        go_wp2_with fail
        go_ret
        exact ⟨ret_str (by rw [HSg.out, HF.out, HJ.out]; exact dec_join [] _ _), HB4.out⟩

end Go.Proofs.YtnpgjlhnlakgpaaDoor

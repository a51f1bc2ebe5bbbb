/- The plain law of DatumApplies: the document's answers are the program's. -/
import Derived.Test.YtokbdleokihdaaaDoorRefApp
import Derived.Test.YtokbdleokihdaaaDoorNumA
import Derived.Test.YtokbdleokihdaaaDoorG15
import Derived.Test.YtokbdleokihdaaaDoorG16
import Derived.Test.YtokbdleokihdaaaDoorG02
import Derived.Test.YtokbdleokihdaaaDoorG03
namespace Go.Proofs.YtokbdleokihdaaaDoor
open Go.RowKit

theorem in64_room (z : Int) : room z = decide (In64 z) := by
  by_cases h : In64 z
  · rw [decide_eq_true h]
    unfold In64 at h
    unfold room
    rw [decide_eq_true h.1, decide_eq_true (by omega)]
    rfl
  · rw [decide_eq_false h]
    unfold In64 at h
    unfold room
    by_cases h1 : -9223372036854775808 ≤ z
    · rw [decide_eq_true h1, decide_eq_false (by omega)]; rfl
    · rw [decide_eq_false h1]; rfl
theorem wrap_in {z : Int} (h : In64 z) : wrap64 z = z := by
  unfold In64 at h
  unfold wrap64
  omega
/-- A number that may be. -/
theorem right_num {k i : Int} {s : ByteArray} (h : rightD ⟨k, i, s⟩ = true) (ho : isOf [2, 3] ⟨k, i, s⟩ = true) (hk : (k == 0) = false) : (k = 2 ∨ k = 3) ∧ s = ⟨#[]⟩ := by
  have hk2 : k = 2 ∨ k = 3 := by
    unfold isOf at ho
    rw [hk] at ho
    simpa using ho
  refine ⟨hk2, empty_of (s := s) ?_⟩
  rcases hk2 with rfl | rfl
  · simpa [rightD, rightN] using h
  · simpa [rightD, rightN] using h

theorem eq_neg {k i : Int} {s : ByteArray} (h : rightD ⟨k, i, s⟩ = true) (ho : isOf [2, 3] ⟨k, i, s⟩ = true) (hk : (k == 0) = false) (hi : In64 i) : okD k (-i) (decide (In64 (-i))) = numA [⟨k, i, s⟩] (negR ⟨k, i, s⟩) := by
  have ha : [(⟨k, i, s⟩ : Dt)].all (isOf [2, 3]) = true := by simp [ho]
  have hn : [(⟨k, i, s⟩ : Dt)].any (fun d => d.k == 0) = false := by simp [hk]
  unfold numA
  rw [if_pos ha, if_neg (by rw [hn]; decide)]
  unfold okD negR
  by_cases hm : i = -9223372036854775808
  · subst hm
    rfl
  · have h1 : In64 (-i) := by unfold In64 at *; omega
    have h2 : (i != -9223372036854775808) = true := by simpa using hm
    simp only [decide_eq_true h1, h2, if_true]
    rw [wrap_in h1]
theorem asDec_two (i : Int) (s : ByteArray) : asDecR ⟨2, i, s⟩ = (⟨3, (decI i).1, ⟨#[]⟩⟩, (decI i).2) := if_neg (by decide : ¬ (2 : Int) = 3)
theorem asDec_three (i : Int) (s : ByteArray) : asDecR ⟨3, i, s⟩ = (⟨3, i, s⟩, true) := if_pos rfl
theorem numZ_two (i : Int) : numZ 2 i = i * 10000 := if_pos rfl
theorem numZ_three (i : Int) : numZ 3 i = i := if_neg (by decide)
theorem eq_dec {k i : Int} {s : ByteArray} (h : rightD ⟨k, i, s⟩ = true) (ho : isOf [2, 3] ⟨k, i, s⟩ = true) (hk : (k == 0) = false) (hi : In64 i) : okD 3 (numZ k i) (decide (In64 (numZ k i))) = numA [⟨k, i, s⟩] (asDecR ⟨k, i, s⟩) := by
  have ha : [(⟨k, i, s⟩ : Dt)].all (isOf [2, 3]) = true := by simp [ho]
  have hn : [(⟨k, i, s⟩ : Dt)].any (fun d => d.k == 0) = false := by simp [hk]
  obtain ⟨hk2, rfl⟩ := right_num h ho hk
  unfold numA
  rw [if_pos ha, if_neg (by rw [hn]; decide)]
  rcases hk2 with rfl | rfl
  · rw [asDec_two, numZ_two]
    unfold decI okD
    rw [in64_room]
    by_cases hz : In64 (i * 10000)
    · rw [decide_eq_true hz]; rfl
    · rw [decide_eq_false hz]; rfl
  · rw [asDec_three, numZ_three]
    unfold okD
    rw [decide_eq_true hi]
theorem abs_pos {k i : Int} {s : ByteArray} (hi : ¬ i < 0) : absR ⟨k, i, s⟩ = (⟨k, i, s⟩, true) := if_pos (by show 0 ≤ i; omega)
theorem eq_abs {k i : Int} {s : ByteArray} (ho : isOf [2, 3] ⟨k, i, s⟩ = true) (hk : (k == 0) = false) (hi : ¬ i < 0) : ((⟨k, i, s⟩ : Dt), (0 : Int)) = numA [⟨k, i, s⟩] (absR ⟨k, i, s⟩) := by
  have ha : [(⟨k, i, s⟩ : Dt)].all (isOf [2, 3]) = true := by simp [ho]
  have hn : [(⟨k, i, s⟩ : Dt)].any (fun d => d.k == 0) = false := by simp [hk]
  unfold numA
  rw [if_pos ha, if_neg (by rw [hn]; decide), abs_pos hi]
  rfl
theorem eq_absneg {k i : Int} {s : ByteArray} (hi : i < 0) : numA [⟨k, i, s⟩] (absR ⟨k, i, s⟩) = numA [⟨k, i, s⟩] (negR ⟨k, i, s⟩) := by
  unfold absR
  rw [if_neg (by show ¬ 0 ≤ i; omega)]
theorem num_type (ds : List Dt) (r : Dt × Bool) (h : ds.all (isOf [2, 3]) = false) : numA ds r = (Dt.zero, 5) := by
  unfold numA
  rw [if_neg (by rw [h]; decide)]
theorem num_null (ds : List Dt) (r : Dt × Bool) (h : ds.all (isOf [2, 3]) = true) (hn : ds.any (fun d => d.k == 0) = true) : numA ds r = (Dt.zero, 0) := by
  unfold numA
  rw [if_pos h, if_pos hn]
theorem eq_arith (kind op a b one : Int) (hop : op = 3 ∨ op = 4 ∨ op = 5 ∨ op = 6) (h1 : one ≠ 0) : twoD kind op a b one = (if (arith kind op a b one).2 then ((arith kind op a b one).1, 0) else (Dt.zero, 4)) := by
  unfold twoD twoOk twoZ arith arI quo
  rcases hop with rfl | rfl | rfl | rfl
  · simp only [in64_room]
    by_cases hz : In64 (a + b)
    · simp [hz, wrap_in hz]
    · simp [hz]
  · simp only [in64_room]
    by_cases hz : In64 (a - b)
    · simp [hz, wrap_in hz]
    · simp [hz]
  · simp only [in64_room]
    by_cases hz : In64 ((a * b).tdiv one)
    · simp [hz, h1]
    · simp [hz]
  · simp only [in64_room]
    by_cases hb : b = 0
    · subst hb
      simp
    · by_cases hz : In64 ((a * one).tdiv b)
      · simp [hz, hb]
      · simp [hz]
theorem num_some (ds : List Dt) (r : Dt × Bool) (h : ds.all (isOf [2, 3]) = true) (hn : ds.any (fun d => d.k == 0) = false) : numA ds r = if r.2 then (r.1, 0) else (Dt.zero, 4) := by
  unfold numA
  rw [if_pos h, if_neg (by rw [hn]; decide)]
theorem asDec_ok {k i : Int} {s : ByteArray} (hk : k = 2 ∨ k = 3) (hi : In64 i) : (asDecR ⟨k, i, s⟩).2 = decide (In64 (numZ k i)) ∧ (In64 (numZ k i) → (asDecR ⟨k, i, s⟩).1.i = numZ k i) := by
  rcases hk with rfl | rfl
  · rw [asDec_two, numZ_two]
    unfold decI
    rw [in64_room]
    by_cases hz : In64 (i * 10000)
    · rw [decide_eq_true hz]; exact ⟨rfl, fun _ => rfl⟩
    · rw [decide_eq_false hz]; exact ⟨rfl, fun h => absurd h hz⟩
  · rw [asDec_three, numZ_three, decide_eq_true hi]
    exact ⟨rfl, fun _ => rfl⟩

theorem both_all {d d' : Dt} (h : [d, d'].all (isOf [2, 3]) = true) : isOf [2, 3] d = true ∧ isOf [2, 3] d' = true := by simpa using h
theorem both_any {d d' : Dt} (h : [d, d'].any (fun d => d.k == 0) = false) : (d.k == 0) = false ∧ (d'.k == 0) = false := by
  simp only [List.any_cons, List.any_nil, Bool.or_false, Bool.or_eq_false_iff] at h
  exact h
theorem cmp_int_cmpZ (a b : Int) : cmpI a b = cmpZ a b := rfl
theorem bl_refl : ∀ l : List UInt8, Op.bytesLess l l = false
  | [] => by simp [Op.bytesLess]
  | a :: l => by simp [Op.bytesLess, bl_refl l]
theorem less_refl (s : ByteArray) : Op.bytesLess s.toList s.toList = false := bl_refl _
theorem ord_num {ak ai bk bi : Int} (ha : ak = 2 ∨ ak = 3) (hb : bk = 2 ∨ bk = 3) : ordN ak ai ⟨#[]⟩ bk bi ⟨#[]⟩ = cmpZ (numZ ak ai) (numZ bk bi) := by
  have hu : ∀ k i : Int, (k = 2 ∨ k = 3) → i * unitOf k = numZ k i := fun k i h => by
    unfold unitOf numZ
    split
    · rfl
    · omega
  unfold ordN
  rw [hu ak ai ha, hu bk bi hb]
  by_cases he : ak = bk
  · rw [if_pos he]
    subst he
    rw [dco_val, less_refl]
    rw [if_neg (by omega), if_neg (by omega)]
    have hz : (numZ ak ai < numZ ak bi ↔ ai < bi) ∧ (numZ ak bi < numZ ak ai ↔ bi < ai) := by
      rcases ha with rfl | rfl
      · rw [numZ_two, numZ_two]; omega
      · rw [numZ_three, numZ_three]; omega
    unfold cmpZ
    by_cases hx : ai < bi
    · rw [if_pos hx, if_pos (hz.1.2 hx)]
    · rw [if_neg hx, if_neg (fun h => hx (hz.1.1 h))]
      by_cases hy : bi < ai
      · rw [if_pos hy, if_pos (hz.2.2 hy)]
      · rw [if_neg hy, if_neg (fun h => hy (hz.2.1 h))]
        rfl
  · rw [if_neg he]
    rfl
end Go.Proofs.YtokbdleokihdaaaDoor

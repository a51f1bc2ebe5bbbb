/- Contract of bits.Div64: the quotient and the rest. Contract of the document's Compare: it is the program's order. -/
import Derived.Test.YtokbdleokihdaaaGreatDoorDivMath
import Derived.Test.YtokbdleokihdaaaGreatDoorG02
import Derived.Test.YtokbdleokihdaaaGreatDoorShelf
import Derived.BigQuiet
import Derived.Test.YtokbdleokihdaaaGreatDoorDatCmp
namespace Go.Proofs.YtokbdleokihdaaaGreatDoor
open Go.RowKit

theorem ret_uu {a b c d : Int} (h : a = b) (h' : c = d) : Ending.returned (Value.tuple #[Value.int .u64 a, .int .u64 c]) = .returned (Value.tuple #[Value.int .u64 b, .int .u64 d]) := by rw [h, h']
set_option maxRecDepth 100000 in
set_option maxHeartbeats 2000000 in
theorem div64_low (lo y : Nat) (hy : 0 < y) (hlo : lo < 18446744073709551616) (hyy : y < 18446744073709551616) (w : World) :
    Calls Tryz.prog 110 #[.int .u64 0, .int .u64 lo, .int .u64 y] w fun e w' => e = .returned (.tuple #[.int .u64 (lo / y : Nat), .int .u64 (lo % y : Nat)]) ∧ Below w.heap.size w w' := by
  have h0 : ((y : Int) == 0) = false := by simp; omega
  have h1 : ¬ (y : Int) ≤ 0 := by omega
  have h2 : decide ((y : Int) ≤ 0) = false := by simp; omega
  have h3 : (1 : Int) ≤ y := by omega
  have hq : lo / y ≤ lo := Nat.div_le_self _ _
  have HQ := Lib.hid hq
  clear hq
  go_enter Tryz.func110, Tryz.ntmps110
  go_wp2_with fail
  go_quiet (fail)
  go_wp2_with fail
  go_ret2
  exact ⟨ret_uu (by have hx := HQ.out; rw [← Int.natCast_ediv]; generalize lo / y = q at *; rw [IntKind.wrap_u64]; omega) (by rw [Int.natCast_emod]), below_drewN _⟩

end Go.Proofs.YtokbdleokihdaaaGreatDoor
namespace Go.Proofs.YtokbdleokihdaaaGreatDoor
open Go.RowKit

/-- The order of bytes, by the test 'less' and by equality. -/
theorem cb_less : ∀ a b : List UInt8, Lib.compareBytes a b = if Op.bytesLess a b = true then -1 else if a = b then 0 else 1
  | [], [] => by simp [Lib.compareBytes, Op.bytesLess]
  | [], _ :: _ => by simp [Lib.compareBytes, Op.bytesLess]
  | _ :: _, [] => by simp [Lib.compareBytes, Op.bytesLess]
  | a :: x, b :: y => by
    unfold Lib.compareBytes Op.bytesLess
    by_cases h : a < b
    · rw [if_pos h, if_pos (by simp [h])]
    · rw [if_neg h]
      by_cases h2 : b < a
      · rw [if_pos h2]
        have hne : a ≠ b := fun e => by subst e; exact h h2
        rw [if_neg (by simp [h, hne]), if_neg (by simp [hne])]
      · rw [if_neg h2]
        have he : a = b := by
          rw [← UInt8.toNat_inj]
          have h3 : ¬ a.toNat < b.toNat := h
          have h4 : ¬ b.toNat < a.toNat := h2
          omega
        subst he
        rw [cb_less x y]
        by_cases hl : Op.bytesLess x y = true
        · rw [if_pos hl, if_pos (by simp [hl])]
        · rw [if_neg hl, if_neg (show ¬((decide (a < a) || a == a && Op.bytesLess x y) = true) by simp [hl])]
          by_cases hxy : x = y
          · rw [if_pos hxy, if_pos (by rw [hxy])]
          · rw [if_neg hxy, if_neg (by simp [hxy])]
theorem cmpS_less (a b : ByteArray) : cmpS a b = if Op.bytesLess a.toList b.toList = true then -1 else if a = b then 0 else 1 := by
  unfold cmpS
  rw [cb_less, ← ByteArray.toList_eq, ← ByteArray.toList_eq]
  have hs : a.toList = b.toList ↔ a = b := by
    constructor
    · intro h
      have h2 : a.data.toList = b.data.toList := by rw [← ByteArray.toList_eq, ← ByteArray.toList_eq]; exact h
      cases a; cases b; congr 1; exact Array.toList_inj.1 h2
    · intro h; rw [h]
  simp only [hs]
theorem dco_val (ak ai bk bi : Int) (sa sb : ByteArray) :
    dco ak ai sa bk bi sb = if ak < bk then -1 else if bk < ak then 1 else if ai < bi then -1 else if bi < ai then 1 else if Op.bytesLess sa.toList sb.toList = true then -1 else if sa = sb then 0 else 1 := by
  unfold dco
  rw [cmpS_less]
  simp only [orL]
  unfold cmpI
  by_cases h1 : ak < bk
  · simp [h1]
  · by_cases h2 : bk < ak
    · simp [h1, h2]
    · by_cases h3 : ai < bi
      · simp [h1, h2, h3]
      · by_cases h4 : bi < ai
        · simp [h1, h2, h3, h4]
        · simp only [h1, h2, h3, h4, if_false, if_true]
          by_cases h5 : Op.bytesLess sa.toList sb.toList = true
          · simp [h5]
          · by_cases h6 : sa = sb
            · simp [h6]
            · simp [h5, h6]

set_option maxHeartbeats 1000000 in
theorem refcmp_any (ak ai bk bi : Int) (sa sb : ByteArray) (w : World) :
    Calls Tryz.prog 33 #[.agg #[.int .i64 ak, .int .i64 ai, .string sa], .agg #[.int .i64 bk, .int .i64 bi, .string sb]] w fun e w' => e = .returned (.int .i64 (dco ak ai sa bk bi sb)) ∧ Below w.heap.size w w' := by
  have HV := Lib.hid (dco_val ak ai bk bi sa sb)
  have hB := (boxes2 w #[.int .i64 ak, .int .i64 ai, .string sa] #[.int .i64 bk, .int .i64 bi, .string sb] 27 27).1
  cases d1 : decide (ak < bk)
  · cases d2 : (ak == bk)
    · have d3 : eqD ak ai sa bk bi sb = false := by unfold eqD; rw [d2]; rfl
      have HR : Hid (dco ak ai sa bk bi sb = 1) := by
        show _ = _
        rw [HV.out, if_neg (by simpa using d1), if_pos (by have := d1; have := d2; simp at *; omega)]
      rw [HR.out]
      clear HR HV
      go_enter Tryz.func33, Tryz.ntmps33
      go_wp2_with fail
      go_ret
      exact ⟨rfl, hB⟩
    · have hk : ak = bk := by simpa using d2
      cases d3 : decide (ai < bi)
      · cases d4 : (ai == bi)
        · have d5 : eqD ak ai sa bk bi sb = false := by unfold eqD; rw [d4]; simp
          have HR : Hid (dco ak ai sa bk bi sb = 1) := by
            show _ = _
            rw [HV.out, if_neg (by omega), if_neg (by omega), if_neg (by simpa using d3), if_pos (by have := d3; have := d4; simp at *; omega)]
          rw [HR.out]
          clear HR HV hk
          go_enter Tryz.func33, Tryz.ntmps33
          go_wp2_with fail
          go_ret
          exact ⟨rfl, hB⟩
        · have hi : ai = bi := by simpa using d4
          cases d5 : Op.bytesLess sa.toList sb.toList
          · cases d6 : eqD ak ai sa bk bi sb
            · have HR : Hid (dco ak ai sa bk bi sb = 1) := by
                show _ = _
                rw [HV.out, if_neg (by omega), if_neg (by omega), if_neg (by omega), if_neg (by omega), if_neg (by rw [d5]; simp), if_neg (fun h => by have := eqD_iff.2 ⟨hk, hi, h⟩; rw [d6] at this; cases this)]
              rw [HR.out]
              clear HR HV hk hi
              go_enter Tryz.func33, Tryz.ntmps33
              go_wp2_with fail
              go_ret
              exact ⟨rfl, hB⟩
            · have HR : Hid (dco ak ai sa bk bi sb = 0) := by
                show _ = _
                rw [HV.out, if_neg (by omega), if_neg (by omega), if_neg (by omega), if_neg (by omega), if_neg (by rw [d5]; simp), if_pos (eqD_iff.1 d6).2.2]
              rw [HR.out]
              clear HR HV hk hi
              go_enter Tryz.func33, Tryz.ntmps33
              go_wp2_with fail
              go_ret
              exact ⟨rfl, hB⟩
          · have HR : Hid (dco ak ai sa bk bi sb = -1) := by
              show _ = _
              rw [HV.out, if_neg (by omega), if_neg (by omega), if_neg (by omega), if_neg (by omega), if_pos d5]
            rw [HR.out]
            clear HR HV hk hi
            go_enter Tryz.func33, Tryz.ntmps33
            go_wp2_with fail
            go_ret
            exact ⟨rfl, hB⟩
      · have HR : Hid (dco ak ai sa bk bi sb = -1) := by
          show _ = _
          rw [HV.out, if_neg (by omega), if_neg (by omega), if_pos (by simpa using d3)]
        rw [HR.out]
        clear HR HV hk
        go_enter Tryz.func33, Tryz.ntmps33
        go_wp2_with fail
        go_ret
        exact ⟨rfl, hB⟩
  · have HR : Hid (dco ak ai sa bk bi sb = -1) := by
      show _ = _
      rw [HV.out, if_pos (by simpa using d1)]
    rw [HR.out]
    clear HR HV
    go_enter Tryz.func33, Tryz.ntmps33
    go_wp2_with fail
    go_ret
    exact ⟨rfl, hB⟩
end Go.Proofs.YtokbdleokihdaaaGreatDoor

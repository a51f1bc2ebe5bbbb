/- The table of powers of ten. strconv.FormatUint, FormatInt, Itoa at base 10: the decimal numeral. -/
import Derived.Test.YtokbdleokihdaaaGreatDoorG02
import Derived.Test.YtokbdleokihdaaaGreatDoorShelf
import Derived.Lib.AppendIntMem
import Derived.Lib.ItoaMem
namespace Go.Proofs.YtokbdleokihdaaaGreatDoor
open Go.RowKit

/-- The table of powers of ten is as it is laid. -/
def Pow (w : World) : Prop := Lib.TabIs Tryz.prog w "internal/strconv.uint64pow10" .u64 Lib.pow10Tab
theorem Pow.below {w w' : World} (h : Pow w) (hb : Below w.heap.size w w') : Pow w' := Lib.tabBelow_of_tabIs h w' hb
end Go.Proofs.YtokbdleokihdaaaGreatDoor
namespace Go.Proofs.YtokbdleokihdaaaGreatDoor
open Go.RowKit

theorem below_put (w : World) (o : Obj) (dk : Array UInt8) (k : Nat) : Below w.heap.size w ((Sort.putRow (fun (b : UInt8) => Value.int .u8 (b.toNat : Int)) (w.alloc o) w.heap.size 0 dk).drewN k) := by
  have h := (Below.refl w.heap.size w).alloc (Nat.le_refl _) o
  refine ⟨h.os, h.tape, h.output, by simp [Sort.putRow, Sort.mapBlock, World.drewN], fun j hj => ?_⟩
  rw [← h.block j hj]
  have hne : w.heap.size ≠ j := by omega
  simp [Sort.putRow, Sort.mapBlock, World.drewN, Array.getElem?_modify, hne]

set_option maxHeartbeats 1000000 in
set_option maxRecDepth 100000 in
theorem fmtUin_any (u : Nat) (hu : u < 18446744073709551616) (w : World) (htab : Pow w) :
    Calls Tryz.prog 42 #[.int .u64 (u : Int), .int .i64 10] w fun e w' => e = .returned (.string ⟨(Lib.decDigits u).toArray⟩) ∧ Below w.heap.size w w' := by
  by_cases hs : u < 100
  · have hwr : IntKind.i64.wrap (u : Int) = (u : Int) := by rw [IntKind.wrap_i64]; omega
    go_enter Tryz.func42, Tryz.ntmps42
    go_wp2_with fail
    refine (Tryz.internal_strconv_small u hs _).mono ?_
    rintro e w' ⟨rfl, rfl⟩
    go_wp2_with fail
    go_ret
    exact ⟨rfl, Below.refl _ _⟩
  · have hu1 : 1 ≤ u := by omega
    have hnd20 : Lib.nDigits u ≤ 20 := by have := Lib.numDigits_eq u hu1 hu; split at this <;> omega
    have hb3 : Lib.nDigits u ≤ 24 := by omega
    have hH0 := Lib.holds_zero0 w 90 (Lib.nDigits u) hb3
    have hfmt := Tryz.internal_strconv_formatBase10 w.heap.size 0 24 u (Array.replicate (Lib.nDigits u) 0) (w.alloc (.cells Lib.zeros24 90)) hH0 (by rw [Array.size_replicate]; exact Lib.lt_pow_nDigits u) hu (by rw [Array.size_replicate]; omega)
    rw [Array.size_replicate] at hfmt
    have HH0 := Lib.hid hH0
    have HFm := Lib.hid hfmt
    have HND := Lib.hid (fun W (h : Pow W) => Tryz.internal_strconv_numDigits u hu1 hu W h)
    have HT := Lib.hid (Lib.tabIs_alloc htab (.cells Lib.zeros24 90))
    clear hH0 hfmt htab
    go_enter Tryz.func42, Tryz.ntmps42
    go_wp2_with fail
    change Calls Tryz.prog 55 #[.int .u64 (u : Int)] (w.alloc (.cells Lib.zeros24 90)) _
    refine (HND.out _ HT.out).mono ?_
    rintro e w1 ⟨rfl, rfl⟩
    have hal : Tryz.prog.arrayLen 90 = 24 := by kernel_rfl
    have hsl : ∀ W, (Instr.sliceAt 90 (.pointer (some ⟨w.heap.size, 0, none⟩)) none (some (.int .i64 (Lib.nDigits u : Int))) none).run Tryz.prog W = .ok (.slice (some ⟨w.heap.size, 0, none⟩) (Lib.nDigits u) 24) W := fun W => by
      rw [run_sliceAt_array_h W 90 ⟨w.heap.size, 0, none⟩ (by kernel_rfl) .i64 (Lib.nDigits u : Int) (by omega) (by rw [hal]; omega)]
      rw [hal]
      go_simp
    have HL := Lib.hid (Lib.decDigits_length u)
    generalize hnd : Lib.nDigits u = nd at *
    have HN := Lib.hid hnd
    clear hal hnd
    go_wp2_with fail
    refine HFm.out.mono ?_
    rintro e w2 ⟨rfl, k, v', dk, rfl, hF⟩
    have hcv : (convert 55 9 (.slice (some ⟨w.heap.size, 0, none⟩) nd 24)).run Tryz.prog ((Sort.putRow (fun (b : UInt8) => Value.int .u8 (b.toNat : Int)) (w.alloc (.cells Lib.zeros24 90)) w.heap.size 0 dk).drewN k) = .ok (.string ⟨(Lib.decDigits u).toArray⟩) ((Sort.putRow (fun (b : UInt8) => Value.int .u8 (b.toNat : Int)) (w.alloc (.cells Lib.zeros24 90)) w.heap.size 0 dk).drewN k) := by
      have h := run_convert_bytes_back (P := Tryz.prog) ((Sort.putRow (fun (b : UInt8) => Value.int .u8 (b.toNat : Int)) (w.alloc (.cells Lib.zeros24 90)) w.heap.size 0 dk).drewN k) 55 9 5 ⟨w.heap.size, 0, none⟩ 24 (Lib.decDigits u) Tryz.underlying55 Tryz.underlying5 Tryz.underlying9 (fun j hj => by
        rw [← HN.out] at hF
        rw [Lib.row_is_numeral hF j hj, Lib.add_plain, World.cell?_drewN]
        exact Sort.cell?_putRow (fun (b : UInt8) => Value.int .u8 (b.toNat : Int)) _ w.heap.size 0 _ dk HH0.out (by rw [hF.size, HN.out, Array.size_replicate]) j (by rw [hF.size, HN.out]; rw [HL.out] at hj; exact hj))
      rw [HL.out] at h
      exact h
    have HF := Lib.hid hF
    have HBel : Hid (Below w.heap.size w ((Sort.putRow (fun (b : UInt8) => Value.int .u8 (b.toNat : Int)) (w.alloc (.cells Lib.zeros24 90)) w.heap.size 0 dk).drewN k)) := below_put _ _ _ _
    clear hF
    generalize ((Sort.putRow (fun (b : UInt8) => Value.int .u8 (b.toNat : Int)) (w.alloc (.cells Lib.zeros24 90)) w.heap.size 0 dk).drewN k) = W2 at *
    go_wp2_with fail
    go_ret
    exact ⟨rfl, HBel.out⟩
theorem fmtU_any (u : Nat) (hu : u < 18446744073709551616) (w : World) (htab : Pow w) :
    Calls Tryz.prog 26 #[.int .u64 (u : Int), .int .i64 10] w fun e w' => e = .returned (.string ⟨(Lib.decDigits u).toArray⟩) ∧ Below w.heap.size w w' := by
  have H := Lib.hid (fmtUin_any u hu w htab)
  go_enter Tryz.func26, Tryz.ntmps26
  go_wp2_with fail
  refine H.out.mono ?_
  rintro e w1 ⟨rfl, hb⟩
  go_wp2_with fail
  go_ret
  exact ⟨rfl, hb⟩
theorem fmtI_any (n : Int) (h0 : -9223372036854775808 ≤ n) (h1 : n ≤ 9223372036854775807) (w : World) (htab : Pow w) :
    Calls Tryz.prog 24 #[.int .i64 n, .int .i64 10] w fun e w' => e = .returned (.string ⟨(Lib.itoa n).toArray⟩) ∧ Below w.heap.size w w' := by
  refine (Tryz.strconv_FormatInt_10 n h0 h1 w htab).mono ?_
  rintro e w' ⟨rfl, k, os, rfl⟩
  exact ⟨rfl, Lib.below_grow _ _ (Nat.le_refl _) _ _⟩
end Go.Proofs.YtokbdleokihdaaaGreatDoor

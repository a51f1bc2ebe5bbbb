/- The document's name of a segment. -/
import Derived.Test.YtnpgjlhnlakgpaaDoorWalNm
import Derived.Test.YtnpgjlhnlakgpaaDoorU8
import Derived.Test.YtnpgjlhnlakgpaaDoorKeep
import Derived.Laws.IdiomStrings
namespace Go.Proofs.YtnpgjlhnlakgpaaDoor
open Go.RowKit

theorem digs_cons : ∀ (k n : Nat), digs (k + 1) n = UInt8.ofNat (48 + n / 10 ^ k % 10) :: digs k n
  | 0, n => by simp [digs]
  | k + 1, n => by
    have h := digs_cons k (n / 10)
    show digs (k + 1) (n / 10) ++ [UInt8.ofNat (48 + n % 10)] = _
    rw [h, Nat.div_div_eq_div_mul, List.cons_append]
    congr 2
    rw [Nat.pow_succ, Nat.mul_comm]
theorem conv_one (w : World) (a : UInt8) : (convert 49 9 (.slice (some ⟨w.heap.size, 0, none⟩) 1 1)).run Tryd.prog (w.alloc (.cells #[.int .u8 (a.toNat : Int)] 5)) = .ok (.string (bs [a])) (w.alloc (.cells #[.int .u8 (a.toNat : Int)] 5)) := by
  refine run_convert_bytes_back (P := Tryd.prog) _ 49 9 5 ⟨w.heap.size, 0, none⟩ 1 [a] Tryd.underlying49 Tryd.underlying5 Tryd.underlying9 fun j hj => ?_
  rw [Lib.add_plain, Nat.zero_add, World.cell?_alloc_new]
  match j, hj with
  | 0, _ => rfl
set_option maxRecDepth 100000 in
set_option maxHeartbeats 4000000 in
theorem rname_any (n : Nat) (h1 : n < 9000000000000000000) (w : World) : Calls Tryd.prog 43 #[.int .i64 (n : Int)] w fun e w' => e = .returned (.string (nameN n)) ∧ Below w.heap.size w w' := by
  go_enter Tryd.func43, Tryd.ntmps43
  go_wp2_with fail
  go_loopw [0, 3, 4] (fun nv sv iv wr => ∃ (i q : Nat), i ≤ 12 ∧ iv = .int .i64 (i : Int) ∧ nv = .int .i64 (q : Int) ∧ q < 9000000000000000000 ∧ sv = .string (bs (digs i n)) ∧ Below w.heap.size w wr ∧ Hid (q = n / 10 ^ i)) (fun _ _ iv _ => 12 - (intOf iv).toNat)
  case atStart => exact ⟨0, n, by omega, rfl, rfl, h1, rfl, Below.refl _ _, by show n = n / 1; rw [Nat.div_one]⟩
  case round =>
    obtain ⟨i, q, hi, rfl, rfl, hq, rfl, hb, HQ⟩ := hrel
    have HB := Lib.hid hb
    clear hb
    by_cases hlt : i < 12
    · have hli : (i : Int) < 12 := by omega
      obtain ⟨c, hc⟩ : ∃ c : UInt8, UInt8.ofNat (48 + q % 10) = c := ⟨_, rfl⟩
      have hct : c.toNat = 48 + q % 10 := by rw [← hc, UInt8.toNat_ofNat']; omega
      have HD : Hid (bs [c] ++ bs (digs i n) = bs (digs (i + 1) n)) := by
        show _ = _
        rw [bs_append, digs_cons, ← HQ.out, hc]; rfl
      have hz : (bs (digs i n)).size = i := by rw [bs_size, digs_len]
      have hz1 : (bs [c]).size = 1 := by rw [bs_size]; rfl
      obtain ⟨S, hS⟩ : ∃ S, bs (digs i n) = S := ⟨_, rfl⟩
      rw [hS] at HD hz ⊢
      obtain ⟨C, hC⟩ : ∃ C : Int, (c.toNat : Int) = C := ⟨_, rfl⟩
      have hcv := conv_one wr c
      rw [hC] at hcv
      obtain ⟨T, hT⟩ : ∃ T, bs [c] = T := ⟨_, rfl⟩
      rw [hT] at hcv HD hz1
      obtain ⟨QI, hQI⟩ : ∃ QI : Int, (q : Int) = QI := ⟨_, rfl⟩
      have q1 : QI.tmod 10 = C - 48 := by rw [← hQI, Int.tmod_eq_emod_of_nonneg (by omega)]; omega
      have q2 : IntKind.i64.wrap (48 + (C - 48)) = C := by rw [IntKind.wrap_i64]; omega
      have q2' : IntKind.i64.wrap (48 + QI.tmod 10) = C := by rw [q1]; exact q2
      have q3 : IntKind.u8.wrap C = C := by rw [IntKind.wrap_u8]; omega
      have q4 : QI.tdiv 10 = ((q / 10 : Nat) : Int) := by rw [← hQI, Int.tdiv_eq_ediv_of_nonneg (by omega)]; omega
      obtain ⟨Q1, hQ1⟩ : ∃ Q1, q / 10 = Q1 := ⟨_, rfl⟩
      have HQ1 : Hid (Q1 = n / 10 ^ (i + 1)) := by show _ = _; rw [← hQ1, HQ.out, Nat.div_div_eq_div_mul, Nat.pow_succ]
      have hq1 : Q1 < 9000000000000000000 := by omega
      rw [hQ1] at q4
      have q5 : IntKind.i64.wrap ((Q1 : Nat) : Int) = (Q1 : Int) := by rw [IntKind.wrap_i64]; omega
      rw [hQI]
      clear hS hC hT hc hct hQI hQ1 hq q1 q2
      go_wp2_with fail
      go_roundw
      case rel => exact ⟨i + 1, Q1, by omega, by go_num, rfl, hq1, by rw [HD.out], HB.out.alloc (by have := HB.out.size; omega) _, HQ1⟩
      case measure => simp [intOf]; omega
    · have hi12 : i = 12 := by omega
      have hli : ¬ (i : Int) < 12 := by omega
      have hz : (bs (digs i n)).size = 12 := by rw [bs_size, digs_len, hi12]
      have HN : Hid ((ByteArray.mk #[108, 111, 103, 46]) ++ bs (digs i n) = nameN n) := by
        show bs preL ++ bs (digs i n) = _
        rw [bs_append, hi12]; rfl
      obtain ⟨S, hS⟩ : ∃ S, bs (digs i n) = S := ⟨_, rfl⟩
      rw [hS] at HN hz ⊢
      obtain ⟨NM, hNM⟩ : ∃ NM, nameN n = NM := ⟨_, rfl⟩
      rw [hNM] at HN
      have HNM := Lib.hid hNM
      have hN := HN.out
      clear hS hNM hi12 hi
      go_wp2_with fail
      go_ret
      exact ⟨by rw [HNM.out]; rfl, HB.out⟩
end Go.Proofs.YtnpgjlhnlakgpaaDoor

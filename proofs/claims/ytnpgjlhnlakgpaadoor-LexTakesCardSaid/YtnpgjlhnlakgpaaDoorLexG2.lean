/- The document's symbol. -/
import Derived.Test.YtnpgjlhnlakgpaaDoorLexG1
import Derived.Lib.SlBytesConst
namespace Go.Proofs.YtnpgjlhnlakgpaaDoor
open Go.RowKit

theorem cell_mark (w : World) (x : Array Value) (t : TypeId) (mk : Nat × Nat) (k : Nat) : (w.alloc (.cells x t mk)).cell? ⟨w.heap.size, k, none⟩ = x[k]? := by
  have hh : (w.alloc (.cells x t mk)).heap[w.heap.size]? = some (.cells x t mk) := by
    show (w.heap.push _)[w.heap.size]? = _
    simp
  unfold World.cell?
  rw [hh]
  rfl
/-- The symbols of one byte. -/
def symL : List UInt8 := [40, 41, 44, 46, 59, 42, 43, 45, 47, 61, 60, 62]
theorem sym1_eq (c : UInt8) : sym1 c = symL.contains c := rfl
theorem sy_in {k : Nat} (hk : k < 12) {c : UInt8} (h : symL.getD k 0 = c) : symL.contains c = true := by
  rw [List.contains_iff_mem, ← h, List.getD_eq_getElem?_getD, List.getElem?_eq_getElem (show k < symL.length from hk)]
  exact List.getElem_mem _
theorem sy_out {c : UInt8} (h : ∀ j, j < 12 → symL.getD j 0 ≠ c) : ¬ symL.contains c = true := by
  intro hc
  rw [List.contains_iff_mem] at hc
  obtain ⟨j, hj, rfl⟩ := List.getElem_of_mem hc
  have := h j hj
  rw [List.getD_eq_getElem?_getD, List.getElem?_eq_getElem hj] at this
  exact this rfl
/-- The world ahead of the loop over the symbols. -/
structure SY (w W : World) : Prop where
  c : ∀ k, k < 12 → W.cell? ⟨w.heap.size + 1, k, none⟩ = some (.int .u8 ((symL.getD k 0).toNat : Int))
  g : GB W w.heap.size
  b : Below w.heap.size w W
theorem sy_new (w : World) : SY w ((w.alloc (.cells #[Value.int .i64 0, .string ⟨#[]⟩, .int .i64 0, .int .i64 0, .string ⟨#[]⟩, .int .i64 0, .int .i64 0, .int .i64 0, .int .i64 0, .bool false] 92)).alloc (.cells #[Value.int .u8 40, Value.int .u8 41, Value.int .u8 44, Value.int .u8 46, Value.int .u8 59, Value.int .u8 42, Value.int .u8 43, Value.int .u8 45, Value.int .u8 47, Value.int .u8 61, Value.int .u8 60, Value.int .u8 62] 5 (12, 13))) := by
  refine ⟨fun k hk => ?_, (GB.new w _).below ((Below.refl _ _).alloc (Nat.le_refl _) _), (gb_new w).alloc (by simp) _⟩
  have h := cell_mark (w.alloc (.cells #[Value.int .i64 0, .string ⟨#[]⟩, .int .i64 0, .int .i64 0, .string ⟨#[]⟩, .int .i64 0, .int .i64 0, .int .i64 0, .int .i64 0, .bool false] 92)) #[Value.int .u8 40, Value.int .u8 41, Value.int .u8 44, Value.int .u8 46, Value.int .u8 59, Value.int .u8 42, Value.int .u8 43, Value.int .u8 45, Value.int .u8 47, Value.int .u8 61, Value.int .u8 60, Value.int .u8 62] 5 (12, 13) k
  rw [World.size_alloc] at h
  rw [h]
  match k, hk with
  | 0, _ => rfl
  | 1, _ => rfl
  | 2, _ => rfl
  | 3, _ => rfl
  | 4, _ => rfl
  | 5, _ => rfl
  | 6, _ => rfl
  | 7, _ => rfl
  | 8, _ => rfl
  | 9, _ => rfl
  | 10, _ => rfl
  | 11, _ => rfl

set_option maxRecDepth 100000 in
set_option maxHeartbeats 4000000 in
theorem rsymbol_any {s : ByteArray} {i : Nat} (hs : s.size ≤ 4000) (hi : i < s.size) (w : World) :
    Calls Tryd.prog 90 #[.string s, .int .i64 (i : Int)] w fun e w' => e = .returned (gotV (symF (fromS s i)) i) ∧ Below w.heap.size w w' := by
  obtain ⟨c, hc⟩ : ∃ c, s[i] = c := ⟨_, rfl⟩
  have HF := Lib.hid (from_lt hi)
  rw [hc] at HF
  have HE : Hid (i = i) := rfl
  by_cases h1 : i + 1 < s.size
  · have h1i : (i : Int) + 1 < (s.size : Int) := by omega
    obtain ⟨Tw, hTw⟩ : ∃ Tw, s.extract i (i + 2) = Tw := ⟨_, rfl⟩
    have HT := Lib.hid (hTw.symm.trans (ext_from s i 2))
    have hTl : Tw.toList = (fromS s i).take 2 := by rw [ByteArray.toList_eq, HT.out]; rfl
    cases h2 : sym2 ((fromS s i).take 2)
    · have hno : (Tw.toList == [60, 61]) = false ∧ (Tw.toList == [62, 61]) = false ∧ (Tw.toList == [60, 62]) = false := by
        simp only [sym2, decide_eq_false_iff_not, not_or] at h2
        rw [hTl]
        simpa using h2
      obtain ⟨n1, n2, n3⟩ := hno
      have HS : Hid (symF (fromS s i) = if symL.contains c then .ok 4 ⟨((fromS s i).take 1).toArray⟩ Dt.zero 1 else .bad 40 0) := by
        show _ = _
        unfold symF
        rw [if_neg (by rw [h2]; decide), HF.out]
        rfl
      obtain ⟨T1, hT1⟩ : ∃ T1, s.extract i (i + 1) = T1 := ⟨_, rfl⟩
      have HT1 : Hid ((⟨((fromS s i).take 1).toArray⟩ : ByteArray) = T1) := by show _ = _; rw [← hT1, ext_from s i 1]; rfl
      clear h2 hTl
      go_enter Tryd.func90, Tryd.ntmps90
      have hcv := Lib.run_convert_bytes_const (P := Tryd.prog) (w.alloc (.cells #[Value.int .i64 0, .string ⟨#[]⟩, .int .i64 0, .int .i64 0, .string ⟨#[]⟩, .int .i64 0, .int .i64 0, .int .i64 0, .int .i64 0, .bool false] 92)) 49 5 #[Value.int .u8 40, Value.int .u8 41, Value.int .u8 44, Value.int .u8 46, Value.int .u8 59, Value.int .u8 42, Value.int .u8 43, Value.int .u8 45, Value.int .u8 47, Value.int .u8 61, Value.int .u8 60, Value.int .u8 62] 12 12 Tryd.underlying49 Tryd.underlying5
      have hmk : (#[Value.int .u8 40, Value.int .u8 41, Value.int .u8 44, Value.int .u8 46, Value.int .u8 59, Value.int .u8 42, Value.int .u8 43, Value.int .u8 45, Value.int .u8 47, Value.int .u8 61, Value.int .u8 60, Value.int .u8 62].size, #[Value.int .u8 40, Value.int .u8 41, Value.int .u8 44, Value.int .u8 46, Value.int .u8 59, Value.int .u8 42, Value.int .u8 43, Value.int .u8 45, Value.int .u8 47, Value.int .u8 61, Value.int .u8 60, Value.int .u8 62].size + 1) = (12, 13) := rfl
      rw [hmk] at hcv
      simp only [World.size_alloc] at hcv
      clear hmk
      have HY := Lib.hid (sy_new w)
      go_wp2_with fail
      generalize (w.alloc (.cells #[Value.int .i64 0, .string ⟨#[]⟩, .int .i64 0, .int .i64 0, .string ⟨#[]⟩, .int .i64 0, .int .i64 0, .int .i64 0, .int .i64 0, .bool false] 92)).alloc (.cells #[Value.int .u8 40, Value.int .u8 41, Value.int .u8 44, Value.int .u8 46, Value.int .u8 59, Value.int .u8 42, Value.int .u8 43, Value.int .u8 45, Value.int .u8 47, Value.int .u8 61, Value.int .u8 60, Value.int .u8 62] 5 (12, 13)) = W3 at *
      clear hcv
      go_loopw [37, 7] (fun iv _ wr => ∃ k : Nat, k ≤ 12 ∧ iv = .int .i64 (k : Int) ∧ wr = W3 ∧ Hid (∀ j, j < k → symL.getD j 0 ≠ c)) (fun iv _ _ => 12 - (intOf iv).toNat)
      case atStart => exact ⟨0, by omega, rfl, rfl, fun j hj => by omega⟩
      case round =>
        obtain ⟨k, hk, rfl, rfl, HQ⟩ := hrel
        by_cases hlt : k < 12
        · have hlti : (k : Int) < 12 := by omega
          have hcell := HY.out.c k hlt
          obtain ⟨x, hx⟩ : ∃ x, symL.getD k 0 = x := ⟨_, rfl⟩
          rw [hx] at hcell
          have HX := Lib.hid hx
          clear hx
          by_cases hxc : x = c
          · subst hxc
            have HR : Hid (symF (fromS s i) = .ok 4 T1 Dt.zero 1) := by
              show _ = _
              rw [HS.out, if_pos (sy_in hlt HX.out), HT1.out]
            obtain ⟨⟨tc0, tc1, tc2, tc3, tc4, tc5, tc6, tc7, tc8, tc9⟩, tf0, tf1, tf2, tf3, tf4, tf5, tf6, tf7, tf8, tf9⟩ := HY.out.g.c_f; have tlt := HY.out.g.lt
            go_wp2_with fail
            refine bodyPost_ret (v := gotV (.ok 4 T1 Dt.zero 1) i) (by have hke := HE.out; simp [results, Tryd.results90, go_sem, Dt.zero, gotV, tc0, tc1, tc2, tc3, tc4, tc5, tc6, tc7, tc8, tc9] <;> omega) rfl ⟨by rw [HR.out], below_put10 HY.out.b (Nat.le_refl _) _ _ _ _ _ _ _ _ _ _⟩
          · have hxi : ¬ (x.toNat : Int) = (c.toNat : Int) := fun h => hxc (UInt8.toNat_inj.1 (by omega))
            have hxb : ((x.toNat : Int) == (c.toNat : Int)) = false := by simpa using hxi
            have HN : Hid (∀ j, j < k + 1 → symL.getD j 0 ≠ c) := by
              intro j hj
              rcases Nat.lt_succ_iff_lt_or_eq.1 hj with h | rfl
              · exact HQ.out j h
              · rw [HX.out]; exact hxc
            clear HQ hxc
            go_wp2_with fail
            go_roundw
            case rel => exact ⟨k + 1, by omega, by go_num, trivial, HN⟩
            case measure => simp [intOf]; omega
        · have hlti : ¬ (k : Int) < 12 := by omega
          have HR : Hid (symF (fromS s i) = .bad 40 0) := by
            show _ = _
            rw [HS.out, if_neg (sy_out (fun j hj => HQ.out j (by omega)))]
          go_wp2_with (first | (go_at_call 116; refine (wrong_any _ _ _).mono ?_; rintro e w5 ⟨rfl, hB5⟩; have HG5 := Lib.hid (HY.out.g.below hB5); have HB5 := Lib.hid (HY.out.b.trans (hB5.mono HY.out.b.size)); clear hB5; obtain ⟨⟨tc0, tc1, tc2, tc3, tc4, tc5, tc6, tc7, tc8, tc9⟩, tf0, tf1, tf2, tf3, tf4, tf5, tf6, tf7, tf8, tf9⟩ := HG5.out.c_f; have tlt := HG5.out.lt) | fail)
          refine bodyPost_ret (v := gotV (.bad 40 0) i) (by have hke := HE.out; simp [results, Tryd.results90, go_sem, gotV, tc0, tc1, tc2, tc3, tc4, tc5, tc6, tc7, tc8, tc9] <;> omega) rfl ⟨by rw [HR.out], below_put10 HB5.out (Nat.le_refl _) _ _ _ _ _ _ _ _ _ _⟩
    · have HR : Hid (symF (fromS s i) = .ok 4 Tw Dt.zero 2) := by
        show _ = _
        unfold symF
        rw [if_pos h2, HT.out]
        rfl
      simp only [sym2, decide_eq_true_eq] at h2
      rw [← hTl] at h2
      have hcs : ((Tw.toList == [60, 61]) = true) ∨ ((Tw.toList == [60, 61]) = false ∧ (Tw.toList == [62, 61]) = true) ∨ ((Tw.toList == [60, 61]) = false ∧ (Tw.toList == [62, 61]) = false ∧ (Tw.toList == [60, 62]) = true) := by
        rcases h2 with h2 | h2 | h2 <;> (rw [h2]; decide)
      clear h2 hTl
      have HB1 := Lib.hid (gb_new w)
      have HG1 := Lib.hid (GB.new w 92)
      rcases hcs with n1 | ⟨n1, n2⟩ | ⟨n1, n2, n3⟩
      all_goals
        go_enter Tryd.func90, Tryd.ntmps90
        go_wp2_with fail
        refine bodyPost_ret (v := gotV (.ok 4 Tw Dt.zero 2) i) (by simp [results, Tryd.results90, go_sem, Dt.zero, gotV]) rfl ⟨by rw [HR.out], (Below.refl _ _).alloc (Nat.le_refl _) _⟩
  · have h1i : ¬ (i : Int) + 1 < (s.size : Int) := by omega
    have HS : Hid (symF (fromS s i) = if symL.contains c then .ok 4 ⟨((fromS s i).take 1).toArray⟩ Dt.zero 1 else .bad 40 0) := by
      show _ = _
      have hnil : fromS s (i + 1) = [] := from_ge (by omega)
      unfold symF
      rw [HF.out, hnil, if_neg (by simp [sym2])]
      rfl
    obtain ⟨T1, hT1⟩ : ∃ T1, s.extract i (i + 1) = T1 := ⟨_, rfl⟩
    have HT1 : Hid ((⟨((fromS s i).take 1).toArray⟩ : ByteArray) = T1) := by show _ = _; rw [← hT1, ext_from s i 1]; rfl
    go_enter Tryd.func90, Tryd.ntmps90
    have hcv := Lib.run_convert_bytes_const (P := Tryd.prog) (w.alloc (.cells #[Value.int .i64 0, .string ⟨#[]⟩, .int .i64 0, .int .i64 0, .string ⟨#[]⟩, .int .i64 0, .int .i64 0, .int .i64 0, .int .i64 0, .bool false] 92)) 49 5 #[Value.int .u8 40, Value.int .u8 41, Value.int .u8 44, Value.int .u8 46, Value.int .u8 59, Value.int .u8 42, Value.int .u8 43, Value.int .u8 45, Value.int .u8 47, Value.int .u8 61, Value.int .u8 60, Value.int .u8 62] 12 12 Tryd.underlying49 Tryd.underlying5
    have hmk : (#[Value.int .u8 40, Value.int .u8 41, Value.int .u8 44, Value.int .u8 46, Value.int .u8 59, Value.int .u8 42, Value.int .u8 43, Value.int .u8 45, Value.int .u8 47, Value.int .u8 61, Value.int .u8 60, Value.int .u8 62].size, #[Value.int .u8 40, Value.int .u8 41, Value.int .u8 44, Value.int .u8 46, Value.int .u8 59, Value.int .u8 42, Value.int .u8 43, Value.int .u8 45, Value.int .u8 47, Value.int .u8 61, Value.int .u8 60, Value.int .u8 62].size + 1) = (12, 13) := rfl
    rw [hmk] at hcv
    simp only [World.size_alloc] at hcv
    clear hmk
    have HY := Lib.hid (sy_new w)
    go_wp2_with fail
    generalize (w.alloc (.cells #[Value.int .i64 0, .string ⟨#[]⟩, .int .i64 0, .int .i64 0, .string ⟨#[]⟩, .int .i64 0, .int .i64 0, .int .i64 0, .int .i64 0, .bool false] 92)).alloc (.cells #[Value.int .u8 40, Value.int .u8 41, Value.int .u8 44, Value.int .u8 46, Value.int .u8 59, Value.int .u8 42, Value.int .u8 43, Value.int .u8 45, Value.int .u8 47, Value.int .u8 61, Value.int .u8 60, Value.int .u8 62] 5 (12, 13)) = W3 at *
    clear hcv
    go_loopw [37, 7] (fun iv _ wr => ∃ k : Nat, k ≤ 12 ∧ iv = .int .i64 (k : Int) ∧ wr = W3 ∧ Hid (∀ j, j < k → symL.getD j 0 ≠ c)) (fun iv _ _ => 12 - (intOf iv).toNat)
    case atStart => exact ⟨0, by omega, rfl, rfl, fun j hj => by omega⟩
    case round =>
      obtain ⟨k, hk, rfl, rfl, HQ⟩ := hrel
      by_cases hlt : k < 12
      · have hlti : (k : Int) < 12 := by omega
        have hcell := HY.out.c k hlt
        obtain ⟨x, hx⟩ : ∃ x, symL.getD k 0 = x := ⟨_, rfl⟩
        rw [hx] at hcell
        have HX := Lib.hid hx
        clear hx
        by_cases hxc : x = c
        · subst hxc
          have HR : Hid (symF (fromS s i) = .ok 4 T1 Dt.zero 1) := by
            show _ = _
            rw [HS.out, if_pos (sy_in hlt HX.out), HT1.out]
          obtain ⟨⟨tc0, tc1, tc2, tc3, tc4, tc5, tc6, tc7, tc8, tc9⟩, tf0, tf1, tf2, tf3, tf4, tf5, tf6, tf7, tf8, tf9⟩ := HY.out.g.c_f; have tlt := HY.out.g.lt
          go_wp2_with fail
          refine bodyPost_ret (v := gotV (.ok 4 T1 Dt.zero 1) i) (by have hke := HE.out; simp [results, Tryd.results90, go_sem, Dt.zero, gotV, tc0, tc1, tc2, tc3, tc4, tc5, tc6, tc7, tc8, tc9] <;> omega) rfl ⟨by rw [HR.out], below_put10 HY.out.b (Nat.le_refl _) _ _ _ _ _ _ _ _ _ _⟩
        · have hxi : ¬ (x.toNat : Int) = (c.toNat : Int) := fun h => hxc (UInt8.toNat_inj.1 (by omega))
          have hxb : ((x.toNat : Int) == (c.toNat : Int)) = false := by simpa using hxi
          have HN : Hid (∀ j, j < k + 1 → symL.getD j 0 ≠ c) := by
            intro j hj
            rcases Nat.lt_succ_iff_lt_or_eq.1 hj with h | rfl
            · exact HQ.out j h
            · rw [HX.out]; exact hxc
          clear HQ hxc
          go_wp2_with fail
          go_roundw
          case rel => exact ⟨k + 1, by omega, by go_num, trivial, HN⟩
          case measure => simp [intOf]; omega
      · have hlti : ¬ (k : Int) < 12 := by omega
        have HR : Hid (symF (fromS s i) = .bad 40 0) := by
          show _ = _
          rw [HS.out, if_neg (sy_out (fun j hj => HQ.out j (by omega)))]
        go_wp2_with (first | (go_at_call 116; refine (wrong_any _ _ _).mono ?_; rintro e w5 ⟨rfl, hB5⟩; have HG5 := Lib.hid (HY.out.g.below hB5); have HB5 := Lib.hid (HY.out.b.trans (hB5.mono HY.out.b.size)); clear hB5; obtain ⟨⟨tc0, tc1, tc2, tc3, tc4, tc5, tc6, tc7, tc8, tc9⟩, tf0, tf1, tf2, tf3, tf4, tf5, tf6, tf7, tf8, tf9⟩ := HG5.out.c_f; have tlt := HG5.out.lt) | fail)
        refine bodyPost_ret (v := gotV (.bad 40 0) i) (by have hke := HE.out; simp [results, Tryd.results90, go_sem, gotV, tc0, tc1, tc2, tc3, tc4, tc5, tc6, tc7, tc8, tc9] <;> omega) rfl ⟨by rw [HR.out], below_put10 HB5.out (Nat.le_refl _) _ _ _ _ _ _ _ _ _ _⟩
end Go.Proofs.YtnpgjlhnlakgpaaDoor

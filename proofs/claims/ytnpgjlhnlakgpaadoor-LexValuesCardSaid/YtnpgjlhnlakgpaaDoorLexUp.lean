/- The document's Upper and Lower. -/
import Derived.Test.YtnpgjlhnlakgpaaDoorLexF1
import Derived.Test.YtnpgjlhnlakgpaaDoorLexA
import Derived.Lib.ConvBytes
import Derived.Laws.IdiomStrings
import Derived.WalkKit
import Derived.Deep.DeepCutAuto
namespace Go.Proofs.YtnpgjlhnlakgpaaDoor
open Go.RowKit Go.Lib

/-- Bytes in a block of the call's own. -/
def ByA (w : World) (k : Nat) (l : List UInt8) : Prop := ∀ j, j < l.length → w.cell? ⟨k, j, none⟩ = some (.int .u8 ((l.getD j 0).toNat : Int)) ∧ w.frozen? ⟨k, j, none⟩ = false
theorem ByA.of_block {w w' : World} {k : Nat} {l : List UInt8} (h : ByA w k l) (hb : w'.heap[k]? = w.heap[k]?) : ByA w' k l := fun j hj =>
  ⟨by rw [World.cell?_of_block (w := w) hb]; exact (h j hj).1, by rw [World.frozen?_of_block (w := w) hb]; exact (h j hj).2⟩
theorem ByA.new (w : World) (e : TypeId) (s : ByteArray) : ByA (bytesWorld w e s) w.heap.size s.data.toList := fun j hj => by
  have hj' : j < s.size := by simpa using hj
  refine ⟨bytesWorld_cell w e s j hj', ?_⟩
  unfold World.frozen?
  rw [bytesWorld_at_new]
  have : s.size ≤ (bytesCells w e s).size := by simp [bytesCells]
  simp
  omega
theorem Below.newBytes (w : World) (e : TypeId) (s : ByteArray) : Below w.heap.size w (bytesWorld w e s) :=
  ⟨rfl, rfl, rfl, by rw [bytesWorld_size]; omega, fun k hk => bytesWorld_at_old w e s k hk⟩
theorem setcB {w : World} {b i j : Nat} {u v : Value} (hij : i ≠ j) (h : w.cell? ⟨b, j, none⟩ = some v) : (w.setCell ⟨b, i, none⟩ u).cell? ⟨b, j, none⟩ = some v := by
  have hne : (⟨b, i, none⟩ : Addr) ≠ ⟨b, j, none⟩ := fun e => hij (Addr.mk.inj e).2.1
  rw [World.cell?_setCell_other (h := hne)]; exact h
theorem setsB {w : World} {b i : Nat} {u v : Value} (h : w.cell? ⟨b, i, none⟩ = some v) : (w.setCell ⟨b, i, none⟩ u).cell? ⟨b, i, none⟩ = some u := World.cell?_setCell_same _ _ _ h
theorem setfB {w : World} {b i j : Nat} {u : Value} {x : Bool} (h : w.frozen? ⟨b, j, none⟩ = x) : (w.setCell ⟨b, i, none⟩ u).frozen? ⟨b, j, none⟩ = x := by rw [World.frozen?_setCell]; exact h
theorem ByA.set {w : World} {k : Nat} {l : List UInt8} (h : ByA w k l) {x : Nat} (hx : x < l.length) (c : UInt8) : ByA (w.setCell ⟨k, x, none⟩ (.int .u8 (c.toNat : Int))) k (l.set x c) := fun j hj => by
  have hj' : j < l.length := by simpa using hj
  refine ⟨?_, setfB (h j hj').2⟩
  by_cases hjx : j = x
  · subst hjx
    rw [setsB (h j hj').1]
    simp [List.getD_eq_getElem?_getD, hj']
  · rw [setcB (fun e => hjx e.symm) (h j hj').1]
    have hxj : ¬ x = j := fun e => hjx e.symm
    simp [List.getD_eq_getElem?_getD, hxj]
theorem ByA.back {w : World} {k : Nat} {l : List UInt8} (h : ByA w k l) (n cap : Nat) (hn : l.length = n) :
    (convert 49 9 (.slice (some ⟨k, 0, none⟩) n cap)).run Tryd.prog w = .ok (.string ⟨l.toArray⟩) w := by
  subst hn
  refine run_convert_bytes_back (P := Tryd.prog) w 49 9 5 ⟨k, 0, none⟩ cap l Tryd.underlying49 Tryd.underlying5 Tryd.underlying9 fun j hj => ?_
  have hadd : (⟨k, 0, none⟩ : Addr).add j = ⟨k, j, none⟩ := by unfold Addr.add; split <;> simp_all
  rw [hadd, (h j hj).1]
  simp [List.getD_eq_getElem?_getD, hj]
/-- The first k changed. -/
def chg (f : UInt8 → UInt8) (l : List UInt8) (k : Nat) : List UInt8 := (l.take k).map f ++ l.drop k
theorem chg_length (f : UInt8 → UInt8) (l : List UInt8) (k : Nat) : (chg f l k).length = l.length := by simp [chg]; omega
theorem chg_zero (f : UInt8 → UInt8) (l : List UInt8) : chg f l 0 = l := by simp [chg]
theorem chg_all (f : UInt8 → UInt8) (l : List UInt8) : chg f l l.length = l.map f := by simp [chg]
theorem chg_at (f : UInt8 → UInt8) (l : List UInt8) (k : Nat) (h : k < l.length) : (chg f l k).getD k 0 = l[k] := by
  have e : ((l.take k).map f).length = k := by simp; omega
  unfold chg
  rw [List.getD_eq_getElem?_getD, List.getElem?_append_right (by omega), e]
  simp [h]
theorem chg_next (f : UInt8 → UInt8) (l : List UInt8) (k : Nat) (h : k < l.length) : (chg f l k).set k (f l[k]) = chg f l (k + 1) := by
  have e : ((l.take k).map f).length = k := by simp; omega
  unfold chg
  rw [List.set_append_right _ _ (by omega), e, Nat.sub_self, List.drop_eq_getElem_cons h, List.set_cons_zero, List.take_succ_eq_append_getElem h, List.map_append, List.append_assoc]
  rfl
theorem chg_same (f : UInt8 → UInt8) (l : List UInt8) (k : Nat) (h : k < l.length) (hf : f l[k] = l[k]) : chg f l (k + 1) = chg f l k := by
  rw [← chg_next f l k h, hf]
  have hk : k < (chg f l k).length := by rw [chg_length]; exact h
  have := chg_at f l k h
  rw [List.getD_eq_getElem?_getD, List.getElem?_eq_getElem hk] at this
  simp only [Option.getD_some] at this
  rw [← this]
  exact List.set_getElem_self hk

set_option maxHeartbeats 4000000 in
theorem upper_any (s : ByteArray) (w : World) (hs : s.size < 4611686018427387904) : Calls Tryd.prog 20 #[.string s] w fun e w' => e = .returned (.string ⟨(s.data.toList.map upB).toArray⟩) ∧ Below w.heap.size w w' := by
  have hcv := fun (w : World) (s : ByteArray) => Lib.run_convert_string_bytes (P := Tryd.prog) w 9 49 5 s Tryd.underlying9 Tryd.underlying49 Tryd.underlying5
  go_enter Tryd.func20, Tryd.ntmps20
  go_upto_region 2 with fail
  have hB2 := Below.newBytes w 5 s
  have BY0 := ByA.new w 5 s
  have hz : w.heap.size < (bytesWorld w 5 s).heap.size := by rw [bytesWorld_size]; omega
  have hll : s.data.toList.length = s.size := by simp
  generalize bytesWorld w 5 s = w2 at *
  generalize grownCap w s.size 0 5 = cb at *
  have HQ : Hid (∃ l, s.data.toList = l) := ⟨_, rfl⟩
  obtain ⟨l, hl⟩ := HQ.out
  rw [hl] at BY0 hll
  have HL0 := Lib.hid hl
  clear HQ hl
  generalize s.size = n at *
  have HB2 := Lib.hid hB2
  have HBY := Lib.hid BY0
  have HLL := Lib.hid hll
  clear hcv hB2 BY0 hll
  go_wp2_with fail
  go_loopw [9] (fun iv wr => ∃ k : Nat, k ≤ n ∧ iv = .int .i64 (k : Int) ∧ Below w.heap.size w wr ∧ ByA wr w.heap.size (chg upB l k) ∧ w.heap.size < wr.heap.size) (fun iv _ => n - (intOf iv).toNat)
  case atStart => exact ⟨0, Nat.zero_le _, rfl, HB2.out, by rw [chg_zero]; exact HBY.out, hz⟩
  case round =>
    obtain ⟨k, hk, rfl, hB, hY, hzr⟩ := hrel
    have HB := Lib.hid hB
    have HY := Lib.hid hY
    clear hB hY
    by_cases hlt : k < n
    · have hkl : k < l.length := by rw [HLL.out]; exact hlt
      have hlti : (k : Int) < (n : Int) := by omega
      obtain ⟨hb, hbf⟩ := HY.out k (by rw [chg_length]; exact hkl)
      rw [chg_at _ _ _ hkl] at hb
      have HN := Lib.hid (chg_next upB l k hkl)
      have HS := Lib.hid (chg_same upB l k hkl)
      have HKL := Lib.hid hkl
      generalize hc : l[k] = c at *
      clear hc hkl
      have hcn := c.toNat_lt
      rcases (show (c.toNat : Int) < 97 ∨ (97 ≤ (c.toNat : Int) ∧ (c.toNat : Int) ≤ 122) ∨ 122 < (c.toNat : Int) from by omega) with h | ⟨h, h'⟩ | h
      · have HF : Hid (upB c = c) := by
          show upB c = c
          unfold upB
          rw [if_neg (by omega)]
        go_wp2_with fail
        go_roundw
        case rel => exact ⟨k + 1, by omega, by go_num, HB.out, by rw [HS.out HF.out]; exact HY.out, hzr⟩
        case measure => simp [intOf]; omega
      · have HF : Hid (((upB c).toNat : Int) = (c.toNat : Int) - 32) := by
          show _ = _
          unfold upB
          rw [if_pos (by omega)]
          simp only [UInt8.toNat_sub]
          have : (32 : UInt8).toNat = 32 := rfl
          rw [this]
          omega
        go_wp2_with fail
        go_roundw
        case rel =>
          refine ⟨k + 1, by omega, by go_num, HB.out.setCell (Nat.le_refl _) _, ?_, ?_⟩
          · rw [← HN.out, ← HF.out]
            exact HY.out.set (by rw [chg_length]; exact HKL.out) _
          · simpa using hzr
        case measure => simp [intOf]; omega
      · have HF : Hid (upB c = c) := by
          show upB c = c
          unfold upB
          rw [if_neg (by omega)]
        go_wp2_with fail
        go_roundw
        case rel => exact ⟨k + 1, by omega, by go_num, HB.out, by rw [HS.out HF.out]; exact HY.out, hzr⟩
        case measure => simp [intOf]; omega
    · obtain rfl : k = n := by omega
      have hbk := HY.out.back k cb (by rw [chg_length]; exact HLL.out)
      have HE := Lib.hid (show chg upB l k = l.map upB by rw [← HLL.out]; exact chg_all _ _)
      rw [HE.out] at hbk
      go_wp2_with fail
      go_ret
      exact ⟨by rw [HL0.out]; rfl, HB.out⟩

set_option maxHeartbeats 4000000 in
theorem lower_any (s : ByteArray) (w : World) (hs : s.size < 4611686018427387904) : Calls Tryd.prog 25 #[.string s] w fun e w' => e = .returned (.string ⟨(s.data.toList.map loB).toArray⟩) ∧ Below w.heap.size w w' := by
  have hcv := fun (w : World) (s : ByteArray) => Lib.run_convert_string_bytes (P := Tryd.prog) w 9 49 5 s Tryd.underlying9 Tryd.underlying49 Tryd.underlying5
  go_enter Tryd.func25, Tryd.ntmps25
  go_upto_region 2 with fail
  have hB2 := Below.newBytes w 5 s
  have BY0 := ByA.new w 5 s
  have hz : w.heap.size < (bytesWorld w 5 s).heap.size := by rw [bytesWorld_size]; omega
  have hll : s.data.toList.length = s.size := by simp
  generalize bytesWorld w 5 s = w2 at *
  generalize grownCap w s.size 0 5 = cb at *
  have HQ : Hid (∃ l, s.data.toList = l) := ⟨_, rfl⟩
  obtain ⟨l, hl⟩ := HQ.out
  rw [hl] at BY0 hll
  have HL0 := Lib.hid hl
  clear HQ hl
  generalize s.size = n at *
  have HB2 := Lib.hid hB2
  have HBY := Lib.hid BY0
  have HLL := Lib.hid hll
  clear hcv hB2 BY0 hll
  go_wp2_with fail
  go_loopw [9] (fun iv wr => ∃ k : Nat, k ≤ n ∧ iv = .int .i64 (k : Int) ∧ Below w.heap.size w wr ∧ ByA wr w.heap.size (chg loB l k) ∧ w.heap.size < wr.heap.size) (fun iv _ => n - (intOf iv).toNat)
  case atStart => exact ⟨0, Nat.zero_le _, rfl, HB2.out, by rw [chg_zero]; exact HBY.out, hz⟩
  case round =>
    obtain ⟨k, hk, rfl, hB, hY, hzr⟩ := hrel
    have HB := Lib.hid hB
    have HY := Lib.hid hY
    clear hB hY
    by_cases hlt : k < n
    · have hkl : k < l.length := by rw [HLL.out]; exact hlt
      have hlti : (k : Int) < (n : Int) := by omega
      obtain ⟨hb, hbf⟩ := HY.out k (by rw [chg_length]; exact hkl)
      rw [chg_at _ _ _ hkl] at hb
      have HN := Lib.hid (chg_next loB l k hkl)
      have HS := Lib.hid (chg_same loB l k hkl)
      have HKL := Lib.hid hkl
      generalize hc : l[k] = c at *
      clear hc hkl
      have hcn := c.toNat_lt
      rcases (show (c.toNat : Int) < 65 ∨ (65 ≤ (c.toNat : Int) ∧ (c.toNat : Int) ≤ 90) ∨ 90 < (c.toNat : Int) from by omega) with h | ⟨h, h'⟩ | h
      · have HF : Hid (loB c = c) := by
          show loB c = c
          unfold loB
          rw [if_neg (by omega)]
        go_wp2_with fail
        go_roundw
        case rel => exact ⟨k + 1, by omega, by go_num, HB.out, by rw [HS.out HF.out]; exact HY.out, hzr⟩
        case measure => simp [intOf]; omega
      · have HF : Hid (((loB c).toNat : Int) = (c.toNat : Int) + 32) := by
          show _ = _
          unfold loB
          rw [if_pos (by omega)]
          simp only [UInt8.toNat_add]
          have : (32 : UInt8).toNat = 32 := rfl
          rw [this]
          omega
        go_wp2_with fail
        go_roundw
        case rel =>
          refine ⟨k + 1, by omega, by go_num, HB.out.setCell (Nat.le_refl _) _, ?_, ?_⟩
          · rw [← HN.out, ← HF.out]
            exact HY.out.set (by rw [chg_length]; exact HKL.out) _
          · simpa using hzr
        case measure => simp [intOf]; omega
      · have HF : Hid (loB c = c) := by
          show loB c = c
          unfold loB
          rw [if_neg (by omega)]
        go_wp2_with fail
        go_roundw
        case rel => exact ⟨k + 1, by omega, by go_num, HB.out, by rw [HS.out HF.out]; exact HY.out, hzr⟩
        case measure => simp [intOf]; omega
    · obtain rfl : k = n := by omega
      have hbk := HY.out.back k cb (by rw [chg_length]; exact HLL.out)
      have HE := Lib.hid (show chg loB l k = l.map loB by rw [← HLL.out]; exact chg_all _ _)
      rw [HE.out] at hbk
      go_wp2_with fail
      go_ret
      exact ⟨by rw [HL0.out]; rfl, HB.out⟩
end Go.Proofs.YtnpgjlhnlakgpaaDoor

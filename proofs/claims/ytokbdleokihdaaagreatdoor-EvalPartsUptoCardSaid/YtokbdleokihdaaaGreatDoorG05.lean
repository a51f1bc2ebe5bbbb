/- The document's Runes. Contracts of the reference's Runes and Right, and of datum.length. -/
import Derived.Test.YtokbdleokihdaaaGreatDoorProg
import Derived.Test.YtokbdleokihdaaaGreatDoorG02
import Derived.Test.YtokbdleokihdaaaGreatDoorG01
import Derived.Test.YtokbdleokihdaaaGreatDoorRightL
import Derived.Test.YtokbdleokihdaaaGreatDoorRunes
namespace Go.Proofs.YtokbdleokihdaaaGreatDoor
open Go.RowKit

/-- What the reference's Runes answers. -/
def runesR (s : ByteArray) : Int × Bool := match rgo s s.size 0 with | some n => ((n : Int), true) | none => (0, false)

theorem ret_two {k : IntKind} {a b : Int} {c d : Bool} (h : a = b) (h' : c = d) : Ending.returned (Value.tuple #[Value.int k a, .bool c]) = .returned (Value.tuple #[Value.int k b, .bool d]) := by rw [h, h']
set_option maxHeartbeats 1000000 in
theorem runes_any (s : ByteArray) (w : World) (hs : s.size ≤ 1000) :
    Calls Tryz.prog 28 #[.string s] w fun e w' => e = .returned (.tuple #[.int .i64 (runesR s).1, .bool (runesR s).2]) ∧ Below w.heap.size w w' := by
  have HR := Lib.hid (show ∀ o, rgo s s.size 0 = o → runesR s = match o with | some n => ((n : Int), true) | none => (0, false) from fun o h => by rw [← h]; rfl)
  go_enter Tryz.func28, Tryz.ntmps28
  go_wp2
  go_loopw [4, 5, 6] (fun n _ _ wr => ∃ (pos f m : Nat), wr = w.iter s pos ∧ n = .int .i64 m ∧ rgo s s.size 0 = (rgo s f pos).map (· + m) ∧ s.size ≤ pos + f ∧ m ≤ pos) (fun _ _ _ wr => s.size - wr.iterPos w.heap.size)
  case atStart => exact ⟨0, s.size, 0, rfl, rfl, by simp, by omega, by omega⟩
  case round =>
    obtain ⟨pos, f, m, rfl, rfl, hc, hf, hm⟩ := hrel
    have HC := Lib.hid hc
    clear hc
    by_cases hp : pos < s.size
    · have hnx : ∀ ty, (Instr.next (.pointer (some ⟨w.heap.size, 0, none⟩)) true ty).run Tryz.prog (w.iter s pos) = _ := fun ty => run_next_any w s pos ty hp
      obtain ⟨f, rfl⟩ : ∃ g, f = g + 1 := ⟨f - 1, by omega⟩
      have hwd := step_pos s pos
      have HB := Lib.hid (show badAt s pos = (decide ((Utf8.decode s pos).1 = 65533) && (decide (s.size < pos + 3) || !((s.extract pos (pos + 3)).toList == [239, 191, 189]))) from rfl)
      have HG := Lib.hid (show rgo s (f + 1) pos = if badAt s pos then none else (rgo s f (pos + (Utf8.decode s pos).2)).map (· + 1) by rw [rgo, if_pos hp])
      have hrn := decode_le s pos
      generalize (Utf8.decode s pos).1 = rn at *
      generalize (Utf8.decode s pos).2 = rw' at *
      by_cases h1 : rn = 65533
      · subst h1
        by_cases h2 : s.size < pos + 3
        · have h2' : (s.size : Int) < (pos : Int) + 3 := by omega
          have HE : Hid (runesR s = (0, false)) := by
            show runesR s = _
            have hb : badAt s pos = true := by rw [HB.out]; simp [h2]
            rw [HR.out none (by rw [HC.out, HG.out, if_pos hb]; rfl)]
          clear h2
          go_wp2_with fail
          go_ret2
          exact ⟨ret_two (by rw [HE.out]) (by rw [HE.out]), (Below.refl _ _).alloc (Nat.le_refl _) _⟩
        · have h2' : (pos : Int) + 3 ≤ (s.size : Int) := by omega
          have h2'' : ¬ (s.size : Int) < (pos : Int) + 3 := by omega
          by_cases h3 : ((s.extract pos (pos + 3)).toList == [239, 191, 189]) = true
          · have hb : badAt s pos = false := by rw [HB.out, h3]; simp [h2]
            have HE := Lib.hid hb
            clear hb h2
            go_wp2_with fail
            go_roundw
            case rel => exact ⟨pos + rw', f, m + 1, rfl, by go_num, by rw [HC.out, HG.out, HE.out]; simp [Option.map_map, Function.comp_def]; congr 1; funext x; omega, by omega, by omega⟩
            case measure => simp; omega
          · have h3' : ((s.extract pos (pos + 3)).toList == [239, 191, 189]) = false := by simpa using h3
            have HE : Hid (runesR s = (0, false)) := by
              show runesR s = _
              have hb : badAt s pos = true := by rw [HB.out, h3']; simp
              rw [HR.out none (by rw [HC.out, HG.out, if_pos hb]; rfl)]
            clear h2 h3
            go_wp2_with fail
            go_ret2
            exact ⟨ret_two (by rw [HE.out]) (by rw [HE.out]), (Below.refl _ _).alloc (Nat.le_refl _) _⟩
      · have h1' : ¬ (rn : Int) = 65533 := by omega
        have hb : badAt s pos = false := by rw [HB.out]; simp [h1]
        have HE := Lib.hid hb
        clear hb h1
        go_wp2_with fail
        go_roundw
        case rel => exact ⟨pos + rw', f, m + 1, rfl, by go_num, by rw [HC.out, HG.out, HE.out]; simp [Option.map_map, Function.comp_def]; congr 1; funext x; omega, by omega, by omega⟩
        case measure => simp; omega
    · have hnx : ∀ ty, (Instr.next (.pointer (some ⟨w.heap.size, 0, none⟩)) true ty).run Tryz.prog (w.iter s pos) = _ := fun ty => run_next_end w s pos ty hp
      have HE : Hid (runesR s = ((m : Int), true)) := by
        show runesR s = _
        rw [HR.out (some m) (by rw [HC.out, rgo_end hp]; simp)]
      go_wp2_with fail
      go_ret2
      exact ⟨ret_two (by rw [HE.out]) (by rw [HE.out]), (Below.refl _ _).alloc (Nat.le_refl _) _⟩

theorem runes_valid (s : ByteArray) : (runesR s).2 = Lib.validD s.data.toList := by
  have h := valid_from s s.size 0 (by omega)
  unfold Lib.validD runesR
  rw [len_data]
  simp only [List.drop_zero] at h
  rw [h]
  cases rgo s s.size 0 <;> rfl
theorem runes_empty : runesR ⟨#[]⟩ = (0, true) := by rfl
theorem empty_of {s : ByteArray} (h : s.toList.isEmpty = true) : s = ⟨#[]⟩ := by
  obtain ⟨⟨l⟩⟩ := s
  rw [ByteArray.toList_eq] at h
  simp at h
  rw [h]
theorem size_empty {s : ByteArray} (h : s.toList.isEmpty = true) : s.size = 0 := by rw [empty_of h]; rfl
end Go.Proofs.YtokbdleokihdaaaGreatDoor
namespace Go.Proofs.YtokbdleokihdaaaGreatDoor
open Go.RowKit

set_option maxHeartbeats 1000000 in
theorem refright_any (k i : Int) (s : ByteArray) (w : World) :
    Calls Tryz.prog 12 #[.agg #[.int .i64 k, .int .i64 i, .string s]] w fun e w' => e = .returned (.bool (rightD ⟨k, i, s⟩)) ∧ Below w.heap.size w w' := by
  have B1 := Lib.hid ((Below.refl w.heap.size w).alloc (Nat.le_refl _) (.cells #[.int .i64 k, .int .i64 i, .string s] 27))
  by_cases hk : k < 0 ∨ 5 < k
  · have HE : Hid (rightD ⟨k, i, s⟩ = false) := by
      show _ = false
      unfold rightD rightN
      simp only
      rw [if_neg (by omega), if_neg (by omega), if_neg (by omega), if_neg (by omega), if_neg (by omega)]
    rcases hk with hk | hk
    · go_enter Tryz.func12, Tryz.ntmps12
      go_wp2_with fail
      go_ret
      exact ⟨ret_bool (by rw [HE.out]), B1.out⟩
    · have hk2 : ¬ k < 0 := by omega
      go_enter Tryz.func12, Tryz.ntmps12
      go_wp2_with fail
      go_ret
      exact ⟨ret_bool (by rw [HE.out]), B1.out⟩
  have hks : k = 0 ∨ k = 1 ∨ k = 2 ∨ k = 3 ∨ k = 4 ∨ k = 5 := by omega
  clear hk
  rcases hks with rfl | rfl | rfl | rfl | rfl | rfl
  iterate 2
    · by_cases he : s.toList.isEmpty = true
      · obtain rfl := empty_of he
        clear he
        have hz : (ByteArray.mk #[]).size = 0 := rfl
        go_enter Tryz.func12, Tryz.ntmps12
        go_wp2_with fail
        all_goals
          go_ret
          exact ⟨ret_bool (by simp [rightD, rightN, *]), (Below.refl _ _).alloc (Nat.le_refl _) _⟩
      · have he' : s.toList.isEmpty = false := by simpa using he
        clear he
        go_enter Tryz.func12, Tryz.ntmps12
        go_wp2_with fail
        all_goals
          go_ret
          exact ⟨ret_bool (by simp [rightD, rightN, *]), (Below.refl _ _).alloc (Nat.le_refl _) _⟩
  iterate 2
    · by_cases he : s.toList.isEmpty = true
      · obtain rfl := empty_of he
        clear he
        have hz : (ByteArray.mk #[]).size = 0 := rfl
        go_enter Tryz.func12, Tryz.ntmps12
        go_wp2_with fail
        refine (runes_any _ _ (by decide)).mono ?_
        rintro e w1 ⟨rfl, hb⟩
        have HB := Lib.hid (B1.out.trans (hb.mono (by simp)))
        clear hb
        rw [runes_empty]
        go_wp2_with fail
        go_ret
        exact ⟨ret_bool (by simp [rightD, rightN]), HB.out⟩
      · have he' : s.toList.isEmpty = false := by simpa using he
        clear he
        go_enter Tryz.func12, Tryz.ntmps12
        go_wp2_with fail
        all_goals
          go_ret
          exact ⟨ret_bool (by simp [rightD, rightN, *]), (Below.refl _ _).alloc (Nat.le_refl _) _⟩
  · by_cases hi : i = 0
    · subst hi
      by_cases hs : s.size ≤ 1000
      · have hsz : ¬ (1000 : Int) < (s.size : Int) := by omega
        have HE : Hid (rightD ⟨4, 0, s⟩ = (runesR s).2) := by
          show _ = _
          rw [runes_valid]; simp [rightD, hs]
        go_enter Tryz.func12, Tryz.ntmps12
        go_wp2_with fail
        refine (runes_any _ _ hs).mono ?_
        rintro e w1 ⟨rfl, hb⟩
        have HB := Lib.hid (B1.out.trans (hb.mono (by simp)))
        have hc := hb.cell (p := ⟨w.heap.size, 0, none⟩) (by simp)
        rw [World.cell?_alloc_new] at hc
        clear hb
        generalize runesR s = rs at *
        obtain ⟨r1, r2⟩ := rs
        cases r2
        all_goals
          go_wp2_with fail
          go_ret
          exact ⟨ret_bool (by rw [HE.out]), HB.out⟩
      · have hsz : (1000 : Int) < (s.size : Int) := by omega
        have HE : Hid (rightD ⟨4, 0, s⟩ = false) := by
          show _ = _
          simp [rightD]; omega
        go_enter Tryz.func12, Tryz.ntmps12
        go_wp2_with fail
        go_ret
        exact ⟨ret_bool (by rw [HE.out]), B1.out⟩
    · have hi' : (i != 0) = true := by simpa using hi
      have HE : Hid (rightD ⟨4, i, s⟩ = false) := by
        show _ = _
        simp [rightD, hi]
      clear hi
      go_enter Tryz.func12, Tryz.ntmps12
      go_wp2_with fail
      go_ret
      exact ⟨ret_bool (by rw [HE.out]), B1.out⟩
  · by_cases hi : i = 0
    · subst hi
      by_cases hs : s.size ≤ 1000
      · have hsz : ¬ (1000 : Int) < (s.size : Int) := by omega
        have HE : Hid (rightD ⟨5, 0, s⟩ = true) := by
          show _ = _
          simp [rightD, rightN, hs]
        go_enter Tryz.func12, Tryz.ntmps12
        go_wp2_with fail
        refine (runes_any _ _ hs).mono ?_
        rintro e w1 ⟨rfl, hb⟩
        have HB := Lib.hid (B1.out.trans (hb.mono (by simp)))
        have hc := hb.cell (p := ⟨w.heap.size, 0, none⟩) (by simp)
        rw [World.cell?_alloc_new] at hc
        clear hb
        generalize runesR s = rs at *
        obtain ⟨r1, r2⟩ := rs
        cases r2
        all_goals
          go_wp2_with fail
          go_ret
          exact ⟨ret_bool (by rw [HE.out]), HB.out⟩
      · have hsz : (1000 : Int) < (s.size : Int) := by omega
        have HE : Hid (rightD ⟨5, 0, s⟩ = false) := by
          show _ = _
          simp [rightD, rightN]; omega
        go_enter Tryz.func12, Tryz.ntmps12
        go_wp2_with fail
        go_ret
        exact ⟨ret_bool (by rw [HE.out]), B1.out⟩
    · have hi' : (i != 0) = true := by simpa using hi
      have HE : Hid (rightD ⟨5, i, s⟩ = false) := by
        show _ = _
        simp [rightD, rightN, hi]
      clear hi
      go_enter Tryz.func12, Tryz.ntmps12
      go_wp2_with fail
      go_ret
      exact ⟨ret_bool (by rw [HE.out]), B1.out⟩
end Go.Proofs.YtokbdleokihdaaaGreatDoor

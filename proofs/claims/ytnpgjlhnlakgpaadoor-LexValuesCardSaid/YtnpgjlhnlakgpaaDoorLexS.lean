/- Plain laws: a token's text and its literal are short. No program in sight. -/
import Derived.Test.YtnpgjlhnlakgpaaDoorLexC
namespace Go.Proofs.YtnpgjlhnlakgpaaDoor

theorem printF_len (d : Dt) (h0 : -9223372036854775808 ≤ d.i) (h1 : d.i ≤ 9223372036854775807) : (printF d).length ≤ 2100 := by
  obtain ⟨k, i, s⟩ := d
  simp only at h0 h1
  by_cases hr : rightD ⟨k, i, s⟩ = true
  · unfold printF
    rw [if_neg (by rw [hr]; decide)]
    simp only
    by_cases k1 : k = 1
    · rw [if_pos k1]; split <;> simp
    · rw [if_neg k1]
      by_cases k2 : k = 2
      · rw [if_pos k2]
        unfold Lib.itoa
        split
        · have := itoa_len (u := i.natAbs) (by omega)
          simp; omega
        · have := itoa_len (u := i.toNat) (by omega)
          omega
      · rw [if_neg k2]
        by_cases k3 : k = 3
        · rw [if_pos k3]
          unfold decL
          have := itoa_len (u := i.natAbs / 10000) (by omega)
          simp only [List.length_append, List.length_cons, four, List.length_nil]
          split <;> simp <;> omega
        · rw [if_neg k3]
          by_cases k4 : k = 4
          · rw [if_pos k4]
            subst k4
            unfold rightD at hr
            rw [if_pos rfl] at hr
            simp only [Bool.and_eq_true, decide_eq_true_eq] at hr
            have h2 : s.data.toList.length ≤ 1000 := by simpa using hr.2.1
            have := quoted_len s.data.toList
            simp only [List.length_cons, List.length_append, List.length_nil]; omega
          · rw [if_neg k4]
            by_cases k5 : k = 5
            · rw [if_pos k5]
              subst k5
              unfold rightD rightN at hr
              simp at hr
              have h2 : s.data.toList.length ≤ 1000 := by simpa using hr.2
              have := hexed_len s.data.toList
              simp only [List.length_cons, List.length_append, List.length_nil]; omega
            · rw [if_neg k5]; simp
  · have : rightD ⟨k, i, s⟩ = false := by simpa using hr
    unfold printF
    rw [if_pos this]; simp
theorem amtV_bd {u : Nat} (h : u ≤ 9223372036854775808) : -9223372036854775808 ≤ amtV u ∧ amtV u ≤ 9223372036854775807 := by
  unfold amtV; split <;> omega
/-- A token's text is short; its number has room. -/
def Tiny (s : ByteArray) (d : Dt) : Prop := s.size ≤ 20 ∧ -9223372036854775808 ≤ d.i ∧ d.i ≤ 9223372036854775807
theorem tiny0 (k : Int) (v : ByteArray) : Tiny ⟨#[]⟩ ⟨k, 0, v⟩ := ⟨by decide, by show (-9223372036854775808 : Int) ≤ 0; decide, by show (0 : Int) ≤ _; decide⟩
theorem numEnd_tiny {k ds n l k' s d n'} (h : numEnd k ds n l = .ok k' s d n') : Tiny s d := by
  obtain ⟨_, rfl, u, hu, rfl⟩ := numEnd_bound h
  exact ⟨by decide, amtV_bd hu⟩
theorem tokF_tiny {l : List UInt8} {k s d n} (h : tokF l = .ok k s d n) : Tiny s d := by
  simp only [tokF] at h
  split at h
  · unfold bytesF at h
    split at h
    · cases h
    · cases h
    · split at h
      · cases h
      · split at h
        · cases h
        · cases h; exact tiny0 _ _
  · split at h
    · simp only [nameF] at h
      split at h
      · cases h
      · rename_i hl
        split at h
        · cases h
          exact ⟨by simp [ByteArray.size]; omega, by decide, by decide⟩
        · cases h
          exact ⟨by simp [ByteArray.size]; omega, by decide, by decide⟩
    · split at h
      · simp only [numF] at h
        split at h
        · exact numEnd_tiny h
        · split at h
          · cases h
          · exact numEnd_tiny h
      · split at h
        · unfold textF at h
          split at h
          · cases h
          · cases h
          · split at h
            · cases h
            · cases h; exact tiny0 _ _
        · unfold symF at h
          split at h
          · cases h
            exact ⟨by simp [ByteArray.size]; omega, by decide, by decide⟩
          · split at h
            · cases h
              exact ⟨by simp [ByteArray.size]; omega, by decide, by decide⟩
            · cases h
theorem lexGo_tiny : ∀ (f : Nat) (l : List UInt8) (p n : Nat) (ts : List Tk), lexGo f l p n = .inr ts → ∀ t ∈ ts, Tiny t.s t.d
  | 0, _, _, _, ts, h => by simp only [lexGo] at h; cases h; simp
  | f + 1, l, p, n, ts, h => by
    simp only [lexGo] at h
    split at h
    · cases h; simp
    · split at h
      · cases h
      · split at h
        · cases h
        · rename_i ht
          split at h
          · cases h
          · rename_i hx
            cases h
            intro t hm
            rcases List.mem_cons.1 hm with rfl | hm
            · exact tokF_tiny ht
            · exact lexGo_tiny f _ _ _ _ hx t hm
theorem lexF_tiny {l : List UInt8} {a : List Tk} (h : lexF l = .inr a) : ∀ t ∈ a, Tiny t.s t.d := by
  obtain ⟨_, ts, hx, rfl⟩ := lexF_inr h
  intro t hm
  rcases List.mem_append.1 hm with hm | hm
  · exact lexGo_tiny _ _ _ _ _ hx t hm
  · simp at hm; subst hm; exact tiny0 _ _
theorem lexF_count {l : List UInt8} {a : List Tk} (h : lexF l = .inr a) : a.length ≤ 1001 ∧ l.length ≤ 4000 ∧ ∃ ts, a = ts ++ [endT l.length] := by
  obtain ⟨h4, us, hu, rfl⟩ := lexF_inr h
  have := lexGo_count _ _ _ _ _ (by omega) hu
  exact ⟨by simp; omega, h4, us, rfl⟩
theorem showF_len {k : Int} {s : ByteArray} {d : Dt} (h : Tiny s d) : (showF k s d).length ≤ 2100 := by
  unfold showF
  split
  · have : s.data.toList.length = s.size := by simp
    have := h.1
    omega
  · split
    · simp
    · split
      · simp
      · exact printF_len d h.2.1 h.2.2
end Go.Proofs.YtnpgjlhnlakgpaaDoor

/- The document's Show: a token as a text. -/
import Derived.Test.YtnpgjlhnlakgpaaDoorG05
import Derived.Test.YtnpgjlhnlakgpaaDoorLexB
import Derived.Test.YtnpgjlhnlakgpaaDoorLexK
namespace Go.Proofs.YtnpgjlhnlakgpaaDoor
open Go.RowKit

set_option maxRecDepth 100000 in
set_option maxHeartbeats 4000000 in
theorem show_any (t : Tk) (w : World) (hP : Pow w) (i0 : -9223372036854775808 ≤ t.d.i) (i1 : t.d.i ≤ 9223372036854775807) :
    Calls Tryd.prog 21 #[t.v] w fun e w' => e = .returned (.string (bs (showF t.k t.s t.d))) ∧ Below w.heap.size w w' := by
  obtain ⟨k, s, ⟨dk, di, ds⟩, p⟩ := t
  simp only at i0 i1
  have hB := (Below.refl w.heap.size w).alloc (Nat.le_refl _) (.cells #[.int .i64 k, .string s, .int .i64 dk, .int .i64 di, .string ds, .int .i64 (p : Int)] 30)
  have HB := Lib.hid hB
  have HP2 := Lib.hid (hP.below hB)
  have hc : ∀ o, (w.alloc (.cells #[.int .i64 k, .string s, .int .i64 dk, .int .i64 di, .string ds, .int .i64 (p : Int)] 30)).cell? ⟨w.heap.size, o, none⟩ = (#[Value.int .i64 k, .string s, .int .i64 dk, .int .i64 di, .string ds, .int .i64 (p : Int)] : Array Value)[o]? := fun o => World.cell?_alloc_new _ _ _ _
  have HPr := Lib.hid (fun W h => rprint_all ⟨dk, di, ds⟩ W h i0 i1)
  have HE := Lib.hid (show ∀ x, x = showF k s ⟨dk, di, ds⟩ → bs (showF k s ⟨dk, di, ds⟩) = bs x from fun x h => by rw [h])
  by_cases hk : k = 3
  · subst hk
    by_cases h1 : di = -9223372036854775808 ∧ dk = 2
    · obtain ⟨rfl, rfl⟩ := h1
      go_enter Tryd.func21, Tryd.ntmps21
      go_wp2_with fail
      go_ret
      exact ⟨rfl, HB.out⟩
    · by_cases h2 : di = -9223372036854775808 ∧ dk = 3
      · obtain ⟨rfl, rfl⟩ := h2
        go_enter Tryd.func21, Tryd.ntmps21
        go_wp2_with fail
        go_ret
        exact ⟨rfl, HB.out⟩
      · have HS : Hid (showF 3 s ⟨dk, di, ds⟩ = printF ⟨dk, di, ds⟩) := by
          show _ = _
          unfold showF
          rw [if_neg (by simp), if_neg h1, if_neg h2]
        by_cases hi : di = -9223372036854775808
        · have n1 : (dk == 2) = false := by simp; exact fun h => h1 ⟨hi, h⟩
          have n2 : (dk == 3) = false := by simp; exact fun h => h2 ⟨hi, h⟩
          subst hi
          clear h1 h2
          go_enter Tryd.func21, Tryd.ntmps21
          go_wp2_with (first | (go_at_call 23; refine (HPr.out _ HP2.out).mono ?_; rintro e w2 ⟨rfl, hb2⟩; have HB2 := Lib.hid (HB.out.trans (hb2.mono HB.out.size)); clear hb2) | fail)
          go_ret
          exact ⟨ret_str (by rw [HS.out]), HB2.out⟩
        · have n0 : (di == -9223372036854775808) = false := by simpa using hi
          clear h1 h2 hi
          go_enter Tryd.func21, Tryd.ntmps21
          go_wp2_with (first | (go_at_call 23; refine (HPr.out _ HP2.out).mono ?_; rintro e w2 ⟨rfl, hb2⟩; have HB2 := Lib.hid (HB.out.trans (hb2.mono HB.out.size)); clear hb2) | fail)
          go_ret
          exact ⟨ret_str (by rw [HS.out]), HB2.out⟩
  · have hk2 : (k == 3) = false := by simpa using hk
    have HS : Hid (bs (showF k s ⟨dk, di, ds⟩) = s) := by
      show _ = _
      unfold showF
      rw [if_pos hk]
      rfl
    go_enter Tryd.func21, Tryd.ntmps21
    go_wp2_with fail
    go_ret
    exact ⟨ret_str (by rw [HS.out]), HB.out⟩
end Go.Proofs.YtnpgjlhnlakgpaaDoor

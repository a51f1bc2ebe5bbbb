/- Contract of the document's logic. -/
import Derived.Test.YtidejjjedpdbeaaDoorG01
import Derived.Test.YtidejjjedpdbeaaDoorG03
import Derived.Test.YtidejjjedpdbeaaDoorG04
namespace Go.Proofs.YtidejjjedpdbeaaDoor
open Go.RowKit

theorem onlyF_one (d : Dt) : onlyF 1 1 d = isOf [1] d := by
  unfold onlyF isOf
  cases h : (d.k == 0)
  · simp
    rw [Bool.eq_iff_iff]
    simp
    omega
  · simp

set_option maxHeartbeats 1000000 in
theorem reflogic_not (d : Dt) (b o cap : Nat) (w : World) (hbk : b < w.heap.size) (hc : DCells w b o [d]) :
    Calls Tryd.prog 32 #[.int .i64 2, .slice (some ⟨b, o, none⟩) 1 cap] w fun e w' => e = .returned (.tuple #[(notR d).1.v, .int .i64 (notR d).2]) ∧ Below w.heap.size w w' := by
  have Hc := Lib.hid hc
  clear hc
  go_enter Tryd.func32, Tryd.ntmps32
  go_wp2_with fail
  refine (refonly_any [d] b o cap 1 1 _ (by simp) (by simp; omega) (Hc.out.below ((Below.refl _ _).alloc (Nat.le_refl _) _) hbk)).mono ?_
  rintro e w2 ⟨rfl, hb2⟩
  have HR := Lib.hid hb2
  have hz := (box_new (by rw [← World.size_alloc]; exact hb2 : Below (w.heap.size + 1) (w.alloc (.cells #[.int .i64 0, .int .i64 0, .string ⟨#[]⟩] 24)) w2))
  have hal : [d].all (onlyF 1 1) = [d].all (isOf [1]) := by simp [onlyF_one]
  rw [hal]
  obtain ⟨⟨b1, b2, b3⟩, ⟨f1, f2, f3⟩, hB, hzw⟩ := hz
  have HB := Lib.hid hB
  have Hc2 := Lib.hid (Hc.out.below hB hbk)
  clear hb2 hB hal
  cases hall : [d].all (isOf [1])
  · have HE : Hid (notR d = (Dt.zero, 5)) := by show notR d = _; rw [notR, if_neg (by rw [hall]; simp)]
    clear hall
    go_wp2_with fail
    refine bodyPost_ret (v := .tuple #[Dt.zero.v, .int .i64 5]) (by simp [results, Tryd.results32, go_sem, b1, b2, b3, Dt.zero]) rfl ⟨by rw [HE.out], ?_⟩
    exact ((HB.out.setCell (Nat.le_refl _) _).setCell (Nat.le_refl _) _).setCell (Nat.le_refl _) _
  · have e0 := Hc2.out 0 (by simp)
    have d0 : dnth [d] 0 = d := rfl
    rw [d0] at e0
    simp only [Nat.zero_mul, Nat.add_zero] at e0
    obtain ⟨e0, e1, e2⟩ := e0
    clear d0
    have HE : Hid (notR d = (notF d, 0)) := by show notR d = _; rw [notR, if_pos hall]
    clear hall
    have hnf := (show notF d = if d.k = 0 then Dt.zero else truthD (d.i == 0) from rfl)
    cases hk : (d.k == 0)
    · have HN : Hid (notF d = truthD (d.i == 0)) := by show _ = _; rw [hnf, if_neg (by simpa using hk)]
      clear hnf HR
      go_wp2_with fail
      refine (refbool_any _ _).mono ?_
      rintro e w3 ⟨rfl, hb3⟩
      obtain ⟨c1, c2, c3, g1, g2, g3, -⟩ := (Bx.mk b1 b2 b3 f1 f2 f3 hzw).below hb3
      have HB3 := Lib.hid (HB.out.trans (hb3.mono (by omega)))
      clear hb3 e0 e1 e2
      rw [← HN.out]
      generalize hfin : notF d = tv
      have HF := Lib.hid hfin
      clear hfin
      obtain ⟨tk, ti, ts⟩ := tv
      go_wp2_with fail
      refine bodyPost_ret (v := .tuple #[.agg #[.int .i64 tk, .int .i64 ti, .string ts], .int .i64 0]) (by simp [results, Tryd.results32, go_sem, c1, c2, c3]) rfl ⟨by rw [HE.out, HF.out], ?_⟩
      exact ((HB3.out.setCell (Nat.le_refl _) _).setCell (Nat.le_refl _) _).setCell (Nat.le_refl _) _
    · have HN : Hid (notF d = Dt.zero) := by show _ = _; rw [hnf, if_pos (by simpa using hk)]
      clear hnf HR
      go_wp2_with fail
      refine bodyPost_ret (v := .tuple #[Dt.zero.v, .int .i64 0]) (by simp [results, Tryd.results32, go_sem, b1, b2, b3, Dt.zero]) rfl ⟨by rw [HE.out, HN.out], ?_⟩
      exact ((HB.out.setCell (Nat.le_refl _) _).setCell (Nat.le_refl _) _).setCell (Nat.le_refl _) _
end Go.Proofs.YtidejjjedpdbeaaDoor

/- The law's known calls. -/
import Derived.Test.YtnpgjlhnlakgpaaGreatDoorWalI
import Derived.Test.YtnpgjlhnlakgpaaGreatDoorG20
import Derived.Test.YtnpgjlhnlakgpaaGreatDoorG18
namespace Go.Proofs.YtnpgjlhnlakgpaaGreatDoor
open Go.RowKit Go.Maps

def oneB : ByteArray := ⟨#[111, 110, 101]⟩
def frO : ByteArray := bs (frameN oneB.data.toList)
def dk1 : Dk := ((Dk.new 1000).create nm1).2
def dk2 : Dk := (dk1.append nm1 frO).2
def dk3 : Dk := (dk2.sync nm1).2
theorem dk_facts : ((Dk.new 1000).create nm1).1 = 0 ∧ (dk1.append nm1 frO).1 = 0 ∧ (dk2.sync nm1).1 = 0 ∧ dk1.steps < 4611686018427387904 ∧ dk2.steps < 4611686018427387904 := by
  refine ⟨by kernel_rfl, by kernel_rfl, by kernel_rfl, by rw [show dk1.steps = 1 from by kernel_rfl]; decide, by rw [show dk2.steps = 2 from by kernel_rfl]; decide⟩
theorem sum9 : sumN (ByteArray.mk #[49, 50, 51, 52, 53, 54, 55, 56, 57]).data.toList = 3421780262 := by kernel_rfl
theorem frO_size : frO.size = 15 := by kernel_rfl
theorem scan_known : scanF (bs (frameN []) ++ ⟨#[120, 121, 122]⟩).data.toList = ([[]], 12) := by kernel_rfl
theorem frO_eq : bs (frameN oneB.data.toList) = frO := rfl

set_option maxRecDepth 100000 in
set_option maxHeartbeats 8000000 in
theorem known_any (w : World) : Calls Tryz.prog 6 #[] w fun e w' => e = .returned (.bool true) ∧ Below w.heap.size w w' := by
  obtain ⟨r1, r2, r3, t1, t2⟩ := dk_facts
  obtain ⟨E, hE⟩ : ∃ E, bs (frameN []) = E := ⟨_, rfl⟩
  have hEz : E.size = 12 := by rw [← hE]; kernel_rfl
  have hsc := scan_known
  rw [hE] at hsc
  have HFR : Hid (Calls Tryz.prog 14 #[.string ⟨#[]⟩] w fun e w' => e = .returned (.tuple #[.string E, .int .i64 0]) ∧ Below w.heap.size w w') := by
    have h := frame_any ⟨#[]⟩ w (by decide)
    rw [if_neg (by decide)] at h
    rw [← hE]
    exact h
  obtain ⟨X, hX⟩ : ∃ X, E ++ ⟨#[120, 121, 122]⟩ = X := ⟨_, rfl⟩
  have hXz : X.size = 15 := by rw [← hX, ByteArray.size_append, hEz]; rfl
  rw [hX] at hsc
  have HSC : Hid (∀ W, Calls Tryz.prog 15 #[.string X] W fun e w' => ∃ v, e = .returned (.tuple #[v, .int .i64 12]) ∧ SL W w' v [[]]) := fun W => by
    have h := scan_any X W (by omega)
    rw [hsc] at h
    exact h
  have HNW : Hid (∀ W, Calls Tryz.prog 4 #[.int .i64 1000] W fun e w' => e = .returned (.tuple #[.pointer (some ⟨W.heap.size + 1, 0, none⟩), .int .i64 0]) ∧ DAt w' (W.heap.size + 1) W.heap.size (Dk.new 1000) ∧ Below W.heap.size W w' ∧ W.heap.size + 1 < w'.heap.size) := fun W => new_ok 1000 W (by decide)
  have HSU : Hid (∀ W, Calls Tryz.prog 16 #[.string ⟨#[49, 50, 51, 52, 53, 54, 55, 56, 57]⟩] W fun e w' => e = .returned (.int .u32 3421780262) ∧ w' = W) := fun W => by
    have h := sum_any ⟨#[49, 50, 51, 52, 53, 54, 55, 56, 57]⟩ W (by decide)
    rw [sum9] at h
    exact h
  have HOP : Hid (∀ W db m, DAt W db m (Dk.new 1000) → Calls Tryz.prog 17 #[.pointer (some ⟨db, 0, none⟩), .int .i64 20] W fun e w' => ∃ lb g, e = .returned (.tuple #[.pointer (some ⟨lb, 0, none⟩), .int .i64 0]) ∧ LgAt w' lb db m g 20 0 1 0 ∧ DAt w' db m dk1 ∧ W.heap.size ≤ lb ∧ Kp db m W w') := fun W db m h => open_new h (Dk.Ok.new (by decide)) (by decide) rfl rfl 20 (by decide) (by decide) r1
  have HAD : Hid (∀ W lb db m g, LgAt W lb db m g 20 0 1 0 → DAt W db m dk1 → Calls Tryz.prog 21 #[.pointer (some ⟨lb, 0, none⟩), .string ⟨#[111, 110, 101]⟩] W fun e w' => e = .returned (.int .i64 0) ∧ LgAt w' lb db m g 20 15 2 0 ∧ DAt w' db m dk2 ∧ Kl lb db m W w' ∧ W.heap.size ≤ w'.heap.size) := fun W lb db m g h hd => by
    have h := add_one oneB (by decide) h hd ((Dk.Ok.new (by decide)).create _) t1 r2 (by decide) (by decide) (by decide) (by decide) (by decide)
    rw [frO_eq, frO_size] at h
    exact h
  have HSY : Hid (∀ W lb db m g, LgAt W lb db m g 20 15 2 0 → DAt W db m dk2 → Calls Tryz.prog 22 #[.pointer (some ⟨lb, 0, none⟩)] W fun e w' => e = .returned (.int .i64 0) ∧ LgAt w' lb db m g 20 15 2 1 ∧ DAt w' db m dk3 ∧ Kl lb db m W w' ∧ W.heap.size ≤ w'.heap.size) := fun W lb db m g h hd => sync_one h hd (((Dk.Ok.new (by decide)).create _).append _ _) t2 r3 (by decide) (by decide)
  have HFI : Hid (∀ W lb db m g, LgAt W lb db m g 20 0 1 0 → Calls Tryz.prog 18 #[.pointer (some ⟨lb, 0, none⟩)] W fun e w' => e = .returned (.int .i64 1) ∧ w' = W) := fun W lb db m g h => first_one h
  have HN1 : Hid (∀ W lb db m g, LgAt W lb db m g 20 0 1 0 → Calls Tryz.prog 19 #[.pointer (some ⟨lb, 0, none⟩)] W fun e w' => e = .returned (.int .i64 1) ∧ w' = W) := fun W lb db m g h => next_one h
  have HN2 : Hid (∀ W lb db m g, LgAt W lb db m g 20 15 2 0 → Calls Tryz.prog 19 #[.pointer (some ⟨lb, 0, none⟩)] W fun e w' => e = .returned (.int .i64 2) ∧ w' = W) := fun W lb db m g h => next_one h
  have HS1 : Hid (∀ W lb db m g, LgAt W lb db m g 20 0 1 0 → Calls Tryz.prog 20 #[.pointer (some ⟨lb, 0, none⟩)] W fun e w' => e = .returned (.int .i64 0) ∧ Below W.heap.size W w') := fun W lb db m g h => safe_one h
  have HS2 : Hid (∀ W lb db m g, LgAt W lb db m g 20 15 2 0 → Calls Tryz.prog 20 #[.pointer (some ⟨lb, 0, none⟩)] W fun e w' => e = .returned (.int .i64 0) ∧ Below W.heap.size W w') := fun W lb db m g h => safe_one h
  have HS3 : Hid (∀ W lb db m g, LgAt W lb db m g 20 15 2 1 → Calls Tryz.prog 20 #[.pointer (some ⟨lb, 0, none⟩)] W fun e w' => e = .returned (.int .i64 1) ∧ Below W.heap.size W w') := fun W lb db m g h => safe_one h
  clear r1 r2 r3 t1 t2 hE hsc
  go_enter Tryz.func6, Tryz.ntmps6
  go_upto_region 4 with (first
    | (go_at_call 14; refine HFR.out.mono ?_; rintro e w1 ⟨rfl, hb⟩; have HB1 := Lib.hid hb; clear hb)
    | (go_at_call 15; refine (HSC.out _).mono ?_; rintro e w2 ⟨v, rfl, hsl⟩; have HSL := Lib.hid hsl; obtain ⟨vp, vc, hv⟩ := owns_sl2 hsl.o; subst hv; clear hsl)
    | (go_at_call 4; refine (HNW.out _).mono ?_; rintro e w3 ⟨rfl, hd3, hb3, hz3⟩; have HD3 := Lib.hid hd3; have HB3 := Lib.hid hb3; clear hd3 hb3)
    | fail)
  have HT : Hid (∃ g off, vp = some ⟨g, off, none⟩ ∧ w3.cell? ⟨g, off, none⟩ = some (.string ⟨#[]⟩)) := by
    obtain ⟨p, cap, hv, h⟩ := HSL.out.at.below HB3.out
    rcases h with h | ⟨g, off, hp, hc⟩
    · cases h
    · cases hv
      exact ⟨g, off, hp, hc 0 [] rfl⟩
  have HB13 := Lib.hid ((HB1.out.trans (HSL.out.B.mono HB1.out.size)).trans (HB3.out.mono (HB1.out.trans (HSL.out.B.mono HB1.out.size)).size))
  have hz1 := HB1.out.size
  have hz2 := HSL.out.B.size
  obtain ⟨tg, tof, rfl, tc⟩ := HT.out
  obtain ⟨z2, hzz⟩ : ∃ z2, w2.heap.size = z2 := ⟨_, rfl⟩
  rw [hzz] at HD3 hz3 hz2 ⊢
  clear HT HSL HB3 HB1 hzz
  go_wp2_with (first
    | (go_at_call 16; refine (HSU.out _).mono ?_; rintro e w9 ⟨rfl, hw9⟩; rw [hw9]; clear hw9)
    | (go_at_call 17; (with_reducible refine (HOP.out _ _ _ HD3.out).mono ?_); rintro e w4 ⟨lb, lg, rfl, hl4, hd4, hz4, hk4⟩; have HL4 := Lib.hid hl4; have HD4 := Lib.hid hd4; have HK4 := Lib.hid hk4; clear hl4 hd4 hk4)
    | (go_at_call 18; (with_reducible refine (HFI.out _ _ _ _ _ HL4.out).mono ?_); rintro e w9 ⟨rfl, hw9⟩; rw [hw9]; clear hw9)
    | (go_at_call 19; (with_reducible refine (HN1.out _ _ _ _ _ HL4.out).mono ?_); clear HN1; rintro e w9 ⟨rfl, hw9⟩; rw [hw9]; clear hw9)
    | (go_at_call 20; (with_reducible refine (HS1.out _ _ _ _ _ HL4.out).mono ?_); clear HS1; rintro e w5 ⟨rfl, hb5⟩; have HL5 := Lib.hid (HL4.out.below hb5); have HD5 : Hid (DAt w5 _ _ dk1) := DC.below HD4.out hb5; have HB5 := Lib.hid hb5; clear hb5)
    | (go_at_call 21; (with_reducible refine (HAD.out _ _ _ _ _ HL5.out HD5.out).mono ?_); rintro e w6 ⟨rfl, hl6, hd6, hk6, hz6⟩; have HL6 := Lib.hid hl6; have HD6 := Lib.hid hd6; have HK6 := Lib.hid hk6; clear hl6 hd6 hk6)
    | (go_at_call 19; (with_reducible refine (HN2.out _ _ _ _ _ HL6.out).mono ?_); clear HN2; rintro e w9 ⟨rfl, hw9⟩; rw [hw9]; clear hw9)
    | (go_at_call 20; (with_reducible refine (HS2.out _ _ _ _ _ HL6.out).mono ?_); clear HS2; rintro e w7 ⟨rfl, hb7⟩; have HL7 := Lib.hid (HL6.out.below hb7); have HD7 : Hid (DAt w7 _ _ dk2) := DC.below HD6.out hb7; have HB7 := Lib.hid hb7; clear hb7)
    | (go_at_call 22; (with_reducible refine (HSY.out _ _ _ _ _ HL7.out HD7.out).mono ?_); rintro e w8 ⟨rfl, hl8, hd8, hk8, hz8⟩; have HL8 := Lib.hid hl8; have HK8 := Lib.hid hk8; clear hl8 hd8 hk8)
    | (go_at_call 20; (with_reducible refine (HS3.out _ _ _ _ _ HL8.out).mono ?_); clear HS3; rintro e w10 ⟨rfl, hb10⟩; have HB10 := Lib.hid hb10; clear hb10)
    | fail)
  go_ret
  have q3 := HB13.out.size
  have b4 := Kp.belowN HB13.out HK4.out q3 (show w.heap.size ≤ z2 + 1 by omega) (show w.heap.size ≤ z2 by omega)
  have b5 := b4.trans (HB5.out.mono b4.size)
  have b6 := b5.trans (HK6.out _ b5.size (by omega) (by omega) (by omega))
  have b7 := b6.trans (HB7.out.mono b6.size)
  have b8 := b7.trans (HK8.out _ b7.size (by omega) (by omega) (by omega))
  exact ⟨rfl, b8.trans (HB10.out.mono b8.size)⟩
end Go.Proofs.YtnpgjlhnlakgpaaGreatDoor

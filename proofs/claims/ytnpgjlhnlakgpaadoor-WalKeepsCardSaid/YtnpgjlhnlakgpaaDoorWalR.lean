/- A log of any segments: Sync. -/
import Derived.Test.YtnpgjlhnlakgpaaDoorG13
import Derived.Test.YtnpgjlhnlakgpaaDoorG07
import Derived.Deep.RegionHeld3
namespace Go.Proofs.YtnpgjlhnlakgpaaDoor
open Go.RowKit Go.Maps

set_option maxRecDepth 100000 in
set_option maxHeartbeats 4000000 in
theorem sync_gen {w : World} {B lb db m g : Nat} {l : Lg} {d : Dk} (h : LgW w B lb db m g l) (ho : l.Ok) (hd : DAt w db m d) (hok : d.Ok) (hs : d.steps < 4611686018427387904) :
    Calls Tryd.prog 39 #[.pointer (some ⟨lb, 0, none⟩)] w fun e w' => e = .returned (.int .i64 (syncW d l).1) ∧ LgW w' B lb db m g (syncW d l).2.2 ∧ DAt w' db m (syncW d l).2.1 ∧ KL lb db m g w w' := by
  have hnm : (nameN l.lastN).size ≤ maxLen := by rw [nameN_size]; unfold maxLen; decide
  have HL := Lib.hid (fun wx (h : LgW wx B lb db m g l) => last_any h ho)
  have HP := Lib.hid (show ∀ wx, DAt wx db m d → Calls Tryd.prog 71 #[.pointer (some ⟨db, 0, none⟩), .string (nameN l.lastN)] wx fun e w' => e = .returned (.int .i64 (d.sync (nameN l.lastN)).1) ∧ DAt w' db m (d.sync (nameN l.lastN)).2 ∧ Kp db m wx w' from fun wx h => sync_any h hok hs hnm)
  have HDW := Lib.hid (show DAt w.drew db m d from hd.drew)
  have HLW := Lib.hid h.drew
  have c0 := h.c0
  have c4 := h.c4
  have c5 := h.c5
  have hlt := h.lt.1
  have hne := h.ne
  have hnx := ho.next
  have hww : IntKind.i64.wrap ((l.next : Int) - 1) = ((l.next - 1 : Nat) : Int) := by rw [IntKind.wrap_i64]; omega
  have HST : Hid (∀ W, LgW W B lb db m g l → LgW (W.setCell ⟨lb, 5, none⟩ (.int .i64 ((l.next - 1 : Nat) : Int))) B lb db m g { l with safe := l.next - 1 }) := fun W h => h.store 5 (by decide) (l.next - 1) _ rfl rfl rfl rfl rfl
  unfold syncW
  obtain ⟨S, hS⟩ : ∃ S, nameN l.lastN = S := ⟨_, rfl⟩
  rw [hS] at HL HP ⊢
  obtain ⟨D2, hD2⟩ : ∃ D2, (d.sync S).2 = D2 := ⟨_, rfl⟩
  obtain ⟨E, hE⟩ : ∃ E, (d.sync S).1 = E := ⟨_, rfl⟩
  simp only [hD2, hE] at HP ⊢
  obtain ⟨NX, hNX⟩ : ∃ NX : Int, (l.next : Int) = NX := ⟨_, rfl⟩
  obtain ⟨N1, hN1⟩ : ∃ N1 : Int, ((l.next - 1 : Nat) : Int) = N1 := ⟨_, rfl⟩
  rw [hNX] at c4 hww
  rw [hN1] at hww HST
  clear h hd hok hs hS hnm hD2 hE ho hnx hNX hN1
  by_cases hE0 : E = 0
  · subst hE0
    simp only [if_true]
    go_enter Tryd.func39, Tryd.ntmps39
    go_upto_region 1 with fail
    go_region_held3 (fun w' => ∀ j, w'.cell? ⟨lb, j, none⟩ = w.cell? ⟨lb, j, none⟩) ((first | assumption | (intro j; rfl)))
      (first
        | (go_at_call 70; (with_reducible refine (HL.out _ HLW.out).mono ?_); rintro e w5 ⟨rfl, hb5⟩; have k5 : ∀ j, w5.cell? ⟨lb, j, none⟩ = w.cell? ⟨lb, j, none⟩ := fun j => (hb5.cell (p := ⟨lb, j, none⟩) hlt).trans rfl; have HL5 := Lib.hid (HLW.out.below hb5); have HD5 : Hid (DAt w5 db m d) := DC.below HDW.out hb5; have HK5 := Lib.hid (((KL.refl lb db m g w).below (Below.refl _ _).drew).below hb5); clear hb5)
        | (go_at_call 71; (with_reducible refine (HP.out _ HD5.out).mono ?_); rintro e w6 ⟨rfl, hd6, hk6⟩; have k6 : ∀ j, w6.cell? ⟨lb, j, none⟩ = w.cell? ⟨lb, j, none⟩ := fun j => (hk6.cell (Nat.lt_of_lt_of_le hlt HK5.out.size) hne.1 hne.2.1 j).trans (k5 j); have HD6 := Lib.hid hd6; have HL6 := Lib.hid (HL5.out.kp hk6); have HK6 := Lib.hid (HK5.out.kp hk6); clear hd6 hk6))
    have f5 := HL6.out.f5
    go_wp2_with fail
    go_ret
    exact ⟨rfl, HST.out _ HL6.out, DC.far HD6.out (fun e => hne.1 e.symm) (fun e => hne.2.1 e.symm) _ _, HK6.out.set _ _⟩
  · have hEb : (E != 0) = true := by simpa using hE0
    simp only [if_neg hE0]
    go_enter Tryd.func39, Tryd.ntmps39
    go_upto_region 1 with fail
    go_region_held3 (fun w' => ∀ j, w'.cell? ⟨lb, j, none⟩ = w.cell? ⟨lb, j, none⟩) ((first | assumption | (intro j; rfl)))
      (first
        | (go_at_call 70; (with_reducible refine (HL.out _ HLW.out).mono ?_); rintro e w5 ⟨rfl, hb5⟩; have k5 : ∀ j, w5.cell? ⟨lb, j, none⟩ = w.cell? ⟨lb, j, none⟩ := fun j => (hb5.cell (p := ⟨lb, j, none⟩) hlt).trans rfl; have HL5 := Lib.hid (HLW.out.below hb5); have HD5 : Hid (DAt w5 db m d) := DC.below HDW.out hb5; have HK5 := Lib.hid (((KL.refl lb db m g w).below (Below.refl _ _).drew).below hb5); clear hb5)
        | (go_at_call 71; (with_reducible refine (HP.out _ HD5.out).mono ?_); rintro e w6 ⟨rfl, hd6, hk6⟩; have k6 : ∀ j, w6.cell? ⟨lb, j, none⟩ = w.cell? ⟨lb, j, none⟩ := fun j => (hk6.cell (Nat.lt_of_lt_of_le hlt HK5.out.size) hne.1 hne.2.1 j).trans (k5 j); have HD6 := Lib.hid hd6; have HL6 := Lib.hid (HL5.out.kp hk6); have HK6 := Lib.hid (HK5.out.kp hk6); clear hd6 hk6))
    go_wp2_with fail
    go_ret
    exact ⟨rfl, HL6.out, HD6.out, HK6.out⟩
end Go.Proofs.YtnpgjlhnlakgpaaDoor

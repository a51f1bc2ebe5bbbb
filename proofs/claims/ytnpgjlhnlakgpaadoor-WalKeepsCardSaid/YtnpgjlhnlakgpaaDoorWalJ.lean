/- A log of one segment: Add. -/
import Derived.Test.YtnpgjlhnlakgpaaDoorWalM
import Derived.Test.YtnpgjlhnlakgpaaDoorG04
import Derived.Test.YtnpgjlhnlakgpaaDoorG06
namespace Go.Proofs.YtnpgjlhnlakgpaaDoor
open Go.RowKit Go.Maps

theorem LgAt.drewN {w : World} {lb db m g n : Nat} {seg size next safe : Int} (h : LgAt w lb db m g seg size next safe) : LgAt (w.drewN n) lb db m g seg size next safe := h.kp ((Kp.refl db m w).drewN)

set_option maxRecDepth 100000 in
set_option maxHeartbeats 8000000 in
theorem add_one {w : World} {lb db m g : Nat} {seg size next safe : Int} {d : Dk} (r : ByteArray) (hrs : r.size ≤ 65536) (h : LgAt w lb db m g seg size next safe) (hd : DAt w db m d) (hok : d.Ok) (hs : d.steps < 4611686018427387904) (hr : (d.append nm1 (bs (frameN r.data.toList))).1 = 0)
    (hn0 : 0 ≤ next) (hn1 : next ≤ 999999999999) (hz0 : 0 ≤ size) (hz1 : size < seg) (hz2 : seg ≤ 65536) :
    Calls Tryd.prog 38 #[.pointer (some ⟨lb, 0, none⟩), .string r] w fun e w' => e = .returned (.int .i64 0) ∧ LgAt w' lb db m g seg (size + ((bs (frameN r.data.toList)).size : Int)) (next + 1) safe ∧ DAt w' db m (d.append nm1 (bs (frameN r.data.toList))).2 ∧ Kl lb db m w w' ∧ w.heap.size ≤ w'.heap.size := by
  have hnm : nm1.size ≤ maxLen := by unfold maxLen; decide
  have HFR := Lib.hid (frame_any r w (by omega))
  rw [if_neg (show ¬ 65536 < r.size by omega)] at HFR
  have hfz : (bs (frameN r.data.toList)).size = r.size + 12 := by rw [bs_size, frame_len]; rfl
  obtain ⟨F, hF⟩ : ∃ F, bs (frameN r.data.toList) = F := ⟨_, rfl⟩
  rw [hF] at HFR hr hfz ⊢
  have hFm : F.size ≤ maxLen := by unfold maxLen; omega
  have HL := Lib.hid (fun wx (h : LgAt wx lb db m g seg size next safe) => last_one h)
  have HP := Lib.hid (show ∀ wx, DAt wx db m d → Calls Tryd.prog 69 #[.pointer (some ⟨db, 0, none⟩), .string nm1, .string F] wx fun e w' => e = .returned (.int .i64 0) ∧ DAt w' db m (d.append nm1 F).2 ∧ Kp db m wx w' from fun wx h => by rw [← hr]; exact append_any h hok hs hnm hFm)
  obtain ⟨S, hS⟩ : ∃ S, nm1 = S := ⟨_, rfl⟩
  rw [hS] at HL HP ⊢
  obtain ⟨D2, hD2⟩ : ∃ D2, (d.append S F).2 = D2 := ⟨_, rfl⟩
  rw [hD2] at HP ⊢
  have hne := h.ne
  have HLG := Lib.hid h
  have HDD := Lib.hid hd
  have hl0 := h.lt.1
  have hsz : ¬ seg ≤ size := by omega
  have hnx : ¬ (999999999999 : Int) < next := by omega
  have hwn : IntKind.i64.wrap (next + 1) = next + 1 := by rw [IntKind.wrap_i64]; omega
  have hws : IntKind.i64.wrap (size + (F.size : Int)) = size + (F.size : Int) := by rw [IntKind.wrap_i64]; omega
  clear h hd hok hs hr hS hnm hD2 hF hFm hfz hrs
  go_enter Tryd.func38, Tryd.ntmps38
  go_upto_region 2 with (first
    | (go_at_call 27; refine HFR.out.mono ?_; rintro e w2 ⟨rfl, hb⟩; have HL2 := Lib.hid (HLG.out.below hb); have HD2 : Hid (DAt w2 db m d) := DC.below HDD.out hb; have HK2 := Lib.hid ((Kl.refl lb db m w).below hb (Nat.le_refl _)); have hy2 := hb.size; clear hb)
    | fail)
  have c0 := HL2.out.c0
  have c1 := HL2.out.c1
  have c3 := HL2.out.c3
  have c4 := HL2.out.c4
  have c5 := HL2.out.c5
  have hl2 := HL2.out.lt.1
  go_upto_region 4 with fail
  go_quiet (fail)
  have HL3 := Lib.hid (HL2.out.drewN (n := nq))
  have HD3 : Hid (DAt (w2.drewN nq) db m d) := HD2.out.drewN
  have HK3 := Lib.hid (HK2.out.kp ((Kp.refl db m w2).drewN (n := nq)) hy2)
  have hy3 : w.heap.size ≤ (w2.drewN nq).heap.size := hy2
  have c0 := HL3.out.c0
  have c3 := HL3.out.c3
  have c4 := HL3.out.c4
  have c5 := HL3.out.c5
  have hl3 := HL3.out.lt.1
  generalize w2.drewN nq = w3 at *
  clear HL2 HD2 HK2 hy2 hl2
  go_upto_region 12 with fail
  have HLW := Lib.hid HL3.out.drew
  have HDW : Hid (DAt w3.drew db m d) := HD3.out.drew
  go_region_held3 (fun w' => ∀ j, w'.cell? ⟨lb, j, none⟩ = w3.cell? ⟨lb, j, none⟩) ((first | assumption | (intro j; rfl)))
    (first
      | (go_at_call 70; (with_reducible refine (HL.out _ HLW.out).mono ?_); rintro e w5 ⟨rfl, hb5⟩; have k5 : ∀ j, w5.cell? ⟨lb, j, none⟩ = w3.cell? ⟨lb, j, none⟩ := fun j => (hb5.cell (p := ⟨lb, j, none⟩) hl3).trans rfl; have HL5 := Lib.hid (HLW.out.below hb5); have HD5 : Hid (DAt w5 db m d) := DC.below HDW.out hb5; have HK5 := Lib.hid ((HK3.out.below (Below.refl _ _).drew hy3).below hb5 hy3); have hz5 : w3.heap.size ≤ w5.heap.size := hb5.size; clear hb5)
      | (go_at_call 69; (with_reducible refine (HP.out _ HD5.out).mono ?_); rintro e w6 ⟨rfl, hd6, hk6⟩; have k6 : ∀ j, w6.cell? ⟨lb, j, none⟩ = w3.cell? ⟨lb, j, none⟩ := fun j => (hk6.cell (Nat.lt_of_lt_of_le hl3 hz5) hne.1 hne.2.1 j).trans (k5 j); have HD6 := Lib.hid hd6; have HL6 := Lib.hid (HL5.out.kp hk6); have HK6 := Lib.hid (HK5.out.kp hk6 (Nat.le_trans hy3 hz5)); have hz6 := Nat.le_trans (Nat.le_trans hy3 hz5) hk6.size; clear hd6 hk6))
  have f3 := HL6.out.f3
  have f4 := HL6.out.f4
  go_wp2_with fail
  go_ret
  exact ⟨rfl, (HL6.out.set3 _).set4 _, DC.far (DC.far HD6.out (fun e => hne.1 e.symm) (fun e => hne.2.1 e.symm) _ _) (fun e => hne.1 e.symm) (fun e => hne.2.1 e.symm) _ _, (HK6.out.set _ _).set _ _, by simpa using hz6⟩
end Go.Proofs.YtnpgjlhnlakgpaaDoor

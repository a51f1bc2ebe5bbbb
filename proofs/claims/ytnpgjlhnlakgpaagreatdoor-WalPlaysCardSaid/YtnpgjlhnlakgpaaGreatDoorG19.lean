/- A log of any segments: Sync. A log of any segments: Trim. -/
import Derived.Test.YtnpgjlhnlakgpaaGreatDoorG12
import Derived.Test.YtnpgjlhnlakgpaaGreatDoorG04
import Derived.Deep.RegionHeld3
import Derived.Test.YtnpgjlhnlakgpaaGreatDoorG18
namespace Go.Proofs.YtnpgjlhnlakgpaaGreatDoor
open Go.RowKit Go.Maps

set_option maxRecDepth 100000 in
set_option maxHeartbeats 4000000 in
theorem sync_gen {w : World} {B lb db m g : Nat} {l : Lg} {d : Dk} (h : LgW w B lb db m g l) (ho : l.Ok) (hd : DAt w db m d) (hok : d.Ok) (hs : d.steps < 4611686018427387904) :
    Calls Tryz.prog 22 #[.pointer (some ⟨lb, 0, none⟩)] w fun e w' => e = .returned (.int .i64 (syncW d l).1) ∧ LgW w' B lb db m g (syncW d l).2.2 ∧ DAt w' db m (syncW d l).2.1 ∧ KL lb db m g w w' := by
  have hnm : (nameN l.lastN).size ≤ maxLen := by rw [nameN_size]; unfold maxLen; decide
  have HL := Lib.hid (fun wx (h : LgW wx B lb db m g l) => last_any h ho)
  have HP := Lib.hid (show ∀ wx, DAt wx db m d → Calls Tryz.prog 51 #[.pointer (some ⟨db, 0, none⟩), .string (nameN l.lastN)] wx fun e w' => e = .returned (.int .i64 (d.sync (nameN l.lastN)).1) ∧ DAt w' db m (d.sync (nameN l.lastN)).2 ∧ Kp db m wx w' from fun wx h => sync_any h hok hs hnm)
  have HDW := Lib.hid (show DAt w.drew db m d from hd.drew)
  have HLW := Lib.hid h.drew
  have c0 := h.c0
  have c4 := h.c4
  have c5 := h.c5
  have hlt := h.lt.1
  have hne := h.ne
  have hnx := ho.next
  have hww : IntKind.i64.wrap ((l.next : Int) - 1) = ((l.next - 1 : Nat) : Int) := by rw [IntKind.wrap_i64]; omega
  have HST : Hid (∀ W, LgW W B lb db m g l → LgW (W.setCell ⟨lb, 5, none⟩ (.int .i64 ((l.next - 1 : Nat) : Int))) B lb db m g { l with safe := l.next - 1 }) := fun W h => h.store 5 (by decide) (l.next - 1) _ rfl rfl rfl rfl rfl
  unfold syncW
  obtain ⟨S, hS⟩ : ∃ S, nameN l.lastN = S := ⟨_, rfl⟩
  rw [hS] at HL HP ⊢
  obtain ⟨D2, hD2⟩ : ∃ D2, (d.sync S).2 = D2 := ⟨_, rfl⟩
  obtain ⟨E, hE⟩ : ∃ E, (d.sync S).1 = E := ⟨_, rfl⟩
  simp only [hD2, hE] at HP ⊢
  obtain ⟨NX, hNX⟩ : ∃ NX : Int, (l.next : Int) = NX := ⟨_, rfl⟩
  obtain ⟨N1, hN1⟩ : ∃ N1 : Int, ((l.next - 1 : Nat) : Int) = N1 := ⟨_, rfl⟩
  rw [hNX] at c4 hww
  rw [hN1] at hww HST
  clear h hd hok hs hS hnm hD2 hE ho hnx hNX hN1
  by_cases hE0 : E = 0
  · subst hE0
    simp only [if_true]
    go_enter Tryz.func22, Tryz.ntmps22
    go_upto_region 1 with fail
    go_region_held3 (fun w' => ∀ j, w'.cell? ⟨lb, j, none⟩ = w.cell? ⟨lb, j, none⟩) ((first | assumption | (intro j; rfl)))
      (first
        | (go_at_call 50; (with_reducible refine (HL.out _ HLW.out).mono ?_); rintro e w5 ⟨rfl, hb5⟩; have k5 : ∀ j, w5.cell? ⟨lb, j, none⟩ = w.cell? ⟨lb, j, none⟩ := fun j => (hb5.cell (p := ⟨lb, j, none⟩) hlt).trans rfl; have HL5 := Lib.hid (HLW.out.below hb5); have HD5 : Hid (DAt w5 db m d) := DC.below HDW.out hb5; have HK5 := Lib.hid (((KL.refl lb db m g w).below (Below.refl _ _).drew).below hb5); clear hb5)
        | (go_at_call 51; (with_reducible refine (HP.out _ HD5.out).mono ?_); rintro e w6 ⟨rfl, hd6, hk6⟩; have k6 : ∀ j, w6.cell? ⟨lb, j, none⟩ = w.cell? ⟨lb, j, none⟩ := fun j => (hk6.cell (Nat.lt_of_lt_of_le hlt HK5.out.size) hne.1 hne.2.1 j).trans (k5 j); have HD6 := Lib.hid hd6; have HL6 := Lib.hid (HL5.out.kp hk6); have HK6 := Lib.hid (HK5.out.kp hk6); clear hd6 hk6))
    have f5 := HL6.out.f5
    go_wp2_with fail
    go_ret
    exact ⟨rfl, HST.out _ HL6.out, DC.far HD6.out (fun e => hne.1 e.symm) (fun e => hne.2.1 e.symm) _ _, HK6.out.set _ _⟩
  · have hEb : (E != 0) = true := by simpa using hE0
    simp only [if_neg hE0]
    go_enter Tryz.func22, Tryz.ntmps22
    go_upto_region 1 with fail
    go_region_held3 (fun w' => ∀ j, w'.cell? ⟨lb, j, none⟩ = w.cell? ⟨lb, j, none⟩) ((first | assumption | (intro j; rfl)))
      (first
        | (go_at_call 50; (with_reducible refine (HL.out _ HLW.out).mono ?_); rintro e w5 ⟨rfl, hb5⟩; have k5 : ∀ j, w5.cell? ⟨lb, j, none⟩ = w.cell? ⟨lb, j, none⟩ := fun j => (hb5.cell (p := ⟨lb, j, none⟩) hlt).trans rfl; have HL5 := Lib.hid (HLW.out.below hb5); have HD5 : Hid (DAt w5 db m d) := DC.below HDW.out hb5; have HK5 := Lib.hid (((KL.refl lb db m g w).below (Below.refl _ _).drew).below hb5); clear hb5)
        | (go_at_call 51; (with_reducible refine (HP.out _ HD5.out).mono ?_); rintro e w6 ⟨rfl, hd6, hk6⟩; have k6 : ∀ j, w6.cell? ⟨lb, j, none⟩ = w.cell? ⟨lb, j, none⟩ := fun j => (hk6.cell (Nat.lt_of_lt_of_le hlt HK5.out.size) hne.1 hne.2.1 j).trans (k5 j); have HD6 := Lib.hid hd6; have HL6 := Lib.hid (HL5.out.kp hk6); have HK6 := Lib.hid (HK5.out.kp hk6); clear hd6 hk6))
    go_wp2_with fail
    go_ret
    exact ⟨rfl, HL6.out, HD6.out, HK6.out⟩
end Go.Proofs.YtnpgjlhnlakgpaaGreatDoor
namespace Go.Proofs.YtnpgjlhnlakgpaaGreatDoor
open Go.RowKit Go.Maps

/-- How many numbers a log has. -/
def lenAt (w : World) (lb : Nat) : Nat := match w.cell? ⟨lb, 2, none⟩ with
  | some (.slice _ n _) => n
  | _ => 0
theorem LgW.lenAt {w : World} {B lb db m g : Nat} {l : Lg} (h : LgW w B lb db m g l) : lenAt w lb = l.nums.length := by
  obtain ⟨o, cap, hc, _⟩ := h.c2
  unfold Go.Proofs.YtnpgjlhnlakgpaaGreatDoor.lenAt
  rw [hc]
theorem remove_steps (d : Dk) (nm : ByteArray) : (d.remove nm).2.steps ≤ d.steps + 1 := by
  unfold Dk.remove
  split
  · show d.steps ≤ _; omega
  · split
    · show d.steps ≤ _; omega
    · unfold Dk.act
      split
      · show d.steps ≤ _; omega
      · show d.steps + 1 ≤ _; omega
theorem Lg.Ok.tail {l : Lg} (h : l.Ok) {a b : Nat} {t : List Nat} (e : l.nums = a :: b :: t) : ({ l with nums := b :: t } : Lg).Ok :=
  ⟨by simp, fun n hn => h.bd n (by rw [e]; exact List.mem_cons_of_mem _ hn), h.size, h.next, h.safe, h.seg⟩
set_option maxRecDepth 100000 in
set_option maxHeartbeats 8000000 in
theorem trim_gen {w : World} {B lb db m g : Nat} {l : Lg} {d : Dk} (h : LgW w B lb db m g l) (ho : l.Ok) (hd : DAt w db m d) (hok : d.Ok) (hs : d.steps + l.nums.length < 4611686018427387904) (n : Int) :
    Calls Tryz.prog 34 #[.pointer (some ⟨lb, 0, none⟩), .int .i64 n] w fun e w' => e = .returned (.int .i64 (trimW d l n).1) ∧ LgW w' B lb db m g (trimW d l n).2.2 ∧ DAt w' db m (trimW d l n).2.1 ∧ KL lb db m g w w' := by
  have hne := h.ne
  have hlb := h.lt
  unfold trimW
  obtain ⟨R, hR⟩ : ∃ R, trimN n d l.nums = R := ⟨_, rfl⟩
  rw [hR]
  have H0 : Hid (∃ (d' : Dk) (nums' : List Nat), trimN n d' nums' = R ∧ LgW w B lb db m g { l with nums := nums' } ∧ ({ l with nums := nums' } : Lg).Ok ∧ DAt w db m d' ∧ d'.Ok ∧ d'.steps + nums'.length < 4611686018427387904) := ⟨d, l.nums, hR, h, ho, hd, hok, hs⟩
  clear hR h ho hd hok hs
  go_enter Tryz.func34, Tryz.ntmps34
  go_wp2_with fail
  go_loopw [] (fun wr => (∃ (d' : Dk) (nums' : List Nat), trimN n d' nums' = R ∧ LgW wr B lb db m g { l with nums := nums' } ∧ ({ l with nums := nums' } : Lg).Ok ∧ DAt wr db m d' ∧ d'.Ok ∧ d'.steps + nums'.length < 4611686018427387904) ∧ KL lb db m g w wr) (fun wr => lenAt wr lb)
  case atStart => exact ⟨H0.out, KL.refl _ _ _ _ _⟩
  case round =>
    obtain ⟨⟨d', nums', hT, hL, hO, hD, hDo, hst⟩, hK⟩ := hrel
    have HK := Lib.hid hK
    have hlr : lb < wr.heap.size := hL.lt.1
    have hgr : g < wr.heap.size := hL.lt.2
    clear hK
    match nums', hO with
    | [], hO => exact absurd rfl hO.nz
    | [a], hO =>
      obtain ⟨o, cap, c2, _⟩ := hL.c2
      have HL := Lib.hid hL
      have HD := Lib.hid hD
      have hT' : R = (0, d', [a]) := hT.symm
      subst hT'
      simp only [List.length_singleton] at c2
      clear hL hD hT hO
      go_wp2_with fail
      go_ret
      exact ⟨rfl, HL.out, HD.out, HK.out⟩
    | a :: b :: t, hO =>
      obtain ⟨o, cap, c2, hnm⟩ := hL.c2
      have n0 := hnm.cell (i := 0) (n := a) rfl
      have n1 := hnm.cell (i := 1) (n := b) rfl
      have hle := hnm.le
      have hmx := hnm.max
      rw [Nat.add_zero] at n0
      obtain ⟨ha0, ha1⟩ := hO.bd a (by simp)
      obtain ⟨hb0, hb1⟩ := hO.bd b (by simp)
      have HNT := Lib.hid hnm.tail
      have HO2 := Lib.hid (hO.tail rfl)
      have c0 := hL.c0
      have f2 := hL.f2
      have HL := Lib.hid hL
      have HD := Lib.hid hD
      obtain ⟨k, hk⟩ : ∃ k, t.length = k := ⟨_, rfl⟩
      simp only [List.length_cons, hk] at c2 hle hst
      unfold maxLen at hmx
      have q1 : IntKind.i64.wrap ((b : Int) - 1) = (b : Int) - 1 := by rw [IntKind.wrap_i64]; omega
      have q2 : (1 : Int) < (k : Int) + 1 + 1 := by omega
      have q3 : (0 : Int) < (k : Int) + 1 + 1 := by omega
      by_cases hc : (b : Int) - 1 ≤ n
      · have hnn : (nameN a).size ≤ maxLen := by rw [nameN_size]; unfold maxLen; decide
        have HN := Lib.hid (fun W (hP : Pow W) => name_any a ha0 ha1 W hP)
        have HP := Lib.hid (show ∀ wx, DAt wx db m d' → Calls Tryz.prog 70 #[.pointer (some ⟨db, 0, none⟩), .string (nameN a)] wx fun e w' => e = .returned (.int .i64 (d'.remove (nameN a)).1) ∧ DAt w' db m (d'.remove (nameN a)).2 ∧ Kp db m wx w' from fun wx h => remove_any h hDo (by omega) hnn)
        have hRe : R = if (d'.remove (nameN a)).1 = 0 then trimN n (d'.remove (nameN a)).2 (b :: t) else ((d'.remove (nameN a)).1, (d'.remove (nameN a)).2, a :: b :: t) := by rw [← hT]; exact if_pos hc
        have hok2 := hDo.remove (nameN a)
        have hst2 := remove_steps d' (nameN a)
        obtain ⟨S, hS⟩ : ∃ S, nameN a = S := ⟨_, rfl⟩
        rw [hS] at HN HP hRe hok2 hst2
        obtain ⟨D2, hD2⟩ : ∃ D2, (d'.remove S).2 = D2 := ⟨_, rfl⟩
        obtain ⟨E, hE⟩ : ∃ E, (d'.remove S).1 = E := ⟨_, rfl⟩
        rw [hD2, hE] at HP hRe
        rw [hD2] at hok2 hst2
        have HRE := Lib.hid hRe
        have HST := Lib.hid (show D2.steps + (k + 1) < 4611686018427387904 by omega)
        have HOK := Lib.hid hok2
        clear hL hD hT hO hnm hS hD2 hE hRe hnn hDo hst hok2 hst2
        go_upto_region 2 with fail
        have HLW := Lib.hid HL.out.drew
        have HDW := Lib.hid (show DAt wr.drew db m d' from HD.out.drew)
        go_region_held3 (fun w' => ∀ j, w'.cell? ⟨lb, j, none⟩ = wr.cell? ⟨lb, j, none⟩ ∧ w'.cell? ⟨g, j, none⟩ = wr.cell? ⟨g, j, none⟩) ((first | assumption | (intro j; exact ⟨rfl, rfl⟩)))
          (first
            | (go_at_call 48; (with_reducible refine (HN.out _ HLW.out.pow.here).mono ?_); rintro e w5 ⟨rfl, hb5⟩; have k5 : ∀ j, w5.cell? ⟨lb, j, none⟩ = wr.cell? ⟨lb, j, none⟩ ∧ w5.cell? ⟨g, j, none⟩ = wr.cell? ⟨g, j, none⟩ := fun j => ⟨(hb5.cell (p := ⟨lb, j, none⟩) hlr).trans rfl, (hb5.cell (p := ⟨g, j, none⟩) hgr).trans rfl⟩; have HL5 := Lib.hid (HLW.out.below hb5); have HD5 : Hid (DAt w5 db m d') := DC.below HDW.out hb5; have HK5 := Lib.hid (((KL.refl lb db m g wr).below (Below.refl _ _).drew).below hb5); have HP5 := Lib.hid (((Kp.refl db m wr).drew).step hb5); clear hb5)
            | (go_at_call 70; (with_reducible refine (HP.out _ HD5.out).mono ?_); rintro e w6 ⟨rfl, hd6, hk6⟩; have k6 : ∀ j, w6.cell? ⟨lb, j, none⟩ = wr.cell? ⟨lb, j, none⟩ ∧ w6.cell? ⟨g, j, none⟩ = wr.cell? ⟨g, j, none⟩ := fun j => ⟨(hk6.cell (Nat.lt_of_lt_of_le hlr HK5.out.size) hne.1 hne.2.1 j).trans (k5 j).1, (hk6.cell (Nat.lt_of_lt_of_le hgr HK5.out.size) hne.2.2.1 hne.2.2.2.1 j).trans (k5 j).2⟩; have HD6 := Lib.hid hd6; have HL6 := Lib.hid (HL5.out.kp hk6); have HK6 := Lib.hid (HK.out.trans (HK5.out.kp hk6) (.inl rfl)); have HK7 := Lib.hid (HP5.out.trans hk6); clear hd6 hk6))
        by_cases hE0 : E = 0
        · subst hE0
          have hRe : trimN n D2 (b :: t) = R := by rw [HRE.out]; rfl
          have HRe := Lib.hid hRe
          have e1 : ¬ cap = 1 := by omega
          have e2 : ((cap : Int) == 1) = false := by simp; omega
          have c6 := (k6 2).1.trans c2
          have f6 := HL6.out.f2
          have HN6 := Lib.hid (HNT.out.of_block (w' := w6) (HK7.out.block g hgr hne.2.2.1 hne.2.2.2.1))
          clear hRe
          have HRN := Lib.hid (HL6.out.renum (l' := { l with nums := b :: t }) HN6.out ⟨hne.2.2.1, hne.2.2.2.1, hne.2.2.2.2, HL6.out.bel.2.2.2.1⟩ rfl rfl rfl rfl)
          simp only [List.length_cons, hk] at HRN
          have HDF := Lib.hid (DC.far HD6.out (fun e => hne.1 e.symm) (fun e => hne.2.1 e.symm) 2 (.slice (some ⟨g, o + 1, none⟩) (k + 1) (cap - 1)))
          have HLN := Lib.hid HRN.out.lenAt
          have HLO := Lib.hid HL.out.lenAt
          simp only [List.length_cons, hk] at HLN HLO
          go_wp2_with fail
          go_roundw
          case rel => exact ⟨⟨D2, b :: t, HRe.out, HRN.out, HO2.out, HDF.out, HOK.out, by simp only [List.length_cons, hk]; exact HST.out⟩, HK6.out.set _ _⟩
          case measure => rw [HLO.out]; exact Nat.lt_of_le_of_lt (Nat.le_of_eq HLN.out) (by omega)
        · have hEb : (E != 0) = true := by simpa using hE0
          have hRe : R = (E, D2, a :: b :: t) := by rw [HRE.out, if_neg hE0]
          subst hRe
          go_wp2_with fail
          go_ret
          exact ⟨rfl, HL6.out, HD6.out, HK6.out⟩
      · have hRe : R = (0, d', a :: b :: t) := by rw [← hT]; exact if_neg hc
        subst hRe
        clear hL hD hT hO hnm
        go_wp2_with fail
        go_ret
        exact ⟨rfl, HL.out, HD.out, HK.out⟩
end Go.Proofs.YtnpgjlhnlakgpaaGreatDoor

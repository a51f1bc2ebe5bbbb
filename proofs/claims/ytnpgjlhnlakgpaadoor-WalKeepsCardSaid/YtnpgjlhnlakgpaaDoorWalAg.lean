/- The law's again: a log opened anew behind crashes. -/
import Derived.Test.YtnpgjlhnlakgpaaDoorWalAk
import Derived.Test.YtnpgjlhnlakgpaaDoorWalOg
import Derived.Test.YtnpgjlhnlakgpaaDoorVfsCrash
import Derived.Test.YtnpgjlhnlakgpaaDoorG07
namespace Go.Proofs.YtnpgjlhnlakgpaaDoor
open Go.RowKit Go.Maps

theorem ints_at {b m n c : Nat} {w : World} {p : Option Addr} {xs : List Int} (h : IntsAt b m w (.slice p n c) xs) {j : Nat} (hj : j < xs.length) : ∃ g o, p = some ⟨g, o, none⟩ ∧ n = xs.length ∧ w.cell? ⟨g, o + j, none⟩ = some (.int .i64 (xs.getD j 0)) := by
  obtain ⟨p', c', hv, hl, h2⟩ := h
  injection hv with h3 h4 h5
  subst h3 h5
  obtain ⟨g, o, rfl, h6, h7, hc⟩ := h2.resolve_left (fun e => by rw [e] at hj; simp at hj)
  exact ⟨g, o, rfl, h4, hc j hj⟩
theorem arm_st (d : Dk) (n : Int) : (d.arm n).steps = d.steps := by unfold Dk.arm; split <;> rfl
/-- What again answers. -/
def AgainPost (w0 : World) (B db m : Nat) (st seg : Nat) (all : List (List UInt8)) (a : Nat) (init : List (List (List UInt8))) (lst : List (List UInt8)) (e : Ending) (w' : World) : Prop :=
  ∃ lb g l d, e = .returned (.pointer (some ⟨lb, 0, none⟩)) ∧ LgW w' B lb db m g l ∧ DAt w' db m d ∧ LInv d l all a init lst l.size ∧ l.seg = seg ∧ l.safe + 1 = l.next ∧ (d.off = false ∧ d.steps ≤ st + 10) ∧ Kp db m w0 w' ∧ w0.heap.size ≤ lb ∧ w0.heap.size ≤ g
set_option maxRecDepth 100000 in
set_option maxHeartbeats 16000000 in
theorem again_any {w : World} {B db m : Nat} {d : Dk} {seg : Nat} {all : List (List UInt8)} {a : Nat} {init : List (List (List UInt8))} {lst : List (List UInt8)} {keep turn ss : List Int} {kv tv sv : Value}
    (h : DAt w db m d) (hc : CR d keep turn seg all a init lst) (hs : d.steps + 20 < 4611686018427387904) (h1 : 1 ≤ seg) (h2 : seg ≤ 65536) (hp : PowB B w) (hb : B ≤ db ∧ B ≤ m ∧ B ≤ w.heap.size)
    (hk : IntsAt db m w kv keep) (ht : IntsAt db m w tv turn) (hss : IntsAt db m w sv ss) (hkb : ∀ x ∈ keep, x ≤ 9223372036854775807) (htb : ∀ x ∈ turn, x ≤ 9223372036854775807) (hsb : ∀ x ∈ ss, x ≤ 9223372036854775807) :
    Calls Tryd.prog 48 #[.pointer (some ⟨db, 0, none⟩), .int .i64 (seg : Int), .agg #[kv, tv], sv] w (AgainPost w B db m d.steps seg all a init lst) := by
  obtain ⟨kp, kn, kc, rfl⟩ := hk.slice
  obtain ⟨tp, tn, tc, rfl⟩ := ht.slice
  obtain ⟨sp, sn, sc, rfl⟩ := hss.slice
  have hsn : sn = ss.length := by obtain ⟨p', c', hv, _⟩ := hss; injection hv
  have hdl := h.lt
  have hml := h.ltm
  have HD0 := Lib.hid h
  have HC0 := Lib.hid hc
  have HS := Lib.hid hs
  have HP := Lib.hid hp
  have HB := Lib.hid hb
  have HSN := Lib.hid hsn
  obtain ⟨st, hst⟩ : ∃ st, d.steps = st := ⟨_, rfl⟩
  rw [hst]
  have HST := Lib.hid hst
  have HK0 := Lib.hid hk
  have HT0 := Lib.hid ht
  have HSS0 := Lib.hid hss
  have HKB := Lib.hid hkb
  have HTB := Lib.hid htb
  have HSB := Lib.hid hsb
  have HCRc : Hid (∀ (wx : World) (dx : Dk), DAt wx db m dx → dx.Ok → Kp db m w wx → Calls Tryd.prog 75 #[.pointer (some ⟨db, 0, none⟩), .agg #[.slice kp kn kc, .slice tp tn tc]] wx fun e w' => e = .returned (.tuple #[]) ∧ DAt w' db m (dx.crash keep turn) ∧ Kp db m wx w') :=
    fun wx dx hd ho hkk => crash_any hd ho (HK0.out.kept hkk) (HT0.out.kept hkk) HKB.out HTB.out
  have HOP : Hid (∀ (wx : World) (dx : Dk), DAt wx db m dx → dx.Ok → dx.steps ≤ st + 8 → Kp db m w wx → Calls Tryd.prog 36 #[.pointer (some ⟨db, 0, none⟩), .int .i64 (seg : Int)] wx (OpenPost wx B db m (openW dx seg))) :=
    fun wx dx hd ho hst2 hkk => open_any hd ho (by have := HS.out; have := HST.out; omega) seg h1 h2 (HP.out.on (Kp.belowN (Below.refl B w) hkk HB.out.2.2 HB.out.1 HB.out.2.1)) ⟨HB.out.1, HB.out.2.1, Nat.le_trans HB.out.2.2 hkk.size⟩
  clear h hc hs hp hb hsn hst hk ht hss hkb htb hsb
  go_enter Tryd.func48, Tryd.ntmps48
  go_wp2_with fail
  have hW0 : ∀ o, (w.alloc (.cells #[.slice kp kn kc, .slice tp tn tc] 61)).cell? ⟨w.heap.size, o, none⟩ = (#[.slice kp kn kc, .slice tp tn tc] : Array Value)[o]? := fun o => World.cell?_alloc_new _ _ _ _
  have HW := Lib.hid ((Kp.refl db m w).alloc (.cells #[.slice kp kn kc, .slice tp tn tc] 61))
  have HDW : Hid (DAt (w.alloc (.cells #[.slice kp kn kc, .slice tp tn tc] 61)) db m d) := HD0.out.alloc _
  have hzW : w.heap.size < (w.alloc (.cells #[.slice kp kn kc, .slice tp tn tc] 61)).heap.size := by simp
  obtain ⟨cb, hcb⟩ : ∃ cb, w.heap.size = cb := ⟨_, rfl⟩
  rw [hcb] at hW0 hzW ⊢
  have HCB := Lib.hid hcb
  have hcd : cb ≠ db ∧ cb ≠ m := by omega
  clear hcb
  generalize w.alloc (.cells #[.slice kp kn kc, .slice tp tn tc] 61) = W at *
  have k0' : W.cell? ⟨cb, 0, none⟩ = some (.slice kp kn kc) := hW0 0
  have k1' : W.cell? ⟨cb, 1, none⟩ = some (.slice tp tn tc) := hW0 1
  have HK0' := Lib.hid k0'
  have HK1' := Lib.hid k1'
  clear hW0 k0' k1'
  -- the last opening
  have HFIN : Hid (∀ (wx : World) (dx : Dk), DAt wx db m dx → CR dx keep turn seg all a init lst → dx.steps ≤ st + 8 → Kp db m w wx → ∃ R : Int × Dk × Lg, openW (dx.crash keep turn) seg = R ∧ R.1 = 0 ∧ LInv R.2.1 R.2.2 all a init lst R.2.2.size ∧ R.2.2.seg = seg ∧ R.2.2.safe + 1 = R.2.2.next ∧ (R.2.1.off = false ∧ R.2.1.steps ≤ st + 10)) := fun wx dx hd hc hs hk => by
    obtain ⟨q1, q2, q3, q4⟩ := hc.last
    refine ⟨_, rfl, q1, q2, q3, q4, openW_off rfl rfl seg, ?_⟩
    have := openW_st (dx.crash keep turn) seg
    have e : (dx.crash keep turn).steps = dx.steps := rfl
    omega
  go_loopw [17] (fun iv wr => ∃ (i : Nat) (d' : Dk), i ≤ sn ∧ i ≤ 4 ∧ iv = .int .i64 (i : Int) ∧ DAt wr db m d' ∧ CR d' keep turn seg all a init lst ∧ d'.steps ≤ st + 2 * i ∧ Kp db m W wr) (fun iv _ => sn - (intOf iv).toNat)
  case atStart => exact ⟨0, d, Nat.zero_le _, by omega, rfl, HDW.out, HC0.out, by have := HST.out; omega, Kp.refl _ _ _⟩
  case round =>
    obtain ⟨i, d', hi, hi4, rfl, hd, hc, hst', hkw⟩ := hrel
    have HDR := Lib.hid hd
    have HCR' := Lib.hid hc
    have HOK' : Hid d'.Ok := hc.1
    have HKW := Lib.hid hkw
    have HKA := Lib.hid (HW.out.trans hkw)
    have HST' := Lib.hid hst'
    have k0 : wr.cell? ⟨cb, 0, none⟩ = some (.slice kp kn kc) := (hkw.cell hzW hcd.1 hcd.2 0).trans HK0'.out
    have k1 : wr.cell? ⟨cb, 1, none⟩ = some (.slice tp tn tc) := (hkw.cell hzW hcd.1 hcd.2 1).trans HK1'.out
    have hzr : cb < wr.heap.size := Nat.lt_of_lt_of_le hzW hkw.size
    obtain ⟨R, hR, r1, r2, r3, r4, r5⟩ := HFIN.out wr d' hd hc (by omega) HKA.out
    have HR := Lib.hid hR
    have HRX := Lib.hid (And.intro r1 (And.intro r2 (And.intro r3 (And.intro r4 r5))))
    have HLAST : Hid (∀ wx, DAt wx db m (d'.crash keep turn) → Kp db m wr wx → Calls Tryd.prog 36 #[.pointer (some ⟨db, 0, none⟩), .int .i64 (seg : Int)] wx fun e w' => ∃ lb g, e = .returned (.tuple #[.pointer (some ⟨lb, 0, none⟩), .int .i64 0]) ∧ LgW w' B lb db m g R.2.2 ∧ DAt w' db m R.2.1 ∧ Kp db m w w' ∧ w.heap.size ≤ lb ∧ w.heap.size ≤ g) := fun wx hd2 hk2 => by
      refine (HOP.out wx (d'.crash keep turn) hd2 (HCR'.out.1.crash keep turn) (by have := HST'.out; show d'.steps ≤ _; omega) (HKA.out.trans hk2)).mono ?_
      rw [HR.out]
      rintro e w' ⟨p1, p2, p3⟩
      have hz := ((HKA.out.trans hk2).size)
      rcases p3 with ⟨_, lb, g, p4, p5, p6, p7⟩ | ⟨p4, _⟩
      · exact ⟨lb, g, p4, p5, p1, (HKA.out.trans hk2).trans p2, Nat.le_trans hz p6, Nat.le_trans hz p7⟩
      · exact absurd HRX.out.1 p4
    clear hd hc hkw hst' hR r1 r2 r3 r4 r5
    by_cases hlt : i < sn
    · have hli : (i : Int) < (sn : Int) := by omega
      have hl0 : (0 : Int) ≤ (i : Int) := by omega
      obtain ⟨sg, so, rfl, hqq, sc0⟩ := ints_at (HSS0.out.kept HKA.out) (j := i) (by rw [← HSN.out]; exact hlt)
      clear hqq
      by_cases h4 : i < 4
      · have h4i : ¬ (4 : Int) ≤ (i : Int) := by omega
        obtain ⟨n, hn⟩ : ∃ n, ss.getD i 0 = n := ⟨_, rfl⟩
        rw [hn] at sc0
        clear hn
        go_upto_region 6 with (first
          | (go_at_call 75; (with_reducible refine (HCRc.out _ _ HDR.out HOK'.out HKA.out).mono ?_); rintro e w2 ⟨rfl, hd2, hk2⟩; have HD2 := Lib.hid hd2; have HK2 := Lib.hid hk2; clear hd2 hk2)
          | fail)
        go_upto_region 7 with (first
          | (go_at_call 46; refine (arm_any HD2.out _).mono ?_; rintro e w3 ⟨rfl, hd3, hk3⟩; have HD3 := Lib.hid hd3; have HK3 := Lib.hid (HK2.out.trans hk3); clear hd3 hk3)
          | fail)
        have hxb : max n 0 % 4 < 9223372036854775808 := by omega
        generalize max n 0 % 4 = x at *
        obtain ⟨hr, hcr⟩ := HCR'.out.armed x hxb
        have hst2 := openW_st ((d'.crash keep turn).arm x) seg
        rw [arm_st] at hst2
        have hst3 : (d'.crash keep turn).steps = d'.steps := rfl
        have HOX := Lib.hid (HOP.out w3 _ HD3.out ((HOK'.out.crash keep turn).arm hxb) (by rw [arm_st, hst3]; have := HST'.out; omega) (HKA.out.trans HK3.out))
        obtain ⟨X, hX⟩ : ∃ X, openW ((d'.crash keep turn).arm x) seg = X := ⟨_, rfl⟩
        rw [hX] at hr hcr hst2 HOX
        have HCN := Lib.hid hcr
        have HSN2 : Hid (X.2.1.steps ≤ st + 2 * (i + 1)) := by have := HST'.out; show _ ≤ _; omega
        have HKZ := Lib.hid (HKW.out.trans HK3.out)
        clear hX hcr hst2 hst3 sc0
        rcases hr with hr | hr
        · have HO2 : Hid (Calls Tryd.prog 36 #[.pointer (some ⟨db, 0, none⟩), .int .i64 (seg : Int)] w3 fun e w' => e = .returned (.tuple #[.pointer none, .int .i64 143]) ∧ DAt w' db m X.2.1 ∧ Kp db m w3 w') := by
            refine HOX.out.mono ?_
            rintro e w' ⟨p1, p2, p3⟩
            rcases p3 with ⟨p4, _⟩ | ⟨_, p4⟩
            · rw [hr] at p4; cases p4
            · rw [hr] at p4; exact ⟨p4, p1, p2⟩
          clear hr
          go_wp2_with (first
            | (go_at_call 36; (with_reducible refine HO2.out.mono ?_); rintro e w4 ⟨rfl, hd4, hk4⟩; have HX := Lib.hid (And.intro hd4 hk4); clear hd4 hk4)
            | fail)
          go_roundw
          case rel => exact ⟨i + 1, X.2.1, by omega, by omega, by go_num, HX.out.1, HCN.out, HSN2.out, HKZ.out.trans HX.out.2⟩
          case measure => simp [intOf]; omega
        · have HO2 : Hid (Calls Tryd.prog 36 #[.pointer (some ⟨db, 0, none⟩), .int .i64 (seg : Int)] w3 fun e w' => ∃ lb, e = .returned (.tuple #[.pointer (some ⟨lb, 0, none⟩), .int .i64 0]) ∧ DAt w' db m X.2.1 ∧ Kp db m w3 w') := by
            refine HOX.out.mono ?_
            rintro e w' ⟨p1, p2, p3⟩
            rcases p3 with ⟨_, lb, g, p4, _⟩ | ⟨p4, _⟩
            · exact ⟨lb, p4, p1, p2⟩
            · exact absurd hr p4
          clear hr
          go_wp2_with (first
            | (go_at_call 36; (with_reducible refine HO2.out.mono ?_); rintro e w4 ⟨lb4, rfl, hd4, hk4⟩; have HX := Lib.hid (And.intro hd4 hk4); clear hd4 hk4)
            | fail)
          go_roundw
          case rel => exact ⟨i + 1, X.2.1, by omega, by omega, by go_num, HX.out.1, HCN.out, HSN2.out, HKZ.out.trans HX.out.2⟩
          case measure => simp [intOf]; omega
      · have h4i : (4 : Int) ≤ (i : Int) := by omega
        go_wp2_with (first
          | (go_at_call 75; (with_reducible refine (HCRc.out _ _ HDR.out HOK'.out HKA.out).mono ?_); rintro e w2 ⟨rfl, hd2, hk2⟩; have HD2 := Lib.hid hd2; have HK2 := Lib.hid hk2; clear hd2 hk2)
          | (go_at_call 36; (with_reducible refine (HLAST.out _ HD2.out HK2.out).mono ?_); rintro e w3 ⟨lb, g, rfl, q1, q2, q3, q4, q5⟩; have HX := Lib.hid (And.intro q1 (And.intro q2 (And.intro q3 (And.intro q4 q5)))); clear q1 q2 q3 q4 q5)
          | fail)
        go_ret
        exact ⟨lb, g, R.2.2, R.2.1, rfl, HX.out.1, HX.out.2.1, HRX.out.2.1, HRX.out.2.2.1, HRX.out.2.2.2.1, HRX.out.2.2.2.2, HX.out.2.2.1, HX.out.2.2.2.1, HX.out.2.2.2.2⟩
    · have hiN : i = sn := by omega
      have hli : ¬ (i : Int) < (sn : Int) := by omega
      go_wp2_with (first
        | (go_at_call 75; (with_reducible refine (HCRc.out _ _ HDR.out HOK'.out HKA.out).mono ?_); rintro e w2 ⟨rfl, hd2, hk2⟩; have HD2 := Lib.hid hd2; have HK2 := Lib.hid hk2; clear hd2 hk2)
        | (go_at_call 36; (with_reducible refine (HLAST.out _ HD2.out HK2.out).mono ?_); rintro e w3 ⟨lb, g, rfl, q1, q2, q3, q4, q5⟩; have HX := Lib.hid (And.intro q1 (And.intro q2 (And.intro q3 (And.intro q4 q5)))); clear q1 q2 q3 q4 q5)
        | fail)
      go_ret
      exact ⟨lb, g, R.2.2, R.2.1, rfl, HX.out.1, HX.out.2.1, HRX.out.2.1, HRX.out.2.2.1, HRX.out.2.2.2.1, HRX.out.2.2.2.2, HX.out.2.2.1, HX.out.2.2.2.1, HX.out.2.2.2.2⟩
end Go.Proofs.YtnpgjlhnlakgpaaDoor

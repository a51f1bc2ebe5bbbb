/- A log's recover. -/
import Derived.Test.YtnpgjlhnlakgpaaGreatDoorG19
import Derived.Test.YtnpgjlhnlakgpaaGreatDoorG20
import Derived.Test.YtnpgjlhnlakgpaaGreatDoorG18
import Derived.Test.YtnpgjlhnlakgpaaGreatDoorG04
import Derived.Deep.RegionHeld3
namespace Go.Proofs.YtnpgjlhnlakgpaaGreatDoor
open Go.RowKit Go.Maps

theorem read_size' {d : Dk} (h : d.Ok) (nm : ByteArray) : (d.read nm).1.size ≤ 4194304 := by
  unfold Dk.read
  split
  · show (0 : Nat) ≤ _; omega
  · split
    · show (0 : Nat) ≤ _; omega
    · rename_i f hf
      have h1 := mem_used (findF_mem hf)
      have h2 := h.used
      have h3 := h.room
      show f.bytes.size ≤ _; omega
theorem scan_few' (s : List UInt8) : (scanF s).1.length ≤ s.length ∧ (scanF s).2 ≤ s.length := by
  refine ⟨?_, (scanF_back s).2.1⟩
  have : ∀ (f : Nat) (s : List UInt8), s.length < f → (scanN f s).1.length ≤ s.length := by
    intro f
    induction f with
    | zero => intro s h; omega
    | succ f ih =>
      intro s h
      simp only [scanN]
      cases ho : oneN s with
      | none => simp
      | some r =>
        have h1 := oneN_len ho
        have h2 := ih (s.drop (12 + r.length)) (by rw [List.length_drop]; omega)
        rw [List.length_drop] at h2
        simp only [List.length_cons]
        omega
  exact this _ s (Nat.lt_add_one _)
theorem cut_steps (d : Dk) (nm : ByteArray) (n : Int) : (d.cut nm n).2.steps ≤ d.steps + 1 := by
  unfold Dk.cut
  split
  · show d.steps ≤ _; omega
  · split
    · show d.steps ≤ _; omega
    · split
      · show d.steps ≤ _; omega
      · unfold Dk.act
        split
        · show d.steps ≤ _; omega
        · show d.steps + 1 ≤ _; omega
/-- Recovery under way. -/
structure RcI (B lb db m g o cap seg : Nat) (nums : List Nat) (d : Dk) (R : Int × Nat × Nat × Nat) (w wr : World) (i nx sz hv : Nat) : Prop where
  c2 : wr.cell? ⟨lb, 2, none⟩ = some (.slice (some ⟨g, o, none⟩) nums.length cap)
  lg : LgW wr B lb db m g ⟨seg, nums, sz, nx, 0⟩
  dk : DAt wr db m d
  kl : KL lb db m g w wr
  res : recN d nx sz hv (nums.drop i) = R
  bd : nx ≤ 1000004194304 ∧ sz ≤ 4194304 ∧ hv ≤ 4194304
  pos : 0 < i → 1 ≤ nx
set_option maxRecDepth 100000 in
set_option maxHeartbeats 16000000 in
theorem recover_gen {w : World} {B lb db m g seg : Nat} {nums : List Nat} {d : Dk} (h : LgW w B lb db m g ⟨seg, nums, 0, 0, 0⟩) (hd : DAt w db m d) (hok : d.Ok) (hs : d.steps + 2 < 4611686018427387904) (hnz : nums ≠ []) (hbd : ∀ n ∈ nums, 0 < n ∧ n < 1000000000000) (hsg : 1 ≤ seg ∧ seg ≤ 65536) :
    Calls Tryz.prog 49 #[.pointer (some ⟨lb, 0, none⟩)] w fun e w' => e = .returned (.int .i64 (recW d seg nums).1) ∧ ((recW d seg nums).1 = 0 → LgW w' B lb db m g (recW d seg nums).2.2) ∧ DAt w' db m (recW d seg nums).2.1 ∧ KL lb db m g w w' := by
  have hne := h.ne
  obtain ⟨R, hR⟩ : ∃ R, recN d 0 0 0 nums = R := ⟨_, rfl⟩
  have hRW : recW d seg nums = if R.1 = 0 then if 999999999999 + 1 < R.2.1 then (150, d, ⟨seg, nums, R.2.2.1, R.2.1, 0⟩) else mendW d ⟨seg, nums, R.2.2.1, R.2.1, 0⟩ R.2.2.2 else (R.1, d, ⟨seg, nums, R.2.2.1, R.2.1, 0⟩) := by unfold recW; rw [hR]
  obtain ⟨N, hN⟩ : ∃ N, nums.length = N := ⟨_, rfl⟩
  obtain ⟨o, cap, c2, hnm⟩ := h.c2
  simp only at c2 hnm
  have H0 : Hid (RcI B lb db m g o cap seg nums d R w w 0 0 0 0) := ⟨c2, h, hd, KL.refl _ _ _ _ _, by rw [List.drop_zero]; exact hR, ⟨by omega, by omega, by omega⟩, fun h => absurd h (Nat.lt_irrefl 0)⟩
  have HN := Lib.hid hN
  have HRW := Lib.hid hRW
  have HOK := Lib.hid hok
  have HS := Lib.hid hs
  have HBD := Lib.hid hbd
  have HNZ := Lib.hid hnz
  rw [hN] at c2
  have hN1 : 1 ≤ N := by rw [← hN]; exact List.length_pos_iff.2 hnz
  have hmx := hnm.max
  have hle := hnm.le
  rw [hN] at hle
  unfold maxLen at hmx
  have q1 : IntKind.i64.wrap ((N : Int) - 1) = (N : Int) - 1 := by rw [IntKind.wrap_i64]; omega
  have hlw := h.lt
  clear h hd hok hs hR hRW hN hnz hbd hnm
  go_enter Tryz.func49, Tryz.ntmps49
  go_wp2_with fail
  go_loopw [4, 23] (fun hv' iv wr => ∃ (i nx sz hv : Nat), i ≤ N ∧ iv = .int .i64 (i : Int) ∧ hv' = .int .i64 (hv : Int) ∧ RcI B lb db m g o cap seg nums d R w wr i nx sz hv) (fun _ iv _ => N - (intOf iv).toNat)
  case atStart => exact ⟨0, 0, 0, 0, Nat.zero_le _, rfl, rfl, H0.out⟩
  case round =>
    obtain ⟨i, nx, sz, hv, hi, rfl, rfl, hri⟩ := hrel
    have HRI := Lib.hid hri
    have c0 := hri.lg.c0
    have hlb := hri.lg.lt
    have c2r := hri.c2
    have hnmr : NumAt wr g o cap nums := by
      obtain ⟨o2, cap2, h1, h2⟩ := hri.lg.c2
      simp only at h1 h2
      rw [c2r] at h1
      cases h1
      exact h2
    rw [HN.out] at c2r
    clear hri
    by_cases hlt : i < N
    · have hli : (i : Int) < (N : Int) := by omega
      have hl0 : (0 : Int) ≤ (i : Int) := by omega
      obtain ⟨n, hn⟩ : ∃ n, nums[i]? = some n := ⟨nums[i]'(by rw [HN.out]; exact hlt), List.getElem?_eq_getElem _⟩
      have cn := hnmr.cell hn
      have hnb := HBD.out n (List.mem_of_getElem? hn)
      have hdr : nums.drop i = n :: nums.drop (i + 1) := by rw [← List.getElem_cons_drop (by rw [HN.out]; exact hlt)]; congr 1; rw [List.getElem?_eq_getElem (by rw [HN.out]; exact hlt)] at hn; exact Option.some.inj hn
      obtain ⟨Bt, E, hRd⟩ : ∃ Bt E, d.read (nameN n) = (Bt, E) := ⟨_, _, rfl⟩
      have hBt : Bt.size ≤ 4194304 := by
        have := read_size' HOK.out (nameN n)
        rw [hRd] at this
        exact this
      have hStep : R = if E = 0 then (if nums.drop (i + 1) ≠ [] ∧ ((scanF Bt.data.toList).2 < Bt.size ∨ n + (scanF Bt.data.toList).1.length ≠ (nums.drop (i + 1)).headD 0) then (150, n + (scanF Bt.data.toList).1.length, (scanF Bt.data.toList).2, Bt.size) else recN d (n + (scanF Bt.data.toList).1.length) (scanF Bt.data.toList).2 Bt.size (nums.drop (i + 1))) else (E, nx, sz, hv) := by
        have h1 := HRI.out.res
        rw [hdr] at h1
        rw [← h1]
        simp only [recN, hRd]
      have hsl := scan_few' Bt.data.toList
      have hbl : Bt.data.toList.length = Bt.size := by simp
      have HSC : Hid (∀ W, Calls Tryz.prog 15 #[.string Bt] W fun e w' => ∃ v, e = .returned (.tuple #[v, .int .i64 ((scanF Bt.data.toList).2 : Int)]) ∧ SL W w' v (scanF Bt.data.toList).1) := fun W => scan_any Bt W (by omega)
      obtain ⟨rs, en, hsc⟩ : ∃ rs en, scanF Bt.data.toList = (rs, en) := ⟨_, _, rfl⟩
      rw [hsc] at hStep hsl HSC
      simp only at hStep hsl HSC
      obtain ⟨rl, hrl⟩ : ∃ rl, rs.length = rl := ⟨_, rfl⟩
      rw [hrl] at hStep hsl
      have HRL := Lib.hid hrl
      have HSTEP := Lib.hid hStep
      have hnn : (nameN n).size ≤ maxLen := by rw [nameN_size]; unfold maxLen; decide
      have HNMc := Lib.hid (fun W (hP : Pow W) => name_any n hnb.1 hnb.2 W hP)
      have HRDc : Hid (∀ W, DAt W db m d → Calls Tryz.prog 72 #[.pointer (some ⟨db, 0, none⟩), .string (nameN n)] W fun e w' => e = .returned (.tuple #[.string Bt, .int .i64 E]) ∧ Below W.heap.size W w') := fun W h => by
        have h1 := read_any h hnn
        rw [hRd] at h1
        exact h1
      obtain ⟨NM, hNM⟩ : ∃ NM, nameN n = NM := ⟨_, rfl⟩
      rw [hNM] at HNMc HRDc
      have HLd := Lib.hid HRI.out.lg.drew
      have HDd : Hid (DAt wr.drew db m d) := HRI.out.dk.drew
      have HNMR := Lib.hid hnmr
      have hrl2 : rl ≤ 4194304 := by omega
      have hen2 : en ≤ 4194304 := by omega
      clear hRd hnn hNM hStep hsc hrl hdr hsl hbl hnmr
      go_upto_region 6 with fail
      go_region_held3 (fun w' => ∀ j, w'.cell? ⟨lb, j, none⟩ = wr.cell? ⟨lb, j, none⟩) ((first | assumption | (intro j; rfl)))
        (first
          | (go_at_call 48; (with_reducible refine (HNMc.out _ HLd.out.pow.here).mono ?_); rintro e w5 ⟨rfl, hb5⟩; have k5 : ∀ j, w5.cell? ⟨lb, j, none⟩ = wr.cell? ⟨lb, j, none⟩ := fun j => (hb5.cell (p := ⟨lb, j, none⟩) hlb.1).trans rfl; have HD5 : Hid (DAt w5 db m d) := DC.below HDd.out hb5; have HA5 := Lib.hid (show Below wr.heap.size wr w5 from (Below.refl _ _).drew.trans hb5); clear hb5)
          | (go_at_call 72; (with_reducible refine (HRDc.out _ HD5.out).mono ?_); rintro e w6 ⟨rfl, hb6⟩; have HA6 := Lib.hid (HA5.out.trans (hb6.mono HA5.out.size)); have k6 : ∀ j, w6.cell? ⟨lb, j, none⟩ = wr.cell? ⟨lb, j, none⟩ := fun j => HA6.out.cell (p := ⟨lb, j, none⟩) hlb.1; clear hb6))
      by_cases hE : E = 0
      · subst hE
        have HST2 := HSTEP.out
        rw [if_pos rfl] at HST2
        have HST2 := Lib.hid HST2
        go_upto_region 10 with (first
          | (go_at_call 15; refine (HSC.out _).mono ?_; rintro e w7 ⟨v7, rfl, hk⟩; have HA7 := Lib.hid (HA6.out.trans (hk.B.mono HA6.out.size)); obtain ⟨p7, c7, hv7⟩ := owns_sl2 hk.o; rw [HRL.out] at hv7; subst hv7; clear hk)
          | fail)
        have HL7 := Lib.hid (HRI.out.lg.below HA7.out)
        have HD7 : Hid (DAt w7 db m d) := DC.below HRI.out.dk HA7.out
        have HK7 := Lib.hid (HRI.out.kl.below HA7.out)
        have HN7 := Lib.hid (HNMR.out.of_block (w' := w7) (HA7.out.block g hlb.2))
        have c07 := HL7.out.c0
        have c37 := HL7.out.c3
        have c47 := HL7.out.c4
        have f37 := HL7.out.f3
        have f47 := HL7.out.f4
        have hlb7 := HL7.out.lt
        simp only at c37 c47
        have c27 : w7.cell? ⟨lb, 2, none⟩ = some (.slice (some ⟨g, o, none⟩) N cap) := (HA7.out.cell (p := ⟨lb, 2, none⟩) hlb.1).trans c2r
        have q3 : IntKind.i64.wrap ((n : Int) + (rl : Int)) = (n : Int) + (rl : Int) := by rw [IntKind.wrap_i64]; omega
        have q4 : IntKind.i64.wrap ((i : Int) + 1) = (i : Int) + 1 := by rw [IntKind.wrap_i64]; omega
        obtain ⟨W8, hW8⟩ : ∃ W8, (w7.setCell ⟨lb, 4, none⟩ (.int .i64 ((n : Int) + (rl : Int)))).setCell ⟨lb, 3, none⟩ (.int .i64 (en : Int)) = W8 := ⟨_, rfl⟩
        have HL8 : Hid (LgW W8 B lb db m g ⟨seg, nums, en, n + rl, 0⟩) := by
          have h1 := (HL7.out.store 4 (.inr (.inl rfl)) (n + rl) ⟨seg, nums, sz, n + rl, 0⟩ rfl rfl rfl rfl rfl).store 3 (.inl rfl) en ⟨seg, nums, en, n + rl, 0⟩ rfl rfl rfl rfl rfl
          rw [Int.natCast_add, hW8] at h1
          exact h1
        have HD8 : Hid (DAt W8 db m d) := by
          rw [← hW8]
          exact DC.far (DC.far HD7.out (fun e => hne.1 e.symm) (fun e => hne.2.1 e.symm) 4 _) (fun e => hne.1 e.symm) (fun e => hne.2.1 e.symm) 3 _
        have HK8 : Hid (KL lb db m g w W8) := by
          rw [← hW8]
          exact (HK7.out.set _ _).set _ _
        have HN8 : Hid (NumAt W8 g o cap nums) := by
          refine HN7.out.of_block ?_
          rw [← hW8]
          exact (Below.heap_setCell _ _ _ _ hne.2.2.2.2).trans (Below.heap_setCell _ _ _ _ hne.2.2.2.2)
        have c28 : W8.cell? ⟨lb, 2, none⟩ = some (.slice (some ⟨g, o, none⟩) N cap) := by
          rw [← hW8, World.cell?_setCell_other _ _ _ _ (by intro e; cases e), World.cell?_setCell_other _ _ _ _ (by intro e; cases e)]
          exact c27
        have c48 := HL8.out.c4
        simp only [Int.natCast_add] at c48
        go_upto_region 11 with fail
        clear hW8 c07 c27 c37 c47 f37 f47 hlb7
        by_cases hla : i + 1 < N
        · obtain ⟨n2, hn2⟩ : ∃ n2, nums[i + 1]? = some n2 := ⟨nums[i + 1]'(by rw [HN.out]; exact hla), List.getElem?_eq_getElem _⟩
          have cn2 := HN8.out.cell hn2
          have HDR2 : Hid (nums.drop (i + 1) ≠ [] ∧ (nums.drop (i + 1)).headD 0 = n2) := by
            have hdr : nums.drop (i + 1) = n2 :: nums.drop (i + 1 + 1) := by rw [← List.getElem_cons_drop (by rw [HN.out]; exact hla)]; congr 1; rw [List.getElem?_eq_getElem (by rw [HN.out]; exact hla)] at hn2; exact Option.some.inj hn2
            show _ ∧ _
            rw [hdr]
            exact ⟨by simp, rfl⟩
          have hila : (i : Int) < (N : Int) - 1 := by omega
          have hi10 : (0 : Int) ≤ (i : Int) + 1 := by omega
          have hi11 : (i : Int) + 1 < (N : Int) := by omega
          clear hn2
          by_cases hen : en < Bt.size
          · have hen1 : (en : Int) < (Bt.size : Int) := by omega
            have HRE : Hid (recW d seg nums = (150, d, ⟨seg, nums, en, n + rl, 0⟩)) := by
              show _ = _
              have h2 : R = (150, n + rl, en, Bt.size) := by rw [HST2.out]; exact if_pos ⟨HDR2.out.1, .inl hen⟩
              rw [HRW.out, h2]
              exact if_neg (show ¬ (150 : Int) = 0 by decide)
            go_quiet (fail)
            go_wp2_with fail
            go_ret
            exact ⟨by rw [HRE.out]; rfl, fun h => (by rw [HRE.out] at h; cases h), by rw [HRE.out]; exact HD8.out.drewN, HK8.out.kp (Kp.refl _ _ _).drewN⟩
          · have hen1 : ¬ (en : Int) < (Bt.size : Int) := by omega
            by_cases hnn : n + rl = n2
            · have hnn1 : ((n : Int) + (rl : Int) != (n2 : Int)) = false := by simp; omega
              have HRE : Hid (recN d (n + rl) en Bt.size (nums.drop (i + 1)) = R) := by
                show _ = _
                rw [HST2.out]
                exact (if_neg (fun h => h.2.elim hen (fun h => h (by rw [HDR2.out.2]; exact hnn)))).symm
              go_quiet (fail)
              go_wp2_with fail
              go_roundw
              case rel => exact ⟨i + 1, n + rl, en, Bt.size, by omega, by go_num, rfl, ⟨by rw [HN.out]; exact c28, HL8.out.drewN, HD8.out.drewN, HK8.out.kp (Kp.refl _ _ _).drewN, HRE.out, ⟨by omega, by omega, by omega⟩, fun _ => by omega⟩⟩
              case measure => simp [intOf]; omega
            · have hnn1 : ((n : Int) + (rl : Int) != (n2 : Int)) = true := by simp; omega
              have HRE : Hid (recW d seg nums = (150, d, ⟨seg, nums, en, n + rl, 0⟩)) := by
                show _ = _
                have h2 : R = (150, n + rl, en, Bt.size) := by rw [HST2.out]; exact if_pos ⟨HDR2.out.1, .inr (by rw [HDR2.out.2]; exact hnn)⟩
                rw [HRW.out, h2]
                exact if_neg (show ¬ (150 : Int) = 0 by decide)
              go_quiet (fail)
              go_wp2_with fail
              go_ret
              exact ⟨by rw [HRE.out]; rfl, fun h => (by rw [HRE.out] at h; cases h), by rw [HRE.out]; exact HD8.out.drewN, HK8.out.kp (Kp.refl _ _ _).drewN⟩
        · have hila : ¬ (i : Int) < (N : Int) - 1 := by omega
          have HRE : Hid (recN d (n + rl) en Bt.size (nums.drop (i + 1)) = R) := by
            show _ = _
            rw [HST2.out]
            exact (if_neg (fun h => h.1 (List.drop_eq_nil_of_le (by rw [HN.out]; omega)))).symm
          go_quiet (fail)
          go_wp2_with fail
          go_roundw
          case rel => exact ⟨i + 1, n + rl, en, Bt.size, by omega, by go_num, rfl, ⟨by rw [HN.out]; exact c28, HL8.out.drewN, HD8.out.drewN, HK8.out.kp (Kp.refl _ _ _).drewN, HRE.out, ⟨by omega, by omega, by omega⟩, fun _ => by omega⟩⟩
          case measure => simp [intOf]; omega
      · have hEb : (E != 0) = true := by simpa using hE
        have HRE : Hid (recW d seg nums = (E, d, ⟨seg, nums, sz, nx, 0⟩)) := by
          show _ = _
          rw [HRW.out, HSTEP.out, if_neg hE]
          exact if_neg hE
        go_wp2_with fail
        go_ret
        exact ⟨by rw [HRE.out]; rfl, fun h => (by rw [HRE.out] at h; exact absurd h hE), by rw [HRE.out]; exact DC.below HRI.out.dk HA6.out, HRI.out.kl.below HA6.out⟩
    · have hiN : i = N := by omega
      have hli : ¬ (i : Int) < (N : Int) := by omega
      have HRE : Hid (R = (0, nx, sz, hv)) := by
        show _ = _
        rw [← HRI.out.res, List.drop_eq_nil_of_le (by rw [HN.out]; omega)]
        rfl
      have HRW2 : Hid (recW d seg nums = if 999999999999 + 1 < nx then (150, d, ⟨seg, nums, sz, nx, 0⟩) else mendW d ⟨seg, nums, sz, nx, 0⟩ hv) := by
        show _ = _
        rw [HRW.out, HRE.out]
        exact if_pos rfl
      have hbd := HRI.out.bd
      have c3 := HRI.out.lg.c3
      have c4 := HRI.out.lg.c4
      simp only at c3 c4
      have q2 : IntKind.i64.wrap ((nx : Int) - 1) = (nx : Int) - 1 := by rw [IntKind.wrap_i64]; omega
      by_cases hnx : 999999999999 + 1 < nx
      · have hni : (999999999999 : Int) < (nx : Int) - 1 := by omega
        have HRE2 : Hid (recW d seg nums = (150, d, ⟨seg, nums, sz, nx, 0⟩)) := by show _ = _; rw [HRW2.out, if_pos hnx]
        go_wp2_with fail
        go_ret
        exact ⟨by rw [HRE2.out]; rfl, fun h => (by rw [HRE2.out] at h; cases h), by rw [HRE2.out]; exact HRI.out.dk, HRI.out.kl⟩
      · have hni : ¬ (999999999999 : Int) < (nx : Int) - 1 := by omega
        have HRE2 : Hid (recW d seg nums = mendW d ⟨seg, nums, sz, nx, 0⟩ hv) := by show _ = _; rw [HRW2.out, if_neg hnx]
        have hps := HRI.out.pos (by omega)
        have HO := Lib.hid (show (⟨seg, nums, sz, nx, 0⟩ : Lg).Ok from ⟨HNZ.out, HBD.out, by simp only; omega, ⟨hps, by simp only; omega⟩, by simp only; omega, hsg⟩)
        obtain ⟨LL, hLL⟩ : ∃ LL : Lg, ⟨seg, nums, sz, nx, 0⟩ = LL := ⟨_, rfl⟩
        have HL := Lib.hid HRI.out.lg
        have HD := Lib.hid HRI.out.dk
        have HK := Lib.hid HRI.out.kl
        have hsz : LL.size = sz := by rw [← hLL]
        rw [hLL] at HRE2 HO HL
        have HSZ := Lib.hid hsz
        clear hLL hsz hps hbd HRW2 HRE HRI hnmr
        by_cases hcut : sz < hv
        · have hcu : (sz : Int) < (hv : Int) := by omega
          have hnn : (nameN LL.lastN).size ≤ maxLen := by rw [nameN_size]; unfold maxLen; decide
          have HLA := Lib.hid (fun wx (h : LgW wx B lb db m g LL) => last_any h HO.out)
          have HCT := Lib.hid (show ∀ wx, DAt wx db m d → Calls Tryz.prog 80 #[.pointer (some ⟨db, 0, none⟩), .string (nameN LL.lastN), .int .i64 (sz : Int)] wx fun e w' => e = .returned (.int .i64 (d.cut (nameN LL.lastN) (sz : Int)).1) ∧ DAt w' db m (d.cut (nameN LL.lastN) (sz : Int)).2 ∧ Kp db m wx w' from fun wx h => cut_any h HOK.out (by have := HS.out; omega) hnn _)
          have hok2 := HOK.out.cut (nameN LL.lastN) (sz : Int)
          have hst2 := cut_steps d (nameN LL.lastN) (sz : Int)
          have hme : mendW d LL hv = if (d.cut (nameN LL.lastN) (sz : Int)).1 = 0 then syncW (d.cut (nameN LL.lastN) (sz : Int)).2 LL else ((d.cut (nameN LL.lastN) (sz : Int)).1, (d.cut (nameN LL.lastN) (sz : Int)).2, LL) := by
            unfold mendW
            rw [HSZ.out, if_pos hcut]
          obtain ⟨NM, hNM⟩ : ∃ NM, nameN LL.lastN = NM := ⟨_, rfl⟩
          rw [hNM] at HLA HCT hok2 hst2 hme
          obtain ⟨D2, hD2⟩ : ∃ D2, (d.cut NM (sz : Int)).2 = D2 := ⟨_, rfl⟩
          obtain ⟨E, hE⟩ : ∃ E, (d.cut NM (sz : Int)).1 = E := ⟨_, rfl⟩
          rw [hD2, hE] at HCT hme
          rw [hD2] at hok2 hst2
          have HME := Lib.hid (HRE2.out.trans hme)
          have HS2 := Lib.hid (show D2.steps < 4611686018427387904 by have := HS.out; omega)
          have HOK2 := Lib.hid hok2
          clear hnn hNM hD2 hE hme hok2 hst2
          go_upto_region 17 with fail
          have HLW := Lib.hid HL.out.drew
          have HDW := Lib.hid (show DAt wr.drew db m d from HD.out.drew)
          go_region_held3 (fun w' => ∀ j, w'.cell? ⟨lb, j, none⟩ = wr.cell? ⟨lb, j, none⟩) ((first | assumption | (intro j; rfl)))
            (first
              | (go_at_call 50; (with_reducible refine (HLA.out _ HLW.out).mono ?_); rintro e w5 ⟨rfl, hb5⟩; have k5 : ∀ j, w5.cell? ⟨lb, j, none⟩ = wr.cell? ⟨lb, j, none⟩ := fun j => (hb5.cell (p := ⟨lb, j, none⟩) hlb.1).trans rfl; have HL5 := Lib.hid (HLW.out.below hb5); have HD5 : Hid (DAt w5 db m d) := DC.below HDW.out hb5; have HK5 := Lib.hid (((KL.refl lb db m g wr).below (Below.refl _ _).drew).below hb5); clear hb5)
              | (go_at_call 80; (with_reducible refine (HCT.out _ HD5.out).mono ?_); rintro e w6 ⟨rfl, hd6, hk6⟩; have k6 : ∀ j, w6.cell? ⟨lb, j, none⟩ = wr.cell? ⟨lb, j, none⟩ := fun j => (hk6.cell (Nat.lt_of_lt_of_le hlb.1 HK5.out.size) hne.1 hne.2.1 j).trans (k5 j); have HD6 := Lib.hid hd6; have HL6 := Lib.hid (HL5.out.kp hk6); have HK6 := Lib.hid (HK.out.trans (HK5.out.kp hk6) (.inl rfl)); clear hd6 hk6))
          by_cases hE0 : E = 0
          · subst hE0
            have HRe := Lib.hid (show recW d seg nums = syncW D2 LL by rw [HME.out]; rfl)
            have HSY := Lib.hid (fun wx (h : LgW wx B lb db m g LL) (hd : DAt wx db m D2) => sync_gen h HO.out hd HOK2.out HS2.out)
            go_wp2_with (first | (go_at_call 22; (with_reducible refine (HSY.out _ HL6.out HD6.out).mono ?_); rintro e w8 ⟨rfl, hl8, hd8, hk8⟩; have HX := Lib.hid (And.intro hl8 (And.intro hd8 (HK6.out.trans hk8 (.inl rfl)))); clear hl8 hd8 hk8) | fail)
            go_ret
            exact ⟨by rw [HRe.out]; rfl, fun _ => by rw [HRe.out]; exact HX.out.1, by rw [HRe.out]; exact HX.out.2.1, HX.out.2.2⟩
          · have hEb : (E != 0) = true := by simpa using hE0
            have HRe := Lib.hid (show recW d seg nums = (E, D2, LL) by rw [HME.out]; exact if_neg hE0)
            go_wp2_with fail
            go_ret
            exact ⟨by rw [HRe.out]; rfl, fun h => (by rw [HRe.out] at h; exact absurd h hE0), by rw [HRe.out]; exact HD6.out, HK6.out⟩
        · have hcu : ¬ (sz : Int) < (hv : Int) := by omega
          have HRe := Lib.hid (show recW d seg nums = syncW d LL by rw [HRE2.out]; unfold mendW; rw [HSZ.out, if_neg hcut])
          have HSY := Lib.hid (fun wx (h : LgW wx B lb db m g LL) (hd : DAt wx db m d) => sync_gen h HO.out hd HOK.out (by have := HS.out; omega))
          go_wp2_with (first | (go_at_call 22; (with_reducible refine (HSY.out _ HL.out HD.out).mono ?_); rintro e w8 ⟨rfl, hl8, hd8, hk8⟩; have HX := Lib.hid (And.intro hl8 (And.intro hd8 (HK.out.trans hk8 (.inl rfl)))); clear hl8 hd8 hk8) | fail)
          go_ret
          exact ⟨by rw [HRe.out]; rfl, fun _ => by rw [HRe.out]; exact HX.out.1, by rw [HRe.out]; exact HX.out.2.1, HX.out.2.2⟩
end Go.Proofs.YtnpgjlhnlakgpaaGreatDoor

/- The document's log: Add. -/
import Derived.Test.YtnpgjlhnlakgpaaGreatDoorG17
import Derived.Test.YtnpgjlhnlakgpaaGreatDoorG16
import Derived.Test.YtnpgjlhnlakgpaaGreatDoorG15
import Derived.Test.YtnpgjlhnlakgpaaGreatDoorG08
import Derived.Deep.DeepCutAuto
namespace Go.Proofs.YtnpgjlhnlakgpaaGreatDoor
open Go.RowKit Go.Maps

theorem create_stQ (d : Dk) (nm : ByteArray) : (d.create nm).2.steps ≤ d.steps + 1 := by
  unfold Dk.create Dk.act
  repeat' split
  all_goals first | (show d.steps ≤ _; omega) | (show d.steps + 1 ≤ _; omega)
theorem sync_stQ (d : Dk) (nm : ByteArray) : (d.sync nm).2.steps ≤ d.steps + 1 := by
  unfold Dk.sync Dk.act
  repeat' split
  all_goals first | (show d.steps ≤ _; omega) | (show d.steps + 1 ≤ _; omega)
theorem RgOut.after {w w1 w' : World} {B mb rb rg g ga : Nat} {r : Rg} {d : Dk} (hk : KR mb rb rg g ga w w1) (h : RgOut w1 w' B mb rb rg g ga r d) : RgOut w w' B mb rb rg g ga r d := by
  obtain ⟨rg', g', ga', h1, h2, h3, h4, h5⟩ := h
  have hz := hk.size
  exact ⟨rg', g', ga', h1, hk.trans h2 (.inl rfl) (.inl rfl) (.inl rfl), h3.imp id (fun h => h.imp id (fun h => by omega)), h4.imp id (fun h => by omega), h5.imp id (fun h => by omega)⟩
theorem RgOut.comp {w wr W : World} {B mb rb rg g ga rg1 g1 ga1 : Nat} {r' : Rg} {d' : Dk} (hK : KR mb rb rg g ga w wr) (h1 : rg1 = rg ∨ rg1 = rb ∨ w.heap.size ≤ rg1) (h2 : g1 = g ∨ w.heap.size ≤ g1) (h3 : ga1 = ga ∨ w.heap.size ≤ ga1)
    (h : RgOut wr W B mb rb rg1 g1 ga1 r' d') : RgOut w W B mb rb rg g ga r' d' := by
  obtain ⟨rg6, g6, ga6, k1, k2, k3, k4, k5⟩ := h
  exact RgOut.step hK h1 h2 h3 k1 k2 k3 k4 k5
/-- What an Add is about to append to. -/
structure RAddAt (w0 : World) (B mb rb rg g ga : Nat) (R : Int × Dk × Rg) (x : List UInt8) (w : World) : Prop where
  ex : ∃ (d2 : Dk) (r2 : Rg), R = rappW d2 r2 x ∧ RgOut w0 w B mb rb rg g ga r2 d2 ∧ d2.Ok ∧ d2.steps < 4611686018427387904 ∧ r2.Ok
set_option maxRecDepth 100000 in
set_option maxHeartbeats 32000000 in
theorem radd_gen {w : World} {B mb rb rg g ga : Nat} {r : Rg} {d : Dk} (h : RgS w B mb rb rg g ga r d) (ho : r.Ok) (hok : d.Ok) (hs : d.steps + 2 < 4611686018427387904) (hnl : r.nums.length < 1000000000000) (x : ByteArray) (hx : x.size ≤ 140737488351232) :
    Calls Tryz.prog 32 #[.pointer (some ⟨mb, 0, none⟩), .string x] w fun e w' => e = .returned (.int .i64 (raddW d r x.data.toList).1) ∧ RgOut w w' B mb rb rg g ga (raddW d r x.data.toList).2.2 (raddW d r x.data.toList).2.1 := by
  have hxl : x.data.toList.length = x.size := by simp
  have HFR := Lib.hid (rframe_any x w hx)
  have HS := Lib.hid h
  by_cases hbig : 65536 < x.size
  · rw [if_pos hbig] at HFR
    have hR : raddW d r x.data.toList = (2, d, r) := by unfold raddW; rw [if_pos (by omega)]
    rw [hR]
    clear h ho hok hs hnl hR hxl
    go_enter Tryz.func32, Tryz.ntmps32
    go_wp2_with (first | (go_at_call 69; refine HFR.out.mono ?_; rintro e w2 ⟨rfl, hb⟩; have HB2 := Lib.hid hb; have HS2 := Lib.hid (HS.out.below hb); clear hb) | fail)
    go_ret
    exact ⟨rfl, RgOut.same HS2.out (KR.of_below HB2.out)⟩
  rw [if_neg hbig] at HFR
  have hfz : (bs (frameN x.data.toList)).size = x.size + 12 := by rw [bs_size, frame_len, hxl]
  have HNX := Lib.hid (fun wx (h : RgW wx B mb rb g ga r) => rnext_any h ho)
  obtain ⟨F, hF⟩ : ∃ F, bs (frameN x.data.toList) = F := ⟨_, rfl⟩
  obtain ⟨R, hR⟩ : ∃ R, raddW d r x.data.toList = R := ⟨_, rfl⟩
  have hR0 := hR
  unfold raddW at hR0
  rw [hF] at HFR hfz
  rw [hR]
  obtain ⟨NX, hNX⟩ : ∃ NX : Int, (r.next : Int) = NX := ⟨_, rfl⟩
  rw [hNX] at HNX
  by_cases hnx : 999999999999 < r.next
  · have hRR : R = (2, d, r) := by rw [← hR0, if_pos (.inr hnx)]
    subst hRR
    have hnxi : (999999999999 : Int) < NX := by omega
    clear h ho hok hs hnl hR hR0 hxl hF hfz hNX hnx
    go_enter Tryz.func32, Tryz.ntmps32
    go_wp2_with (first | (go_at_call 69; refine HFR.out.mono ?_; rintro e w2 ⟨rfl, hb⟩; have HB2 := Lib.hid hb; have HS2 := Lib.hid (HS.out.below hb); clear hb) | (go_at_call 40; (with_reducible refine (HNX.out _ HS2.out.L).mono ?_); rintro e w3 ⟨rfl, hb⟩; have HB3 := Lib.hid (HB2.out.trans (hb.mono HB2.out.size)); have HS3 := Lib.hid (HS2.out.below hb); clear hb) | fail)
    go_ret
    exact ⟨rfl, RgOut.same HS3.out (KR.of_below HB3.out)⟩
  rw [if_neg (by omega)] at hR0
  have hnxi : ¬ (999999999999 : Int) < NX := by omega
  have hFm : F.size ≤ maxLen := by unfold maxLen; omega
  have HF := Lib.hid hF
  have HLA := Lib.hid (fun wx (h : RgW wx B mb rb g ga r) => rlast_any h ho)
  have HRD := Lib.hid (show ∀ wx, RAt wx rb rg d → Calls Tryz.prog 54 #[.pointer (some ⟨rb, 0, none⟩), .string (nameN r.lastN)] wx fun e w' => e = .returned (.tuple #[.string (d.read (nameN r.lastN)).1, .int .i64 (d.read (nameN r.lastN)).2]) ∧ Below wx.heap.size wx w' from fun wx h => ref_read h hok _)
  obtain ⟨E0, hE0⟩ : ∃ E0, (d.read (nameN r.lastN)).2 = E0 := ⟨_, rfl⟩
  obtain ⟨SB, hSB⟩ : ∃ SB, (d.read (nameN r.lastN)).1 = SB := ⟨_, rfl⟩
  rw [hE0, hSB] at hR0 HRD
  obtain ⟨LN, hLN⟩ : ∃ LN, nameN r.lastN = LN := ⟨_, rfl⟩
  rw [hLN] at HLA HRD
  have HHO := Lib.hid ho
  have HOK := Lib.hid hok
  have HST := Lib.hid hs
  have HNL := Lib.hid hnl
  have HR0 := Lib.hid hR0
  have HN := Lib.hid (show r.next ≤ 999999999999 by omega)
  have HNXE := Lib.hid hNX
  clear h ho hok hs hnl hR hR0 hF hE0 hSB hLN hNX hxl
  go_enter Tryz.func32, Tryz.ntmps32
  go_upto_region 4 with (first | (go_at_call 69; refine HFR.out.mono ?_; rintro e w2 ⟨rfl, hb⟩; have HB2 := Lib.hid hb; have HS2 := Lib.hid (HS.out.below hb); clear hb) | (go_at_call 40; (with_reducible refine (HNX.out _ HS2.out.L).mono ?_); rintro e w3 ⟨rfl, hb⟩; have HB3 := Lib.hid (HB2.out.trans (hb.mono HB2.out.size)); have HS3 := Lib.hid (HS2.out.below hb); clear hb) | fail)
  have HK3 := Lib.hid (KR.of_below (mb := mb) (rb := rb) (rg := rg) (g := g) (ga := ga) HB3.out)
  have c0 := HS3.out.L.c0
  have hm3 := HS3.out.lt.1
  have HSd := Lib.hid HS3.out.drew
  go_region_held3 (fun w' => ∀ j, w'.cell? ⟨mb, j, none⟩ = w3.cell? ⟨mb, j, none⟩) ((first | assumption | (intro j; rfl)))
    (first
      | (go_at_call 57; (with_reducible refine (HLA.out _ HSd.out.L).mono ?_); rintro e w4 ⟨rfl, hb4⟩; have k4 : ∀ j, w4.cell? ⟨mb, j, none⟩ = w3.cell? ⟨mb, j, none⟩ := fun j => (hb4.cell (p := ⟨mb, j, none⟩) hm3).trans rfl; have HS4 := Lib.hid (HSd.out.below hb4); have HK4 := Lib.hid ((HK3.out.below (Below.refl _ _).drew).below hb4); clear hb4)
      | (go_at_call 54; (with_reducible refine (HRD.out _ HS4.out.D).mono ?_); rintro e w5 ⟨rfl, hb5⟩; have k5 : ∀ j, w5.cell? ⟨mb, j, none⟩ = w3.cell? ⟨mb, j, none⟩ := fun j => (hb5.cell (p := ⟨mb, j, none⟩) HS4.out.lt.1).trans (k4 j); have HS5 := Lib.hid (HS4.out.below hb5); have HK5 := Lib.hid (HK4.out.below hb5); clear hb5))
  clear k4 k5 c0
  by_cases hE : E0 = 0
  case neg =>
    have hEb : (E0 != 0) = true := by simpa using hE
    have hRR : R = (E0, d, r) := by rw [← HR0.out, if_neg hE]
    subst hRR
    go_wp2_with fail
    go_ret
    exact ⟨rfl, RgOut.same HS5.out HK5.out⟩
  subst hE
  have HR1 := HR0
  clear HR0
  rw [if_pos rfl] at HR1
  have c1 := HS3.out.L.c1
  obtain ⟨Z, hZ⟩ : ∃ Z, SB.size = Z := ⟨_, rfl⟩
  rw [hZ] at HR1
  go_upto_if 42 with fail
  go_cut [9] from 10 (fun _ wc => RAddAt w B mb rb rg g ga R x.data.toList wc)
  case first =>
    by_cases hfull : r.seg ≤ Z
    · have hfi : (r.seg : Int) ≤ (Z : Int) := by omega
      have hd1 : (rsyncW d r).2.1 = (d.sync (nameN r.lastN)).2 := by unfold rsyncW; split <;> rfl
      have hl1 : (rsyncW d r).1 = 0 → (rsyncW d r).2.2 = { r with last := r.next - 1 } := by
        unfold rsyncW
        split
        · intro _; rfl
        · rename_i hq; intro h; exact absurd h hq
      have hok1 : (rsyncW d r).2.1.Ok := by rw [hd1]; exact HOK.out.sync _
      have hst1 : (rsyncW d r).2.1.steps + 1 < 4611686018427387904 := by have h1 := HST.out; have h2 := sync_stQ d (nameN r.lastN); rw [hd1]; omega
      have HSY := Lib.hid (show ∀ W, RgS W B mb rb rg g ga r d → _ from fun W h => rsync_gen h HHO.out HOK.out (by have := HST.out; omega))
      have hR2 : (if (rsyncW d r).1 = 0 then if (rnewW (rsyncW d r).2.1 (rsyncW d r).2.2).1 = 0 then rappW (rnewW (rsyncW d r).2.1 (rsyncW d r).2.2).2.1 (rnewW (rsyncW d r).2.1 (rsyncW d r).2.2).2.2 x.data.toList else rnewW (rsyncW d r).2.1 (rsyncW d r).2.2 else rsyncW d r) = R := by rw [← HR1.out, if_pos hfull]
      obtain ⟨S1, hS1⟩ : ∃ S1, rsyncW d r = S1 := ⟨_, rfl⟩
      simp only [hS1] at hd1 hl1 hok1 hst1 HSY hR2
      obtain ⟨E1, d1, r1⟩ := S1
      simp only at hd1 hl1 hok1 hst1 HSY hR2
      by_cases hE1 : E1 = 0
      · subst hE1
        rw [if_pos rfl] at hR2
        have hl1' := hl1 rfl
        subst hl1'
        have hnx1 : ({ r with last := r.next - 1 } : Rg).next = r.next := rfl
        have HO1 : Hid (({ r with last := r.next - 1 } : Rg).Ok) := ⟨HHO.out.nz, HHO.out.bd, HHO.out.next, by have := HHO.out.next; show r.next - 1 ≤ _; omega, HHO.out.seg, HHO.out.all⟩
        have hnm : (nameN r.next).size ≤ maxLen := by rw [nameN_size]; unfold maxLen; decide
        have HNM := Lib.hid (fun W => rname_any r.next (by have := HN.out; omega) W)
        rw [HNXE.out] at HNM
        have HP := Lib.hid (show ∀ rgx wx, RAt wx rb rgx d1 → Calls Tryz.prog 29 #[.pointer (some ⟨rb, 0, none⟩), .string (nameN r.next)] wx fun e w' => e = .returned (.int .i64 (d1.create (nameN r.next)).1) ∧ ROut wx w' rb rgx (d1.create (nameN r.next)).2 from fun rgx wx h => ref_create h hok1 (by omega) _ hnm)
        have hok2 := hok1.create (nameN r.next)
        have hst2 := create_stQ d1 (nameN r.next)
        have hnw : rnewW d1 { r with last := r.next - 1 } = if (d1.create (nameN r.next)).1 = 0 then (0, (d1.create (nameN r.next)).2, { r with last := r.next - 1, nums := r.nums ++ [r.next] }) else ((d1.create (nameN r.next)).1, (d1.create (nameN r.next)).2, { r with last := r.next - 1 }) := rfl
        obtain ⟨NMS, hNMS⟩ : ∃ NMS, nameN r.next = NMS := ⟨_, rfl⟩
        rw [hNMS] at HNM HP hok2 hst2 hnw
        obtain ⟨d2, hd2⟩ : ∃ d2, (d1.create NMS).2 = d2 := ⟨_, rfl⟩
        obtain ⟨E2, hE2⟩ : ∃ E2, (d1.create NMS).1 = E2 := ⟨_, rfl⟩
        rw [hd2, hE2] at HP hnw
        rw [hd2] at hok2 hst2
        have HOK2 := Lib.hid hok2
        have HST2 := Lib.hid (show d2.steps < 4611686018427387904 by omega)
        have HR2 := Lib.hid hR2
        have HNW := Lib.hid hnw
        have HNX1 := Lib.hid (fun wx gx gax (h : RgW wx B mb rb gx gax ({ r with last := r.next - 1 } : Rg)) => rnext_any h HO1.out)
        rw [hnx1, HNXE.out] at HNX1
        clear hok1 hst1 hok2 hst2 hd1 hl1 hR2 hS1 hnm hNMS hd2 hE2 hnw hnx1
        go_upto_region 11 with (first
          | (go_at_call 33; (with_reducible refine (HSY.out _ HS5.out).mono ?_); rintro e w6 ⟨rfl, ho6⟩; have HO6 := Lib.hid (RgOut.after HK5.out ho6); clear ho6)
          | fail)
        obtain ⟨rg6, g6, ga6, hs6, hk6, hq1, hq2, hq3⟩ := HO6.out
        have HS6 := Lib.hid hs6
        have HK6 := Lib.hid hk6
        have HQ6 := Lib.hid (show (rg6 = rg ∨ rg6 = rb ∨ w.heap.size ≤ rg6) ∧ (g6 = g ∨ w.heap.size ≤ g6) ∧ (ga6 = ga ∨ w.heap.size ≤ ga6) from ⟨hq1, hq2, hq3⟩)
        have c0 := hs6.L.c0
        have hm6 := hs6.lt.1
        have HS6d := Lib.hid hs6.drew
        clear hs6 hk6 hq1 hq2 hq3 HO6
        go_region_held3 (fun w' => ∀ j, w'.cell? ⟨mb, j, none⟩ = w6.cell? ⟨mb, j, none⟩) ((first | assumption | (intro j; rfl)))
          (first
            | (go_at_call 40; (with_reducible refine (HNX1.out _ _ _ HS6d.out.L).mono ?_); rintro e w7 ⟨rfl, hb7⟩; have k7 : ∀ j, w7.cell? ⟨mb, j, none⟩ = w6.cell? ⟨mb, j, none⟩ := fun j => (hb7.cell (p := ⟨mb, j, none⟩) hm6).trans rfl; have HS7 := Lib.hid (HS6d.out.below hb7); have HB7 := Lib.hid (((Below.refl w6.heap.size w6).drew).trans hb7); clear hb7)
            | (go_at_call 55; (with_reducible refine (HNM.out _).mono ?_); rintro e w8 ⟨rfl, hb8⟩; have k8 : ∀ j, w8.cell? ⟨mb, j, none⟩ = w6.cell? ⟨mb, j, none⟩ := fun j => (hb8.cell (p := ⟨mb, j, none⟩) HS7.out.lt.1).trans (k7 j); have HS8 := Lib.hid (HS7.out.below hb8); have HB8 := Lib.hid (HB7.out.trans (hb8.mono HB7.out.size)); clear hb8)
            | (go_at_call 29; (with_reducible refine (HP.out _ _ HS8.out.D).mono ?_); rintro e w9 ⟨rfl, ho9⟩; have k9 : ∀ j, w9.cell? ⟨mb, j, none⟩ = w6.cell? ⟨mb, j, none⟩ := fun j => (HS8.out.cellL ho9.2 j).trans (k8 j); have HO9 := Lib.hid (HS8.out.rout ho9); clear ho9))
        obtain ⟨rg9, hs9, hg9, hk9⟩ := HO9.out
        have HO : Hid (RgOut w w9 B mb rb rg g ga { r with last := r.next - 1 } d2) := RgOut.step HK6.out HQ6.out.1 HQ6.out.2.1 HQ6.out.2.2 hs9 (KR.trans (KR.of_below HB8.out) hk9 (.inl rfl) (.inl rfl) (.inl rfl)) (hg9.imp id (fun h => h.imp id (fun h => Nat.le_trans HB8.out.size h))) (.inl rfl) (.inl rfl)
        by_cases hE2 : E2 = 0
        · subst hE2
          have HR3 : Hid (R = rappW d2 { r with last := r.next - 1, nums := r.nums ++ [r.next] } x.data.toList) := by
            show _ = _
            rw [← HR2.out, HNW.out]
            simp
          have HO2 : Hid (({ r with last := r.next - 1, nums := r.nums ++ [r.next] } : Rg).Ok) := ⟨by simp, fun y hy => by
            rcases List.mem_append.1 hy with hy | hy
            · exact HHO.out.bd y hy
            · rw [List.mem_singleton.1 hy]; have := HN.out; have := HHO.out.head; unfold Rg.next; unfold Rg.next at *; omega, by
              have h1 := HHO.out.head
              have h2 := HHO.out.next
              unfold Rg.next Rg.first at *
              cases hn : r.nums with
              | nil => exact absurd hn HHO.out.nz
              | cons a t => rw [hn] at h2; exact h2, HO1.out.last, HHO.out.seg, HHO.out.all⟩
          obtain ⟨o, cap, c2, hN⟩ := hs9.L.c2
          simp only at c2 hN
          obtain ⟨n, hn⟩ : ∃ n, r.nums.length = n := ⟨_, rfl⟩
          rw [hn] at c2
          have hnn : n + 1 ≤ 1000000000000 := by have := HNL.out; omega
          have HNN := Lib.hid hn
          have HC9 := Lib.hid c2
          have c2 := (k9 2).symm.trans c2
          have HS9 := Lib.hid hs9
          have HS9d := Lib.hid hs9.drew
          have HN9 := Lib.hid hN
          have hm9 := hs9.lt.1
          have hg9' := hs9.lt.2.1
          have HKQ : Hid (∀ W r' d', RgOut w9 W B mb rb rg9 g6 ga6 r' d' → RgOut w W B mb rb rg g ga r' d') := fun W r' d' h => by
            have hz := HK6.out.size
            have hz8 := HB8.out.size
            refine RgOut.comp (HK6.out.trans (KR.trans (KR.of_below HB8.out) hk9 (.inl rfl) (.inl rfl) (.inl rfl)) HQ6.out.1 HQ6.out.2.1 HQ6.out.2.2) ?_ HQ6.out.2.1 HQ6.out.2.2 h
            rcases hg9 with rfl | rfl | hg9
            · exact HQ6.out.1
            · exact .inr (.inl rfl)
            · exact .inr (.inr (by omega))
          have K9 := Lib.hid k9
          clear hs9 hg9 hk9 hN hn k7 k8 k9
          go_upto_region 14 with fail
          go_region_law
            (first
              | (refine step_append_num (q := r.next) rfl _ _ rfl HNN.out rfl (by repeat' (first | exact HN10.out | refine NumAt.allocQ ?_ _ | refine NumAt.drewQ ?_)) ⟨w10.heap.size, 0, none⟩ 1 rfl (by first | (rw [HNXE.out]; exact World.cell?_alloc_new _ _ _ _) | (rw [HNXE.out])) hnn ?_; intro g7 o7 cap7 w12 hN7 hN7' hg7 hk7; have HA7 := Lib.hid (AppR.mk' (w0 := w9) (wN := w10) (by repeat' (first | exact Below.refl _ _ | exact Nat.le_refl _ | refine Below.alloc ?_ ?_ _ | refine Below.drew ?_)) HS10.out (KR.of_below HB10.out) (by rw [HNN.out]; exact HC10.out) hN7 hN7' hg7 hk7); obtain ⟨o72, cap72, k72, _⟩ := HA7.out.st.L.c2; have f72 := HA7.out.st.L.f2; clear hN7 hN7' hg7 hk7)
              | (go_simp; go_at_call 40; (with_reducible refine (HNX1.out _ _ _ (HS9d.out.L)).mono ?_); rintro e w10 ⟨rfl, hb10⟩; have HB10 := Lib.hid (((Below.refl w9.heap.size w9).drew).trans hb10); have k10 : ∀ j, w10.cell? ⟨mb, j, none⟩ = w6.cell? ⟨mb, j, none⟩ := fun j => (HB10.out.cell (p := ⟨mb, j, none⟩) hm9).trans (K9.out j); have hm10 : mb < w10.heap.size := Nat.lt_of_lt_of_le hm9 HB10.out.size; have HS10 := Lib.hid (HS9.out.below HB10.out); have HN10 := Lib.hid (HN9.out.of_block (HB10.out.block _ hg9')); have HC10 := Lib.hid ((HB10.out.cell (p := ⟨mb, 2, none⟩) hm9).trans HC9.out); clear hb10))
          all_goals
            go_wp2_with fail
            go_meet
            case rel => exact ⟨d2, _, HR3.out, HKQ.out _ _ _ (HA7.out.done HNN.out), HOK2.out, HST2.out, HO2.out⟩
        · have hEb : (E2 != 0) = true := by simpa using hE2
          have hRR : R = (E2, d2, { r with last := r.next - 1 }) := by
            have h1 := HR2.out
            rw [HNW.out, if_neg hE2, if_neg hE2] at h1
            exact h1.symm
          subst hRR
          clear hs9 hg9 hk9
          go_wp2_with fail
          go_ret
          exact ⟨rfl, HO.out⟩
      · have hEb : (E1 != 0) = true := by simpa using hE1
        rw [if_neg hE1] at hR2
        subst hR2
        clear hok1 hst1 hd1 hl1 hS1
        go_wp2_with (first
          | (go_at_call 33; (with_reducible refine (HSY.out _ HS5.out).mono ?_); rintro e w6 ⟨rfl, ho6⟩; have HO6 := Lib.hid (RgOut.after HK5.out ho6); clear ho6)
          | fail)
        go_ret
        exact ⟨rfl, HO6.out⟩
    · have hfi : ¬ (r.seg : Int) ≤ (Z : Int) := by omega
      have HR2 : Hid (R = rappW d r x.data.toList) := by show _ = _; rw [← HR1.out, if_neg hfull]
      go_wp2_with fail
      go_meet
      case rel => exact ⟨d, r, HR2.out, RgOut.same HS5.out HK5.out, HOK.out, by have := HST.out; omega, HHO.out⟩
  case rest =>
    obtain ⟨d2, r2, hR2, hO2, hOk2, hSt2, hRo2⟩ := hcut.ex
    obtain ⟨rg2, g2, ga2, hs2, hk2, hq1, hq2, hq3⟩ := hO2
    have HLA2 := Lib.hid (fun wx (h : RgW wx B mb rb g2 ga2 r2) => rlast_any h hRo2)
    have HP := Lib.hid (show ∀ wx, RAt wx rb rg2 d2 → Calls Tryz.prog 31 #[.pointer (some ⟨rb, 0, none⟩), .string (nameN r2.lastN), .string F] wx fun e w' => e = .returned (.int .i64 (d2.append (nameN r2.lastN) F).1) ∧ ROut wx w' rb rg2 (d2.append (nameN r2.lastN) F).2 from fun wx h => ref_append h hOk2 hSt2 _ _ hFm)
    have hR3 : R = if (d2.append (nameN r2.lastN) F).1 = 0 then (0, (d2.append (nameN r2.lastN) F).2, { r2 with all := r2.all ++ [x.data.toList] }) else ((d2.append (nameN r2.lastN) F).1, (d2.append (nameN r2.lastN) F).2, r2) := by
      rw [hR2]
      unfold rappW
      rw [HF.out]
    have hbx : bs x.data.toList = x := ba_of_list (bs_data' _)
    have HBX := Lib.hid hbx
    obtain ⟨S, hS⟩ : ∃ S, nameN r2.lastN = S := ⟨_, rfl⟩
    rw [hS] at HLA2 HP hR3
    obtain ⟨D2, hD2'⟩ : ∃ D2, (d2.append S F).2 = D2 := ⟨_, rfl⟩
    obtain ⟨E, hE⟩ : ∃ E, (d2.append S F).1 = E := ⟨_, rfl⟩
    rw [hD2', hE] at HP hR3
    have c0 := hs2.L.c0
    have hmc := hs2.lt.1
    have HSd2 := Lib.hid hs2.drew
    have HKC := Lib.hid hk2
    have HQC := Lib.hid (show (rg2 = rg ∨ rg2 = rb ∨ w.heap.size ≤ rg2) ∧ (g2 = g ∨ w.heap.size ≤ g2) ∧ (ga2 = ga ∨ w.heap.size ≤ ga2) from ⟨hq1, hq2, hq3⟩)
    have hal := hRo2.all
    obtain ⟨n, hn⟩ : ∃ n, r2.all.length = n := ⟨_, rfl⟩
    have HN2 := Lib.hid hn
    rw [hn] at hal
    have hle : n + 1 ≤ 1000000000001 := by omega
    clear hR2 hs2 hOk2 hSt2 hRo2 hq1 hq2 hq3 hk2 hS hD2' hE hcut hn hal hbx
    go_upto_region 15 with fail
    go_region_held3 (fun w' => ∀ j, w'.cell? ⟨mb, j, none⟩ = wc.cell? ⟨mb, j, none⟩) ((first | assumption | (intro j; rfl)))
      (first
        | (go_at_call 57; (with_reducible refine (HLA2.out _ HSd2.out.L).mono ?_); rintro e w6 ⟨rfl, hb6⟩; have k6 : ∀ j, w6.cell? ⟨mb, j, none⟩ = wc.cell? ⟨mb, j, none⟩ := fun j => (hb6.cell (p := ⟨mb, j, none⟩) hmc).trans rfl; have HS6 := Lib.hid (HSd2.out.below hb6); have HB6 := Lib.hid (((Below.refl wc.heap.size wc).drew).trans hb6); clear hb6)
        | (go_at_call 31; (with_reducible refine (HP.out _ HS6.out.D).mono ?_); rintro e w7 ⟨rfl, ho7⟩; have k7 : ∀ j, w7.cell? ⟨mb, j, none⟩ = wc.cell? ⟨mb, j, none⟩ := fun j => (HS6.out.cellL ho7.2 j).trans (k6 j); have HO7 := Lib.hid (HS6.out.rout ho7); clear ho7))
    obtain ⟨rg7, hs7, hg7, hk7⟩ := HO7.out
    have HKQ : Hid (∀ W r' d', RgOut w7 W B mb rb rg7 g2 ga2 r' d' → RgOut w W B mb rb rg g ga r' d') := fun W r' d' h => by
      have hz := HKC.out.size
      have hz8 := HB6.out.size
      refine RgOut.comp (HKC.out.trans (KR.trans (KR.of_below HB6.out) hk7 (.inl rfl) (.inl rfl) (.inl rfl)) HQC.out.1 HQC.out.2.1 HQC.out.2.2) ?_ HQC.out.2.1 HQC.out.2.2 h
      rcases hg7 with rfl | rfl | hg7
      · exact HQC.out.1
      · exact .inr (.inl rfl)
      · exact .inr (.inr (by omega))
    have HS7 := Lib.hid hs7
    by_cases hE0 : E = 0
    · subst hE0
      rw [if_pos rfl] at hR3
      subst hR3
      obtain ⟨v, c3, hA⟩ := hs7.L.c3
      obtain ⟨p, ca, rfl, hca, _⟩ := hA.slice
      rw [HN2.out] at c3 hA
      have HC3 := Lib.hid c3
      have c3 := (k7 3).symm.trans c3
      have HA := Lib.hid hA
      have hm7 := hs7.lt.1
      clear hs7 hg7 hk7 hA k6 k7
      go_wp2_with (first
        | (at_builtin; refine wpList_app_str rfl _ _ rfl HN2.out rfl (by simp; omega) (HA.out.of_block fun _ => heap_alloc_old _ _ HS7.out.lt.2.2.1) ⟨w7.heap.size, 0, none⟩ 1 rfl (by rw [HBX.out]; exact World.cell?_alloc_new _ _ _ _) hle ?_; intro ga9 p9 cap9 w9 hA9; have HA9 := Lib.hid hA9; have hb9 := hA9.mb (by simp; omega); have k93 : w9.cell? ⟨mb, 3, none⟩ = some (.slice p n ca) := ((World.cell?_of_block hb9).trans (World.cell?_of_block (heap_alloc_old _ _ hm7))).trans HC3.out; have f93 : w9.frozen? ⟨mb, 3, none⟩ = false := ((World.frozen?_of_block hb9).trans (World.frozen?_of_block (heap_alloc_old _ _ hm7))).trans HS7.out.L.f3; clear hA9 hb9; go_frame)
        | fail)
      go_ret
      exact ⟨rfl, HKQ.out _ _ _ (HA9.out.done HS7.out ((Below.refl _ _).alloc (Nat.le_refl _) _) HC3.out)⟩
    · have hEb : (E == 0) = false := by simpa using hE0
      rw [if_neg hE0] at hR3
      subst hR3
      clear hs7 hg7 hk7
      go_wp2_with fail
      go_ret
      exact ⟨rfl, HKQ.out _ _ _ (RgOut.same HS7.out (KR.refl _ _ _ _ _ _))⟩
end Go.Proofs.YtnpgjlhnlakgpaaGreatDoor

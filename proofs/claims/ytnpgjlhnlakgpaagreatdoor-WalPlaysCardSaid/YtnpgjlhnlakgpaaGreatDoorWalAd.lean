/- A log of any segments: Add. -/
import Derived.Test.YtnpgjlhnlakgpaaGreatDoorG19
import Derived.Test.YtnpgjlhnlakgpaaGreatDoorG12
import Derived.Test.YtnpgjlhnlakgpaaGreatDoorG08
import Derived.Test.YtnpgjlhnlakgpaaGreatDoorG18
import Derived.Test.YtnpgjlhnlakgpaaGreatDoorG03
import Derived.Deep.DeepCutAuto
namespace Go.Proofs.YtnpgjlhnlakgpaaGreatDoor
open Go.RowKit Go.Maps

theorem LgW.grown {w w' : World} {B lb db m g o cap : Nat} {l : Lg} (h : LgW w B lb db m g l) (hg : w.grownBy w' (some g)) (hc : w.cell? ⟨lb, 2, none⟩ = some (.slice (some ⟨g, o, none⟩) l.nums.length cap)) (hN : NumAt w' g o cap l.nums) : LgW w' B lb db m g l := by
  obtain ⟨h1, h2⟩ := h.lt
  obtain ⟨n1, n2, n3, n4, n5⟩ := h.ne
  obtain ⟨b1, b2, b3, b4, b5⟩ := h.bel
  have hb : w'.heap[lb]? = w.heap[lb]? := hg.block lb h1 (fun e => n5 (Option.some.inj e).symm)
  have c := fun o => World.cell?_of_block (a := ⟨lb, o, none⟩) hb
  have f := fun o => World.frozen?_of_block (a := ⟨lb, o, none⟩) hb
  exact ⟨(c 0).trans h.c0, (c 1).trans h.c1, ⟨o, cap, (c 2).trans hc, hN⟩, (c 3).trans h.c3, (c 4).trans h.c4, (c 5).trans h.c5, (f 2).trans h.f2, (f 3).trans h.f3, (f 4).trans h.f4, (f 5).trans h.f5, h.ne, ⟨b1, b2, b3, b4, Nat.le_trans b5 hg.size⟩,
    h.pow.on ⟨hg.os, hg.tape, hg.output, hg.size, fun k hk => hg.block k (by omega) (fun e => by have := Option.some.inj e; omega)⟩⟩
theorem KL.grown {lb db m g : Nat} {w0 w w' : World} (h : KL lb db m g w0 w) (hg : w.grownBy w' (some g)) : KL lb db m g w0 w' :=
  h.trans (g' := g) ⟨hg.os, hg.tape, hg.output, hg.size, fun k hk _ _ _ h4 => hg.block k hk (fun e => h4 (Option.some.inj e))⟩ (.inl rfl)
theorem sync_steps (d : Dk) (nm : ByteArray) : (d.sync nm).2.steps ≤ d.steps + 1 := by
  unfold Dk.sync
  split
  · show d.steps ≤ _; omega
  · split
    · show d.steps ≤ _; omega
    · unfold Dk.act
      split
      · show d.steps ≤ _; omega
      · show d.steps + 1 ≤ _; omega
theorem create_steps (d : Dk) (nm : ByteArray) : (d.create nm).2.steps ≤ d.steps + 1 := by
  unfold Dk.create Dk.act
  repeat' split
  all_goals first | (show d.steps ≤ _; omega) | (show d.steps + 1 ≤ _; omega)
theorem append_steps (d : Dk) (nm b : ByteArray) : (d.append nm b).2.steps ≤ d.steps + 1 := by
  unfold Dk.append Dk.act
  repeat' split
  all_goals first | (show d.steps ≤ _; omega) | (show d.steps + 1 ≤ _; omega)
theorem NumAt.alloc {w : World} {g o cap : Nat} {nums : List Nat} (h : NumAt w g o cap nums) (x : Obj) : NumAt (w.alloc x) g o cap nums := h.of_block (heap_alloc_old w x h.lt)
theorem NumAt.drew {w : World} {g o cap : Nat} {nums : List Nat} (h : NumAt w g o cap nums) : NumAt w.drew g o cap nums := h.of_block rfl
theorem LgW.alloc {w : World} {B lb db m g : Nat} {l : Lg} (h : LgW w B lb db m g l) (x : Obj) : LgW (w.alloc x) B lb db m g l := h.below ((Below.refl _ _).alloc (Nat.le_refl _) x)
theorem KL.alloc {lb db m g : Nat} {w0 w : World} (h : KL lb db m g w0 w) (x : Obj) : KL lb db m g w0 (w.alloc x) := h.below ((Below.refl _ _).alloc (Nat.le_refl _) x)
theorem KL.drew {lb db m g : Nat} {w0 w : World} (h : KL lb db m g w0 w) : KL lb db m g w0 w.drew := h.below (Below.refl _ _).drew
theorem DC.grownG {P : Program} {k : TypeId} {w w' : World} {b m g : Nat} {room used left steps : Int} {off armed : Bool} {L : List Fl} (h : DC P k w b m room used off armed left steps L) (hg : w.grownBy w' (some g)) (h1 : b ≠ g) (h2 : m ≠ g) : DC P k w' b m room used off armed left steps L :=
  h.kept (b' := g) (m' := g) ⟨hg.os, hg.tape, hg.output, hg.size, fun j hj h3 _ => hg.block j hj (fun e => h3 (Option.some.inj e))⟩ h1 h1 h2 h2
/-- Behind an append of a number, ahead of the stores. -/
structure App7 (w0 w6 w4 : World) (B lb db m g : Nat) (l : Lg) (d : Dk) (q : Nat) (w7 : World) (g7 o7 cap7 : Nat) : Prop where
  num : NumAt w7 g7 o7 cap7 (l.nums ++ [q])
  lg : LgW w7 B lb db m g l
  dk : DAt w7 db m d
  gg : g7 = g ∨ w0.heap.size ≤ g7
  g6 : g7 ≠ db ∧ g7 ≠ m ∧ g7 ≠ lb ∧ B ≤ g7
  kl : KL lb db m g w0 w7
  kc : ∀ j, w7.cell? ⟨lb, j, none⟩ = w4.cell? ⟨lb, j, none⟩
theorem App7.mk' {w0 w6 w4 W w7 : World} {B lb db m g o cap g7 o7 cap7 q : Nat} {l : Lg} {d : Dk} (hB : Below w6.heap.size w6 W) (hl6 : LgW w6 B lb db m g l) (hd6 : DAt w6 db m d) (hk : KL lb db m g w0 w6) (k6 : ∀ j, w6.cell? ⟨lb, j, none⟩ = w4.cell? ⟨lb, j, none⟩)
    (hc6 : w6.cell? ⟨lb, 2, none⟩ = some (.slice (some ⟨g, o, none⟩) l.nums.length cap)) (hN : NumAt w7 g7 o7 cap7 (l.nums ++ [q])) (hN' : NumAt w7 g o cap l.nums) (hg : g7 = g ∨ W.heap.size ≤ g7) (hgr : W.grownBy w7 (some g)) : App7 w0 w6 w4 B lb db m g l d q w7 g7 o7 cap7 := by
  have hl := hl6.below hB
  have hd : DAt W db m d := DC.below hd6 hB
  have hne := hl.ne
  have hlt := hl6.lt.1
  have hdb : db < w6.heap.size := hd6.lt
  have hmb : m < w6.heap.size := hd6.ltm
  have hbel := hl.bel
  have hBz := hB.size
  have hkz := hk.size
  have hb5 := hl6.bel.2.2.2.2
  have kw : ∀ j, W.cell? ⟨lb, j, none⟩ = w6.cell? ⟨lb, j, none⟩ := fun j => hB.cell (p := ⟨lb, j, none⟩) hlt
  refine ⟨hN, hl.grown hgr ((kw 2).trans hc6) hN', DC.grownG hd hgr (fun e => hne.2.2.1 e.symm) (fun e => hne.2.2.2.1 e.symm), hg.imp id (fun h => by omega), ?_, (hk.below hB).grown hgr, fun j => ?_⟩
  · rcases hg with rfl | h
    · exact ⟨hne.2.2.1, hne.2.2.2.1, hne.2.2.2.2, hbel.2.2.2.1⟩
    · exact ⟨by omega, by omega, by omega, by omega⟩
  · rw [← k6 j, ← kw j]
    exact World.cell?_of_block (hgr.block lb (by omega) (fun e => hne.2.2.2.2 (Option.some.inj e).symm))
theorem App7.done {w0 w6 w4 w7 : World} {B lb db m g g7 o7 cap7 q n : Nat} {l : Lg} {d : Dk} (h : App7 w0 w6 w4 B lb db m g l d q w7 g7 o7 cap7) (hn : l.nums.length = n) :
    LgW ((w7.setCell ⟨lb, 2, none⟩ (.slice (some ⟨g7, o7, none⟩) (n + 1) cap7)).setCell ⟨lb, 3, none⟩ (.int .i64 0)) B lb db m g7 { l with nums := l.nums ++ [q], size := 0 } ∧
    DAt ((w7.setCell ⟨lb, 2, none⟩ (.slice (some ⟨g7, o7, none⟩) (n + 1) cap7)).setCell ⟨lb, 3, none⟩ (.int .i64 0)) db m d ∧
    KL lb db m g w0 ((w7.setCell ⟨lb, 2, none⟩ (.slice (some ⟨g7, o7, none⟩) (n + 1) cap7)).setCell ⟨lb, 3, none⟩ (.int .i64 0)) := by
  have hne := h.lg.ne
  have h1 := h.lg.renum (l' := { l with nums := l.nums ++ [q] }) h.num h.g6 rfl rfl rfl rfl
  have e : (l.nums ++ [q]).length = n + 1 := by rw [List.length_append, hn]; rfl
  simp only [e] at h1
  refine ⟨h1.store 3 (by decide) 0 _ rfl rfl rfl rfl rfl, DC.far (DC.far h.dk (fun e => hne.1 e.symm) (fun e => hne.2.1 e.symm) _ _) (fun e => hne.1 e.symm) (fun e => hne.2.1 e.symm) _ _, (h.kl.set _ _).set _ _⟩
/-- What an Add is about to append to. -/
structure AddAt (w0 : World) (B lb db m g : Nat) (R : Int × Dk × Lg) (r : List UInt8) (w : World) : Prop where
  ex : ∃ (g2 : Nat) (d2 : Dk) (l2 : Lg), R = appW d2 l2 r ∧ LgW w B lb db m g2 l2 ∧ DAt w db m d2 ∧ d2.Ok ∧ d2.steps < 4611686018427387904 ∧ l2.Ok ∧ l2.next ≤ 999999999999 ∧ (g2 = g ∨ w0.heap.size ≤ g2)
  kl : KL lb db m g w0 w
set_option maxRecDepth 100000 in
set_option maxHeartbeats 16000000 in
theorem add_gen {w : World} {B lb db m g : Nat} {l : Lg} {d : Dk} (h : LgW w B lb db m g l) (ho : l.Ok) (hd : DAt w db m d) (hok : d.Ok) (hs : d.steps + 2 < 4611686018427387904) (hnl : l.nums.length < 1000000000000) (r : ByteArray) (hr : r.size ≤ 140737488351232) :
    Calls Tryz.prog 21 #[.pointer (some ⟨lb, 0, none⟩), .string r] w fun e w' => e = .returned (.int .i64 (addW d l r.data.toList).1) ∧ ∃ g', LgW w' B lb db m g' (addW d l r.data.toList).2.2 ∧ DAt w' db m (addW d l r.data.toList).2.1 ∧ KL lb db m g w w' ∧ (g' = g ∨ w.heap.size ≤ g') := by
  have hrl : r.data.toList.length = r.size := by simp
  have HFR := Lib.hid (frame_any r w hr)
  by_cases hbig : 65536 < r.size
  · rw [if_pos hbig] at HFR
    have hR : addW d l r.data.toList = (2, d, l) := by unfold addW; rw [if_pos (by omega)]
    rw [hR]
    have HL := Lib.hid h
    have HD := Lib.hid hd
    clear h ho hd hok hs hnl hR hrl
    go_enter Tryz.func21, Tryz.ntmps21
    go_wp2_with (first
      | (go_at_call 14; refine HFR.out.mono ?_; rintro e w2 ⟨rfl, hb⟩; have HB2 := Lib.hid hb; clear hb)
      | fail)
    go_ret
    exact ⟨rfl, g, HL.out.below HB2.out, DC.below HD.out HB2.out, KL.of_below HB2.out, .inl rfl⟩
  rw [if_neg hbig] at HFR
  have hfz : (bs (frameN r.data.toList)).size = r.size + 12 := by rw [bs_size, frame_len, hrl]
  by_cases hnx : 999999999999 < l.next
  · have hR : addW d l r.data.toList = (2, d, l) := by unfold addW; rw [if_pos (by omega)]
    rw [hR]
    have HL := Lib.hid h
    have HD := Lib.hid hd
    have hnxi : (999999999999 : Int) < (l.next : Int) := by omega
    obtain ⟨F, hF⟩ : ∃ F, bs (frameN r.data.toList) = F := ⟨_, rfl⟩
    rw [hF] at HFR
    obtain ⟨NX, hNX⟩ : ∃ NX : Int, (l.next : Int) = NX := ⟨_, rfl⟩
    rw [hNX] at hnxi
    have HNX := Lib.hid hNX
    clear h ho hd hok hs hnl hR hrl hF hfz hNX
    go_enter Tryz.func21, Tryz.ntmps21
    go_wp2_with (first
      | (go_at_call 14; refine HFR.out.mono ?_; rintro e w2 ⟨rfl, hb⟩; have HB2 := Lib.hid hb; have c4 := (HL.out.below hb).c4; rw [HNX.out] at c4; clear hb)
      | fail)
    go_ret
    exact ⟨rfl, g, HL.out.below HB2.out, DC.below HD.out HB2.out, KL.of_below HB2.out, .inl rfl⟩
  have hR0 : addW d l r.data.toList = if l.seg ≤ l.size then (if (syncW d l).1 = 0 then (if (newW (syncW d l).2.1 (syncW d l).2.2).1 = 0 then appW (newW (syncW d l).2.1 (syncW d l).2.2).2.1 (newW (syncW d l).2.1 (syncW d l).2.2).2.2 r.data.toList else newW (syncW d l).2.1 (syncW d l).2.2) else syncW d l) else appW d l r.data.toList := by
    unfold addW; rw [if_neg (by omega)]
  obtain ⟨F, hF⟩ : ∃ F, bs (frameN r.data.toList) = F := ⟨_, rfl⟩
  rw [hF] at HFR hfz
  obtain ⟨R, hR⟩ : ∃ R, addW d l r.data.toList = R := ⟨_, rfl⟩
  rw [hR] at hR0 ⊢
  have hFm : F.size ≤ maxLen := by unfold maxLen; omega
  have hnxi : ¬ (999999999999 : Int) < (l.next : Int) := by omega
  have hlsz := ho.size
  have hlsg := ho.seg
  have HL := Lib.hid h
  have HD := Lib.hid hd
  have HO := Lib.hid ho
  have HOK := Lib.hid hok
  have HR0 := Lib.hid hR0
  have HS := Lib.hid hs
  have HNL := Lib.hid hnl
  have HF := Lib.hid hF
  have HN := Lib.hid (show l.next ≤ 999999999999 by omega)
  have hne := h.ne
  obtain ⟨NX, hNX⟩ : ∃ NX : Int, (l.next : Int) = NX := ⟨_, rfl⟩
  obtain ⟨SZ, hSZ⟩ : ∃ SZ : Int, (l.size : Int) = SZ := ⟨_, rfl⟩
  obtain ⟨SG, hSG⟩ : ∃ SG : Int, (l.seg : Int) = SG := ⟨_, rfl⟩
  have HNX := Lib.hid hNX
  have HSZ := Lib.hid hSZ
  have HSG := Lib.hid hSG
  rw [hNX] at hnxi
  clear h ho hd hok hs hnl hR hR0 hrl hF hNX hSZ hSG hlsz hlsg
  go_enter Tryz.func21, Tryz.ntmps21
  go_upto_region 2 with (first
    | (go_at_call 14; refine HFR.out.mono ?_; rintro e w2 ⟨rfl, hb⟩; have HB2 := Lib.hid hb; clear hb)
    | fail)
  have HL2 := Lib.hid (HL.out.below HB2.out)
  have HD2 : Hid (DAt w2 db m d) := DC.below HD.out HB2.out
  have HK2 := Lib.hid (KL.of_below (lb := lb) (db := db) (m := m) (g := g) HB2.out)
  have c1 := HL2.out.c1
  have c3 := HL2.out.c3
  have c4 := HL2.out.c4
  rw [HSG.out] at c1
  rw [HSZ.out] at c3
  rw [HNX.out] at c4
  go_upto_region 4 with fail
  go_quiet (fail)
  have HL3 := Lib.hid (HL2.out.drewN (n := nq))
  have HD3 : Hid (DAt (w2.drewN nq) db m d) := HD2.out.drewN
  have HK3 := Lib.hid (HK2.out.kp ((Kp.refl db m w2).drewN (n := nq)))
  generalize w2.drewN nq = w3 at *
  clear c1 c3 c4 HL2 HD2 HK2
  go_upto_if 32 with fail
  go_cut [7, 8] from 10 (fun _ _ wc => AddAt w B lb db m g R r.data.toList wc)
  case first =>
    by_cases hfull : l.seg ≤ l.size
    · have hfi : SG ≤ SZ := by rw [← HSG.out, ← HSZ.out]; omega
      have hd1 : (syncW d l).2.1 = (d.sync (nameN l.lastN)).2 := by unfold syncW; split <;> rfl
      have hl1 : (syncW d l).1 = 0 → (syncW d l).2.2 = { l with safe := l.next - 1 } := by
        unfold syncW
        split
        · intro _; rfl
        · rename_i hq; intro h; exact absurd h hq
      have hok1 : (syncW d l).2.1.Ok := by rw [hd1]; exact HOK.out.sync _
      have hst1 : (syncW d l).2.1.steps + 1 < 4611686018427387904 := by have h1 := HS.out; have h2 := sync_steps d (nameN l.lastN); rw [hd1]; omega
      have HSY := Lib.hid (show ∀ W, LgW W B lb db m g l → DAt W db m d → _ from fun W h hd => sync_gen h HO.out hd HOK.out (by have := HS.out; omega))
      have hR1 : R = if (syncW d l).1 = 0 then (if (newW (syncW d l).2.1 (syncW d l).2.2).1 = 0 then appW (newW (syncW d l).2.1 (syncW d l).2.2).2.1 (newW (syncW d l).2.1 (syncW d l).2.2).2.2 r.data.toList else newW (syncW d l).2.1 (syncW d l).2.2) else syncW d l := by rw [HR0.out, if_pos hfull]
      obtain ⟨S1, hS1⟩ : ∃ S1, syncW d l = S1 := ⟨_, rfl⟩
      simp only [hS1] at hd1 hl1 hok1 hst1 HSY hR1
      obtain ⟨E1, d1, l1⟩ := S1
      simp only at hd1 hl1 hok1 hst1 HSY hR1
      by_cases hE1 : E1 = 0
      · subst hE1
        rw [if_pos rfl] at hR1
        have hl1' := hl1 rfl
        subst hl1'
        have HO1 : Hid (({ l with safe := l.next - 1 } : Lg).Ok) := ⟨HO.out.nz, HO.out.bd, HO.out.size, HO.out.next, by have := HO.out.next; show l.next - 1 ≤ _; omega, HO.out.seg⟩
        have hnm : (nameN l.next).size ≤ maxLen := by rw [nameN_size]; unfold maxLen; decide
        have HNM := Lib.hid (fun W (hP : Pow W) => name_any l.next (by have := HO.out.next; omega) (by have := HN.out; omega) W hP)
        rw [HNX.out] at HNM
        have HP := Lib.hid (show ∀ wx, DAt wx db m d1 → Calls Tryz.prog 28 #[.pointer (some ⟨db, 0, none⟩), .string (nameN l.next)] wx fun e w' => e = .returned (.int .i64 (d1.create (nameN l.next)).1) ∧ DAt w' db m (d1.create (nameN l.next)).2 ∧ Kp db m wx w' from fun wx h => create_any h hok1 (by omega) hnm)
        have hok2 := hok1.create (nameN l.next)
        have hst2 := create_steps d1 (nameN l.next)
        have hnw : newW d1 { l with safe := l.next - 1 } = if (d1.create (nameN l.next)).1 = 0 then (0, (d1.create (nameN l.next)).2, { l with safe := l.next - 1, nums := l.nums ++ [l.next], size := 0 }) else ((d1.create (nameN l.next)).1, (d1.create (nameN l.next)).2, { l with safe := l.next - 1 }) := rfl
        obtain ⟨NMS, hNMS⟩ : ∃ NMS, nameN l.next = NMS := ⟨_, rfl⟩
        rw [hNMS] at HNM HP hok2 hst2 hnw
        obtain ⟨d2, hd2⟩ : ∃ d2, (d1.create NMS).2 = d2 := ⟨_, rfl⟩
        obtain ⟨E2, hE2⟩ : ∃ E2, (d1.create NMS).1 = E2 := ⟨_, rfl⟩
        rw [hd2, hE2] at HP hnw
        rw [hd2] at hok2 hst2
        have HOK2 := Lib.hid hok2
        have HST2 := Lib.hid (show d2.steps < 4611686018427387904 by omega)
        have HR1 := Lib.hid hR1
        have HNW := Lib.hid hnw
        clear hok1 hst1 hok2 hst2 hd1 hl1 hR1 hS1 hnm hNMS hd2 hE2 hnw
        go_upto_region 8 with (first
          | (go_at_call 22; (with_reducible refine (HSY.out _ HL3.out HD3.out).mono ?_); rintro e w4 ⟨rfl, hl4, hd4, hk4⟩; have HL4 := Lib.hid hl4; have HD4 := Lib.hid hd4; have HK4 := Lib.hid (HK3.out.trans hk4 (.inl rfl)); clear hl4 hd4 hk4)
          | fail)
        have c0 := HL4.out.c0
        have c4 := HL4.out.c4
        have hl4 := HL4.out.lt.1
        have HL4d := Lib.hid HL4.out.drew
        have HD4d := Lib.hid (show DAt w4.drew db m d1 from HD4.out.drew)
        simp only [HNX.out] at c4
        go_region_held3 (fun w' => ∀ j, w'.cell? ⟨lb, j, none⟩ = w4.cell? ⟨lb, j, none⟩) ((first | assumption | (intro j; rfl)))
          (first
            | (go_at_call 48; (with_reducible refine (HNM.out _ HL4d.out.pow.here).mono ?_); rintro e w5 ⟨rfl, hb5⟩; have k5 : ∀ j, w5.cell? ⟨lb, j, none⟩ = w4.cell? ⟨lb, j, none⟩ := fun j => (hb5.cell (p := ⟨lb, j, none⟩) hl4).trans rfl; have HL5 := Lib.hid (HL4d.out.below hb5); have HD5 : Hid (DAt w5 db m d1) := DC.below HD4d.out hb5; have HK5 := Lib.hid ((HK4.out.below (Below.refl _ _).drew).below hb5); have hz5 : w4.heap.size ≤ w5.heap.size := hb5.size; clear hb5)
            | (go_at_call 28; (with_reducible refine (HP.out _ HD5.out).mono ?_); rintro e w6 ⟨rfl, hd6, hk6⟩; have k6 : ∀ j, w6.cell? ⟨lb, j, none⟩ = w4.cell? ⟨lb, j, none⟩ := fun j => (hk6.cell (Nat.lt_of_lt_of_le hl4 hz5) hne.1 hne.2.1 j).trans (k5 j); have HD6 := Lib.hid hd6; have HL6 := Lib.hid (HL5.out.kp hk6); have HK6 := Lib.hid (HK5.out.kp hk6); clear hd6 hk6))
        by_cases hE2 : E2 = 0
        · subst hE2
          have HR2 : Hid (R = appW d2 { seg := l.seg, nums := l.nums ++ [l.next], size := 0, next := l.next, safe := l.next - 1 } r.data.toList) := by
            show _ = _
            rw [HR1.out, HNW.out]
            simp
          obtain ⟨o, cap, c2, hN⟩ := HL6.out.c2
          simp only at c2 hN
          obtain ⟨n, hn⟩ : ∃ n, l.nums.length = n := ⟨_, rfl⟩
          rw [hn] at c2
          have hnn : n + 1 ≤ 1000000000000 := by have := HNL.out; omega
          have HNN := Lib.hid hn
          have HN6 := Lib.hid hN
          have f2 := HL6.out.f2
          have f3 := HL6.out.f3
          have hl6 := HL6.out.lt
          have HC6 := Lib.hid c2
          have K6 := Lib.hid k6
          have c2 := (k6 2).symm.trans c2
          clear hN k5 hl4 hz5
          go_upto_region 11 with fail
          have HDN := Lib.hid (show ∀ g7 o7 cap7 w7, App7 w w6 w4 B lb db m g { l with safe := l.next - 1 } d2 l.next w7 g7 o7 cap7 → _ from fun g7 o7 cap7 w7 h => h.done HNN.out)
          have HOL : Hid (({ l with safe := l.next - 1, nums := l.nums ++ [l.next], size := 0 } : Lg).Ok) := ⟨by simp, fun x hx => by
            rcases List.mem_append.1 hx with hx | hx
            · exact HO.out.bd x hx
            · rw [List.mem_singleton.1 hx]; have h1 := HO.out.next; have h2 := HN.out; omega, Nat.zero_le _, HO.out.next, HO1.out.safe, HO.out.seg⟩
          go_region_law
            (first
              | (refine step_append_num (q := l.next) rfl _ _ rfl HNN.out rfl (by repeat' (first | exact HN6.out | refine NumAt.alloc ?_ _ | refine NumAt.drew ?_)) ⟨w6.heap.size, 0, none⟩ 1 rfl (by rw [HNX.out]; exact World.cell?_alloc_new _ _ _ _) hnn ?_; intro g7 o7 cap7 w7 hN7 hN7' hg7 hk7; have HA7 := Lib.hid (App7.mk' (w0 := w) (w6 := w6) (w4 := w4) (by repeat' (first | exact Below.refl _ _ | exact Nat.le_refl _ | refine Below.alloc ?_ ?_ _ | refine Below.drew ?_)) HL6.out HD6.out HK6.out K6.out (by rw [HNN.out]; exact HC6.out) hN7 hN7' hg7 hk7); have k72 := (HA7.out.kc 2).trans c2; have k73 := HA7.out.lg.c3; have f72 := HA7.out.lg.f2; have f73 := HA7.out.lg.f3; clear hN7 hN7' hg7 hk7))
          all_goals
            go_wp2_with fail
            go_meet
            case rel => exact ⟨⟨g7, d2, _, HR2.out, (HDN.out _ _ _ _ HA7.out).1, (HDN.out _ _ _ _ HA7.out).2.1, HOK2.out, HST2.out, HOL.out, HN.out, HA7.out.gg⟩, (HDN.out _ _ _ _ HA7.out).2.2⟩
        · have hEb : (E2 != 0) = true := by simpa using hE2
          have hR2 : R = (E2, d2, { l with safe := l.next - 1 }) := by
            have h1 := HR1.out
            rw [HNW.out, if_neg hE2, if_neg hE2] at h1
            exact h1
          subst hR2
          go_wp2_with fail
          go_ret
          exact ⟨rfl, g, HL6.out, HD6.out, HK6.out, .inl rfl⟩
      · have hEb : (E1 != 0) = true := by simpa using hE1
        rw [if_neg hE1] at hR1
        subst hR1
        clear hok1 hst1 hd1 hl1 hS1
        go_wp2_with (first
          | (go_at_call 22; (with_reducible refine (HSY.out _ HL3.out HD3.out).mono ?_); rintro e w4 ⟨rfl, hl4, hd4, hk4⟩; have HL4 := Lib.hid hl4; have HD4 := Lib.hid hd4; have HK4 := Lib.hid (HK3.out.trans hk4 (.inl rfl)); clear hl4 hd4 hk4)
          | fail)
        go_ret
        exact ⟨rfl, g, HL4.out, HD4.out, HK4.out, .inl rfl⟩
    · have hfi : ¬ SG ≤ SZ := by rw [← HSG.out, ← HSZ.out]; omega
      have HR1 : Hid (R = appW d l r.data.toList) := by show _ = _; rw [HR0.out, if_neg hfull]
      go_wp2_with fail
      go_meet
      case rel => exact ⟨⟨g, d, l, HR1.out, HL3.out, HD3.out, HOK.out, by have := HS.out; omega, HO.out, HN.out, .inl rfl⟩, HK3.out⟩
  case rest =>
  obtain ⟨⟨g2, d2, l2, hR2, hL2, hD2, hOk2, hSt2, hO2, hN2, hg2⟩, hK2⟩ := hcut
  have hnm : (nameN l2.lastN).size ≤ maxLen := by rw [nameN_size]; unfold maxLen; decide
  have HLA := Lib.hid (fun wx (h : LgW wx B lb db m g2 l2) => last_any h hO2)
  have HP := Lib.hid (show ∀ wx, DAt wx db m d2 → Calls Tryz.prog 30 #[.pointer (some ⟨db, 0, none⟩), .string (nameN l2.lastN), .string F] wx fun e w' => e = .returned (.int .i64 (d2.append (nameN l2.lastN) F).1) ∧ DAt w' db m (d2.append (nameN l2.lastN) F).2 ∧ Kp db m wx w' from fun wx h => append_any h hOk2 hSt2 hnm hFm)
  have hR3 : R = if (d2.append (nameN l2.lastN) F).1 = 0 then (0, (d2.append (nameN l2.lastN) F).2, { l2 with size := l2.size + F.size, next := l2.next + 1 }) else ((d2.append (nameN l2.lastN) F).1, (d2.append (nameN l2.lastN) F).2, l2) := by
    rw [hR2]
    unfold appW
    rw [HF.out, show r.data.toList.length + 12 = F.size by rw [hfz]; simp]
  have hfb : F.size ≤ 65548 := by omega
  obtain ⟨FZ, hFZ⟩ : ∃ FZ, F.size = FZ := ⟨_, rfl⟩
  rw [hFZ] at hR3 hfb
  obtain ⟨S, hS⟩ : ∃ S, nameN l2.lastN = S := ⟨_, rfl⟩
  rw [hS] at HLA HP hR3
  obtain ⟨D2, hD2'⟩ : ∃ D2, (d2.append S F).2 = D2 := ⟨_, rfl⟩
  obtain ⟨E, hE⟩ : ∃ E, (d2.append S F).1 = E := ⟨_, rfl⟩
  rw [hD2', hE] at HP hR3
  have c0 := hL2.c0
  have c3 := hL2.c3
  have c4 := hL2.c4
  have hlc := hL2.lt.1
  have hsz2 := hO2.size
  have HST := Lib.hid (show ∀ W, LgW W B lb db m g2 l2 → LgW ((W.setCell ⟨lb, 3, none⟩ (.int .i64 ((l2.size + FZ : Nat) : Int))).setCell ⟨lb, 4, none⟩ (.int .i64 ((l2.next + 1 : Nat) : Int))) B lb db m g2 { l2 with size := l2.size + FZ, next := l2.next + 1 } from fun W h =>
    (h.store 3 (by decide) (l2.size + FZ) { l2 with size := l2.size + FZ } rfl rfl rfl rfl rfl).store 4 (by decide) (l2.next + 1) _ rfl rfl rfl rfl rfl)
  obtain ⟨NY, hNY⟩ : ∃ NY : Int, (l2.next : Int) = NY := ⟨_, rfl⟩
  obtain ⟨SY, hSY⟩ : ∃ SY : Int, (l2.size : Int) = SY := ⟨_, rfl⟩
  have hws : IntKind.i64.wrap (SY + (FZ : Int)) = ((l2.size + FZ : Nat) : Int) := by rw [IntKind.wrap_i64]; omega
  have hwn : IntKind.i64.wrap (NY + 1) = ((l2.next + 1 : Nat) : Int) := by rw [IntKind.wrap_i64]; omega
  obtain ⟨SS, hSS⟩ : ∃ SS : Int, ((l2.size + FZ : Nat) : Int) = SS := ⟨_, rfl⟩
  obtain ⟨NN, hNN⟩ : ∃ NN : Int, ((l2.next + 1 : Nat) : Int) = NN := ⟨_, rfl⟩
  rw [hNY] at c4
  rw [hSY] at c3
  rw [hSS] at hws HST
  rw [hNN] at hwn HST
  have HL3' := Lib.hid hL2.drew
  have HD3' := Lib.hid (show DAt wc.drew db m d2 from hD2.drew)
  have HK3' := Lib.hid hK2
  have HG := Lib.hid hg2
  clear hR2 hL2 hD2 hOk2 hSt2 hO2 hN2 hg2 hK2 hnm hS hD2' hE hsz2 hNY hSY hSS hNN hfz hfb
  by_cases hE0 : E = 0
  · subst hE0
    rw [if_pos rfl] at hR3
    subst hR3
    go_upto_region 12 with fail
    go_region_held3 (fun w' => ∀ j, w'.cell? ⟨lb, j, none⟩ = wc.cell? ⟨lb, j, none⟩) ((first | assumption | (intro j; rfl)))
      (first
        | (go_at_call 50; (with_reducible refine (HLA.out _ HL3'.out).mono ?_); rintro e w5 ⟨rfl, hb5⟩; have k5 : ∀ j, w5.cell? ⟨lb, j, none⟩ = wc.cell? ⟨lb, j, none⟩ := fun j => (hb5.cell (p := ⟨lb, j, none⟩) hlc).trans rfl; have HL5 := Lib.hid (HL3'.out.below hb5); have HD5 : Hid (DAt w5 db m d2) := DC.below HD3'.out hb5; have HK5 := Lib.hid ((HK3'.out.below (Below.refl _ _).drew).below hb5); have hz5 : wc.heap.size ≤ w5.heap.size := hb5.size; clear hb5)
        | (go_at_call 30; (with_reducible refine (HP.out _ HD5.out).mono ?_); rintro e w6 ⟨rfl, hd6, hk6⟩; have k6 : ∀ j, w6.cell? ⟨lb, j, none⟩ = wc.cell? ⟨lb, j, none⟩ := fun j => (hk6.cell (Nat.lt_of_lt_of_le hlc hz5) hne.1 hne.2.1 j).trans (k5 j); have HD6 := Lib.hid hd6; have HL6 := Lib.hid (HL5.out.kp hk6); have HK6 := Lib.hid (HK5.out.kp hk6); clear hd6 hk6))
    have f3 := HL6.out.f3
    have f4 := HL6.out.f4
    go_wp2_with fail
    go_ret
    exact ⟨rfl, g2, HST.out _ HL6.out, DC.far (DC.far HD6.out (fun e => hne.1 e.symm) (fun e => hne.2.1 e.symm) _ _) (fun e => hne.1 e.symm) (fun e => hne.2.1 e.symm) _ _, (HK6.out.set _ _).set _ _, HG.out⟩
  · have hEb : (E != 0) = true := by simpa using hE0
    rw [if_neg hE0] at hR3
    subst hR3
    go_upto_region 12 with fail
    go_region_held3 (fun w' => ∀ j, w'.cell? ⟨lb, j, none⟩ = wc.cell? ⟨lb, j, none⟩) ((first | assumption | (intro j; rfl)))
      (first
        | (go_at_call 50; (with_reducible refine (HLA.out _ HL3'.out).mono ?_); rintro e w5 ⟨rfl, hb5⟩; have k5 : ∀ j, w5.cell? ⟨lb, j, none⟩ = wc.cell? ⟨lb, j, none⟩ := fun j => (hb5.cell (p := ⟨lb, j, none⟩) hlc).trans rfl; have HL5 := Lib.hid (HL3'.out.below hb5); have HD5 : Hid (DAt w5 db m d2) := DC.below HD3'.out hb5; have HK5 := Lib.hid ((HK3'.out.below (Below.refl _ _).drew).below hb5); have hz5 : wc.heap.size ≤ w5.heap.size := hb5.size; clear hb5)
        | (go_at_call 30; (with_reducible refine (HP.out _ HD5.out).mono ?_); rintro e w6 ⟨rfl, hd6, hk6⟩; have k6 : ∀ j, w6.cell? ⟨lb, j, none⟩ = wc.cell? ⟨lb, j, none⟩ := fun j => (hk6.cell (Nat.lt_of_lt_of_le hlc hz5) hne.1 hne.2.1 j).trans (k5 j); have HD6 := Lib.hid hd6; have HL6 := Lib.hid (HL5.out.kp hk6); have HK6 := Lib.hid (HK5.out.kp hk6); clear hd6 hk6))
    go_wp2_with fail
    go_ret
    exact ⟨rfl, g2, HL6.out, HD6.out, HK6.out, HG.out⟩
end Go.Proofs.YtnpgjlhnlakgpaaGreatDoor

/- The document's Times: a product, digit by digit. -/
import Derived.Test.YtokbdleokihdaaaGreatDoorG14
import Derived.Laws.OwnMore
import Derived.StillTailTactics
namespace Go.Proofs.YtokbdleokihdaaaGreatDoor
open Go.RowKit

/-- What stands in memory while a product is made. -/
structure TimS (w wr : World) (ma : Bool) (va : Value) (mb : Bool) (vb : Value) (V : Value) (N : Nat) (ds : List Nat) : Prop where
  own : wr.ownsRow (w.heap.size + 4) 51 1 V N (u64s ds)
  b0 : Bg wr w.heap.size ma va
  b1 : Bg wr (w.heap.size + 1) mb vb
  b2 : Bg wr (w.heap.size + 2) false (.slice none 0 0)
  b3 : Bg wr (w.heap.size + 3) false V
  below : Below w.heap.size w wr
theorem TimS.at {w wr : World} {ma : Bool} {va : Value} {mb : Bool} {vb V : Value} {N : Nat} {ds : List Nat} (h : TimS w wr ma va mb vb V N ds) (hN : 0 < N) :
    ∃ g c, V = .slice (some ⟨g, 0, none⟩) N c ∧ w.heap.size + 4 ≤ g ∧ N ≤ c := by
  rcases h.own.2 with ⟨rfl, h0⟩ | ⟨g, c, cur, rfl, h1, h2, h3, h4⟩
  · omega
  · exact ⟨g, c, rfl, h1, h3⟩
theorem TimS.store {w wr : World} {ma : Bool} {va : Value} {mb : Bool} {vb : Value} {N g c : Nat} {ds : List Nat} (h : TimS w wr ma va mb vb (.slice (some ⟨g, 0, none⟩) N c) N ds) (hg : w.heap.size + 4 ≤ g) (j d : Nat) :
    TimS w (wr.setCell ⟨g, j, none⟩ (.int .u64 (d : Int))) ma va mb vb (.slice (some ⟨g, 0, none⟩) N c) N (ds.set j d) := by
  refine ⟨?_, h.b0.set (by show g ≠ _; omega) _, h.b1.set (by show g ≠ _; omega) _, h.b2.set (by show g ≠ _; omega) _, h.b3.set (by show g ≠ _; omega) _, h.below.setCell (p := ⟨g, j, none⟩) (by show _ ≤ g; omega) _⟩
  have := (h.own.stored j (.int .u64 (d : Int))).1
  simpa [u64s, List.map_set] using this
theorem TimS.cellAt {w wr : World} {ma : Bool} {va : Value} {mb : Bool} {vb : Value} {N g c : Nat} {ds : List Nat} (h : TimS w wr ma va mb vb (.slice (some ⟨g, 0, none⟩) N c) N ds) (hl : ds.length = N) {j : Nat} (hj : j < N) :
    wr.cell? ⟨g, j, none⟩ = some (.int .u64 ((ds.getD j 0 : Nat) : Int)) ∧ wr.frozen? ⟨g, j, none⟩ = false := by
  refine ⟨?_, h.own.frozenAt j⟩
  rw [h.own.cellAt j (by omega)]
  unfold u64s
  rw [List.getElem?_map, List.getElem?_eq_getElem (by omega)]
  simp [List.getD_eq_getElem?_getD, List.getElem?_eq_getElem (show j < ds.length by omega)]
theorem Bg.drew {w : World} {b : Nat} {m : Bool} {v : Value} (h : Bg w b m v) : Bg w.drew b m v := ⟨h.lt, h.c0, h.c1, h.f0, h.f1⟩
theorem TimS.drew {w wr : World} {ma : Bool} {va : Value} {mb : Bool} {vb V : Value} {N : Nat} {ds : List Nat} (h : TimS w wr ma va mb vb V N ds) : TimS w wr.drew ma va mb vb V N ds :=
  ⟨h.own, h.b0.drew, h.b1.drew, h.b2.drew, h.b3.drew, h.below.drew⟩
theorem urow_tail {w : World} {v : Value} {ds : List Nat} {a b : Nat} {m n : Bool} {x y : Value} (h : URow w v ds) (ha : Bg w a m x) (hb : Bg w b n y) (hne : a ≠ b) (f1 f2 f3 : Bool) (v1 v2 : Value) :
    URow (((((w.setCell ⟨a, 0, none⟩ (.bool f1)).setCell ⟨a, 1, none⟩ v1).setCell ⟨a, 0, none⟩ (.bool f2)).setCell ⟨b, 0, none⟩ (.bool f3)).setCell ⟨b, 1, none⟩ v2) v ds :=
  ((((h.set ha 0 _).set (ha.set0 f1) 1 v1).set ((ha.set0 f1).set1 v1) 0 _).set (((hb.set (by exact hne) _).set (by exact hne) _).set (by exact hne) _) 0 _).set ((((hb.set (by exact hne) _).set (by exact hne) _).set (by exact hne) _).set0 f3) 1 v2
theorem below_tail {B : Nat} {w0 w : World} {a b : Nat} (h : Below B w0 w) (ha : B ≤ a) (hb : B ≤ b) (f1 f2 f3 : Bool) (v1 v2 : Value) :
    Below B w0 (((((w.setCell ⟨a, 0, none⟩ (.bool f1)).setCell ⟨a, 1, none⟩ v1).setCell ⟨a, 0, none⟩ (.bool f2)).setCell ⟨b, 0, none⟩ (.bool f3)).setCell ⟨b, 1, none⟩ v2) :=
  ((((h.setCell (p := ⟨a, 0, none⟩) ha _).setCell (p := ⟨a, 1, none⟩) ha _).setCell (p := ⟨a, 0, none⟩) ha _).setCell (p := ⟨b, 0, none⟩) hb _).setCell (p := ⟨b, 1, none⟩) hb _

set_option maxRecDepth 100000 in
set_option maxHeartbeats 4000000 in
theorem bigtimes_any (ma mb : Bool) (va vb : Value) (x y : Nat) (w : World) (ha : URow w va (digs x)) (hb : URow w vb (digs y)) (hla : (digs x).length ≤ 900) (hlb : (digs y).length ≤ 900) :
    Calls Tryz.prog 50 #[.agg #[.bool ma, va], .agg #[.bool mb, vb]] w fun e w' => ∃ v, e = .returned (.agg #[.bool ((ma != mb) && decide (0 < (digs (x * y)).length)), v]) ∧ URow w' v (digs (x * y)) ∧ Below w.heap.size w w' := by
  obtain ⟨i0, hi, hz0, hz1, hz2⟩ := info_parts u64info
  obtain ⟨pa, ca, rfl, -, ha⟩ := ha
  obtain ⟨pb, cb, rfl, -, hb⟩ := hb
  have HA := Lib.hid ha
  have HB := Lib.hid hb
  clear ha hb
  generalize hna : (digs x).length = na at *
  generalize hnb : (digs y).length = nb at *
  have HNA := Lib.hid hna
  have HNB := Lib.hid hnb
  clear hna hnb
  obtain ⟨N, hN0⟩ : ∃ N, N = na + nb := ⟨_, rfl⟩
  have HN0 := Lib.hid hN0
  have hNi : (na : Int) + (nb : Int) = (N : Int) := by omega
  have hN8 : N ≤ 1800 := by omega
  have hNa : na ≤ N := by omega
  have hNb : nb ≤ N := by omega
  clear hN0
  go_enter Tryz.func50, Tryz.ntmps50
  go_wp2_with fail
  obtain ⟨hB3, hz3, -⟩ := boxes3 w #[.bool ma, .slice pa na ca] #[.bool mb, .slice pb nb cb] #[.bool false, .slice none 0 0] 65 65 65
  have b0 := (((Bg.new w ma (.slice pa na ca) 65).alloc (.cells #[.bool mb, .slice pb nb cb] 65)).alloc (.cells #[.bool false, .slice none 0 0] 65)).alloc (.cells #[.bool false, .slice none 0 0] 65)
  have b1 := ((Bg.new (w.alloc (.cells #[.bool ma, .slice pa na ca] 65)) mb (.slice pb nb cb) 65).alloc (.cells #[.bool false, .slice none 0 0] 65)).alloc (.cells #[.bool false, .slice none 0 0] 65)
  have b2 := (Bg.new ((w.alloc (.cells #[.bool ma, .slice pa na ca] 65)).alloc (.cells #[.bool mb, .slice pb nb cb] 65)) false (.slice none 0 0) 65).alloc (.cells #[.bool false, .slice none 0 0] 65)
  have b3 := Bg.new (((w.alloc (.cells #[.bool ma, .slice pa na ca] 65)).alloc (.cells #[.bool mb, .slice pb nb cb] 65)).alloc (.cells #[.bool false, .slice none 0 0] 65)) false (.slice none 0 0) 65
  have hB4 := hB3.alloc (by omega) (.cells #[.bool false, .slice none 0 0] 65)
  rw [hz3] at b3
  have e2 : ((w.alloc (.cells #[.bool ma, .slice pa na ca] 65)).alloc (.cells #[.bool mb, .slice pb nb cb] 65)).heap.size = w.heap.size + 2 := by simp
  have e1 : (w.alloc (.cells #[.bool ma, .slice pa na ca] 65)).heap.size = w.heap.size + 1 := by simp
  rw [e2] at b2
  rw [e1] at b1
  clear hB3 hz3 e1 e2
  generalize ((((w.alloc (.cells #[.bool ma, .slice pa na ca] 65)).alloc (.cells #[.bool mb, .slice pb nb cb] 65)).alloc (.cells #[.bool false, .slice none 0 0] 65)).alloc (.cells #[.bool false, .slice none 0 0] 65)) = W0 at *
  go_loopw [6] (fun i wr => ∃ (k : Nat) (v : Value), i = .int .i64 (k : Int) ∧ k ≤ N ∧ TimS w wr ma (.slice pa na ca) mb (.slice pb nb cb) v k (List.replicate k 0))
    (fun i _ => (N - intOf i).toNat)
  case atStart => exact ⟨0, .slice none 0 0, rfl, by omega, ⟨World.ownsRow_nil _ _ _ _, b0, b1, b2, b3, hB4⟩⟩
  case round =>
    clear b0 b1 b2 b3 hB4
    obtain ⟨k, v, rfl, hk, hS⟩ := hrel
    have HS := Lib.hid hS
    have k0 := hS.b0.c1
    have k1 := hS.b1.c1
    have k31 := hS.b3.c1
    have hl3 := hS.b3.lt
    obtain ⟨p, ln, cp, rfl⟩ := owns_slice hS.own
    clear hS
    by_cases hlt : k < N
    · go_wp2_with (at_builtin; refine wpList_append_own _ rfl _ _ 63 rfl (w.heap.size + 4) 51 i0 (.int .u64 0) 1 8 Tryz.underlying63 hi hz0 hz1 hz2 rfl (by decide) _ _ _ rfl (HS.out.own.alloc _) ⟨wr.heap.size, 0, none⟩ 1 1 [.int .u64 0] rfl rfl ?c1 ?c2 ?c3 ?c4 ?c5 ?_)
      case c1 =>
        intro j u hj
        match j, hj with
        | 0, hj => simp at hj; subst hj; simp [Addr.add]
      case c2 => intro u hu; simp at hu; subst hu; rfl
      case c3 => unfold maxLen; omega
      case c4 => omega
      case c5 => simp; omega
      intro v' w1 hown' hgrow _
      obtain ⟨p', ln', cp', rfl⟩ := owns_slice hown'
      have hne : ∀ j, j < w.heap.size + 4 → some j ≠ (Value.slice p ln cp).ownBlock := fun j hj h => by have := HS.out.own.lt j h.symm; omega
      have G0 := Lib.hid ((HS.out.b0.alloc _).grown hgrow (hne _ (by omega)))
      have G1 := Lib.hid ((HS.out.b1.alloc _).grown hgrow (hne _ (by omega)))
      have G2 := Lib.hid ((HS.out.b2.alloc _).grown hgrow (hne _ (by omega)))
      have G3 := Lib.hid ((HS.out.b3.alloc _).grown hgrow (hne _ (by omega)))
      have HB1 := Lib.hid ((HS.out.below.alloc (by omega) _).grown hgrow (by simp; omega) (fun j hj => by have := (HS.out.own.lt j hj).1; omega))
      have HO1 := Lib.hid hown'
      clear hown' hgrow hne HS k0 k1 k31
      have k1 := G3.out.c1
      have k2 := G3.out.f1
      go_wp2_with fail
      go_roundw
      case rel =>
        refine ⟨k + 1, .slice p' ln' cp', by go_num, by omega, ⟨?_, G0.out.set (by show w.heap.size + 3 ≠ w.heap.size; omega) _, G1.out.set (by show w.heap.size + 3 ≠ w.heap.size + 1; omega) _, G2.out.set (by show w.heap.size + 3 ≠ w.heap.size + 2; omega) _, G3.out.set1 _, ?_⟩⟩
        · have := ownsRow_setCell_below HO1.out (a := ⟨w.heap.size + 3, 1, none⟩) (by show w.heap.size + 3 < w.heap.size + 4; omega) (.slice p' ln' cp')
          rw [List.replicate_succ', u64s, List.map_append]
          exact this
        · exact HB1.out.setCell (p := ⟨w.heap.size + 3, 1, none⟩) (Nat.le_add_right _ _) _
      case measure => simp [intOf]; omega
    · obtain rfl : N = k := by omega
      have HM : Hid (MulR x y (List.replicate N 0) 0 0) := by
        have := MulR.start x y
        rwa [HNA.out, HNB.out, ← HN0.out] at this
      have HVv : ∃ V, V = Value.slice p ln cp := ⟨_, rfl⟩
      obtain ⟨V, hV⟩ := HVv
      rw [← hV] at HS k31
      clear hV
      go_wp2_with fail
      go_loopw [33] (fun i wr => ∃ (k : Nat) (ds : List Nat), i = .int .i64 (k : Int) ∧ k ≤ na ∧ MulR x y ds k 0 ∧ TimS w wr ma (.slice pa na ca) mb (.slice pb nb cb) V N ds)
        (fun i _ => (na - intOf i).toNat)
      case atStart => exact ⟨0, _, rfl, by omega, HM.out, HS.out⟩
      case round =>
        clear HM HS k0 k1 k31 hl3
        obtain ⟨k, ds, rfl, hkn, hM, hS⟩ := hrel
        have HM := Lib.hid hM
        have HS := Lib.hid hS
        have k1 := hS.b1.c1
        clear hM hS
        by_cases hx : k < na
        · obtain ⟨ga, rfl, kx⟩ := URow.at HA.out HS.out.below hx HNA.out
          have hsx : (digs x).getD k 0 < 1000000 := small_getD (small_digs x) k
          obtain ⟨dx, hdx⟩ : ∃ dx, dx = (digs x).getD k 0 := ⟨_, rfl⟩
          have HDX := Lib.hid hdx
          rw [← hdx] at kx hsx
          clear hdx
          go_wp2_with fail
          go_loopw [41] (fun i wr => ∃ (j : Nat) (ds : List Nat), i = .int .i64 (j : Int) ∧ j ≤ nb ∧ MulR x y ds k j ∧ TimS w wr ma (.slice (some ⟨ga, 0, none⟩) na ca) mb (.slice pb nb cb) V N ds)
            (fun i _ => (nb - intOf i).toNat)
          case atStart => exact ⟨0, _, rfl, by omega, HM.out, HS.out⟩
          case round =>
            clear HM HS k1 kx
            obtain ⟨j, ds, rfl, hjn, hM, hS⟩ := hrel
            have HM := Lib.hid hM
            have HS := Lib.hid hS
            clear hM hS
            by_cases hy : j < nb
            · obtain ⟨gb, rfl, ky⟩ := URow.at HB.out HS.out.below hy HNB.out
              have hsy : (digs y).getD j 0 < 1000000 := small_getD (small_digs y) j
              obtain ⟨dy, hdy⟩ : ∃ dy, dy = (digs y).getD j 0 := ⟨_, rfl⟩
              obtain ⟨m, hm⟩ : ∃ m, m = dx * dy := ⟨_, rfl⟩
              have HC : Hid (CarR x y ds k j (k + j) m) := by
                have := HM.out.carry
                rwa [← HDX.out, ← hdy, ← hm] at this
              have hm3 : m < 1000000000000 := HC.out.hc
              have em : (dx : Int) * (dy : Int) = (m : Int) := by rw [hm]; simp
              rw [← hdy] at ky hsy
              clear hdy hm
              go_wp2_with fail
              go_loopw [11, 12] (fun i c wr => ∃ (K cr : Nat) (ds : List Nat), i = .int .i64 (K : Int) ∧ c = .int .u64 (cr : Int) ∧ K ≤ N ∧ CarR x y ds k j K cr ∧ TimS w wr ma (.slice (some ⟨ga, 0, none⟩) na ca) mb (.slice (some ⟨gb, 0, none⟩) nb cb) V N ds)
                (fun i _ _ => (N - intOf i).toNat)
              case atStart => exact ⟨k + j, m, _, by go_num, rfl, by have := HN0.out; omega, HC.out, HS.out⟩
              case round =>
                clear HM HC HS ky em hm3
                obtain ⟨kk, cr, ds, rfl, rfl, hkkn, hC, hS⟩ := hrel
                have HC := Lib.hid hC
                have HS := Lib.hid hS
                have hcb : cr < 1000000000000 := hC.hc
                clear hC hS
                by_cases hc : 0 < cr
                · have hkk : kk < N := by
                    have := HC.out.lt (by rw [HNA.out]; exact hx) hc
                    rwa [HNA.out, HNB.out, ← HN0.out] at this
                  have hki : (kk : Int) < (N : Int) := by omega
                  obtain ⟨g, c, rfl, hg, hcap⟩ := HS.out.at (by omega)
                  have hlen : ds.length = N := by rw [HC.out.len, HNA.out, HNB.out, HN0.out]
                  obtain ⟨q0, qf⟩ := HS.out.cellAt hlen hkk
                  have hd6 : ds.getD kk 0 < 1000000 := small_getD HC.out.small kk
                  have HR := Lib.hid (HC.out.round (by rw [hlen]; exact hkk))
                  obtain ⟨d, hd⟩ : ∃ d, d = ds.getD kk 0 := ⟨_, rfl⟩
                  obtain ⟨s, hs⟩ : ∃ s, s = d + cr := ⟨_, rfl⟩
                  have es : (d : Int) + (cr : Int) = (s : Int) := by omega
                  rw [← hd] at q0 hd6 HR
                  rw [← hs] at HR
                  have hs3 : s < 2000000000000 := by omega
                  have HL := Lib.hid hlen
                  have q31 := HS.out.b3.c1
                  have hSd := HS.out.drew
                  have q31d := hSd.b3.c1
                  obtain ⟨q0d, qfd⟩ := hSd.cellAt hlen hkk
                  rw [← hd] at q0d
                  have hS1 := hSd.store hg kk s
                  have ew : IntKind.u64.wrap (s : Int) = (s : Int) := by rw [IntKind.wrap_u64]; omega
                  have q31' := hS1.b3.c1
                  obtain ⟨q0', qf'⟩ := hS1.cellAt (by rw [List.length_set]; exact hlen) hkk
                  have q31'' := hS1.drew.b3.c1
                  obtain ⟨q0'', qf''⟩ := hS1.drew.cellAt (by rw [List.length_set]; exact hlen) hkk
                  have hS2 := hS1.drew.store hg kk (s % 1000000)
                  rw [List.set_set, Int.natCast_emod, show ((1000000 : Nat) : Int) = 1000000 from rfl] at hS2
                  have HS2 := Lib.hid hS2
                  have hq : (ds.set kk s).getD kk 0 = s := by simp [List.getD_eq_getElem?_getD, show kk < ds.length by omega]
                  rw [hq] at q0' q0''
                  clear hd hs hq hSd hS1 hS2 hlen HS HC
                  go_wp2_with fail
                  refine wp_region_still_tail 11 (by kernel_rfl) (by kernel_rfl) ?_
                  simp only [List.take_succ_cons, List.take_zero, List.drop_succ_cons, List.drop_zero]
                  change wpStill _ _ wr.drew (fun a' => wpList _ _ _ _ a' wr.drew) _ _
                  generalize wr.drew = wd at *
                  repeat still_step
                  refine wpStill_nil ?_
                  clear q0 qf q31
                  generalize hw1 : wd.setCell ⟨g, kk, none⟩ (.int .u64 (s : Int)) = w1 at *
                  have HW1 := Lib.hid hw1
                  clear hw1
                  go_wp2_with fail
                  rw [HW1.out]
                  clear q0d qfd q31d
                  go_wp2_with fail
                  refine wp_region_still_tail 10 (by kernel_rfl) (by kernel_rfl) ?_
                  simp only [List.take_succ_cons, List.take_zero, List.drop_succ_cons, List.drop_zero]
                  change wpStill _ _ w1.drew (fun a' => wpList _ _ _ _ a' w1.drew) _ _
                  generalize w1.drew = wd1 at *
                  repeat still_step
                  refine wpStill_nil ?_
                  clear q0' qf' q31'
                  go_wp2_with fail
                  go_roundw
                  case rel => exact ⟨kk + 1, s / 1000000, _, by go_num, by go_num, by omega, HR.out, HS2.out⟩
                  case measure => simp [intOf]; omega
                · obtain rfl : cr = 0 := by omega
                  go_wp2_with fail
                  go_roundw
                  case rel => exact ⟨j + 1, ds, by go_num, by omega, HC.out.done, HS.out⟩
                  case measure => simp [intOf]; omega
            · obtain rfl : j = nb := by omega
              have HN : Hid (MulR x y ds (k + 1) 0) := by
                have := HM.out
                rw [← HNB.out] at this
                exact this.next
              go_wp2_with fail
              go_roundw
              case rel => exact ⟨k + 1, ds, by go_num, by omega, HN.out, HS.out⟩
              case measure => simp [intOf]; omega
        · obtain rfl : k = na := by omega
          have HE : Hid (val ds = x * y) := by
            have := HM.out
            rw [← HNA.out] at this
            exact this.done
          have HL : Hid (ds.length = N) := by show _ = _; rw [HM.out.len, HNA.out, HNB.out, HN0.out]
          have HSm : Hid (Small ds) := HM.out.small
          have k30 := HS.out.b3.c0
          have k31 := HS.out.b3.c1
          go_wp2_with fail
          have hu : URow wr V ds := URow.of_owns (by rw [HL.out]; exact HS.out.own)
          refine (trimmed_v hu HSm.out (by rw [HL.out]; omega)).mono ?_
          rintro e w1 ⟨v, rfl, hv, hb1⟩
          rw [HE.out] at hv
          obtain ⟨rv, hrv, hv⟩ := hv
          have hneg : decide (((x * y : Nat) : Int) < 0) = false := decide_eq_false (Int.not_lt.2 (Int.natCast_nonneg _))
          rw [hneg] at hrv
          subst hrv
          rw [Int.natAbs_natCast] at hv
          obtain ⟨p', cp', rfl, -, -⟩ := id hv
          have HV := Lib.hid hv
          generalize hLd : (digs (x * y)).length = L at *
          have HLd := Lib.hid hLd
          clear hLd
          have G0 := HS.out.b0.below hb1 HS.out.b0.lt
          have G1 := HS.out.b1.below hb1 HS.out.b1.lt
          have G2 := HS.out.b2.below hb1 HS.out.b2.lt
          have G3 := HS.out.b3.below hb1 HS.out.b3.lt
          have HW := Lib.hid (HS.out.below.trans (hb1.mono HS.out.below.size))
          have HG2 := Lib.hid G2
          have HG3 := Lib.hid G3
          have t0 := G0.c0
          have t1 := G1.c0
          have t20 := G2.c0
          have t21 := G2.c1
          have t2f := G2.f0
          have t2g := G2.f1
          have t30 := G3.c0
          have t31 := G3.c1
          have t3f := G3.f0
          have t3g := G3.f1
          have hl3 := G3.lt
          clear G0 G1 G2 G3 hb1 hv hneg hu k30 k31 k1 HS HM HSm HE HL
          by_cases hL : 0 < L
          · rcases ma with _ | _ <;> rcases mb with _ | _
            all_goals
              go_wp2_with fail
            · refine bodyPost_ret (v := .agg #[.bool false, .slice p' L cp']) (by simp [results, Tryz.results50, go_sem, t20, t21]) rfl ⟨.slice p' L cp', by rw [HLd.out]; simp [hL], urow_tail HV.out HG3.out HG2.out (by show w.heap.size + 3 ≠ w.heap.size + 2; omega) _ _ _ _ _, below_tail HW.out (by omega) (by omega) _ _ _ _ _⟩
            · refine bodyPost_ret (v := .agg #[.bool true, .slice p' L cp']) (by simp [results, Tryz.results50, go_sem, t20, t21]) rfl ⟨.slice p' L cp', by rw [HLd.out]; simp [hL], urow_tail HV.out HG3.out HG2.out (by show w.heap.size + 3 ≠ w.heap.size + 2; omega) _ _ _ _ _, below_tail HW.out (by omega) (by omega) _ _ _ _ _⟩
            · refine bodyPost_ret (v := .agg #[.bool true, .slice p' L cp']) (by simp [results, Tryz.results50, go_sem, t20, t21]) rfl ⟨.slice p' L cp', by rw [HLd.out]; simp [hL], urow_tail HV.out HG3.out HG2.out (by show w.heap.size + 3 ≠ w.heap.size + 2; omega) _ _ _ _ _, below_tail HW.out (by omega) (by omega) _ _ _ _ _⟩
            · refine bodyPost_ret (v := .agg #[.bool false, .slice p' L cp']) (by simp [results, Tryz.results50, go_sem, t20, t21]) rfl ⟨.slice p' L cp', by rw [HLd.out]; simp [hL], urow_tail HV.out HG3.out HG2.out (by show w.heap.size + 3 ≠ w.heap.size + 2; omega) _ _ _ _ _, below_tail HW.out (by omega) (by omega) _ _ _ _ _⟩
          · obtain rfl : L = 0 := by omega
            rcases ma with _ | _ <;> rcases mb with _ | _
            all_goals
              go_wp2_with fail
            · refine bodyPost_ret (v := .agg #[.bool false, .slice p' 0 cp']) (by simp [results, Tryz.results50, go_sem, t20, t21]) rfl ⟨.slice p' 0 cp', by rw [HLd.out]; simp, urow_tail HV.out HG3.out HG2.out (by show w.heap.size + 3 ≠ w.heap.size + 2; omega) _ _ _ _ _, below_tail HW.out (by omega) (by omega) _ _ _ _ _⟩
            · refine bodyPost_ret (v := .agg #[.bool false, .slice p' 0 cp']) (by simp [results, Tryz.results50, go_sem, t20, t21]) rfl ⟨.slice p' 0 cp', by rw [HLd.out]; simp, urow_tail HV.out HG3.out HG2.out (by show w.heap.size + 3 ≠ w.heap.size + 2; omega) _ _ _ _ _, below_tail HW.out (by omega) (by omega) _ _ _ _ _⟩
            · refine bodyPost_ret (v := .agg #[.bool false, .slice p' 0 cp']) (by simp [results, Tryz.results50, go_sem, t20, t21]) rfl ⟨.slice p' 0 cp', by rw [HLd.out]; simp, urow_tail HV.out HG3.out HG2.out (by show w.heap.size + 3 ≠ w.heap.size + 2; omega) _ _ _ _ _, below_tail HW.out (by omega) (by omega) _ _ _ _ _⟩
            · refine bodyPost_ret (v := .agg #[.bool false, .slice p' 0 cp']) (by simp [results, Tryz.results50, go_sem, t20, t21]) rfl ⟨.slice p' 0 cp', by rw [HLd.out]; simp, urow_tail HV.out HG3.out HG2.out (by show w.heap.size + 3 ≠ w.heap.size + 2; omega) _ _ _ _ _, below_tail HW.out (by omega) (by omega) _ _ _ _ _⟩
end Go.Proofs.YtokbdleokihdaaaGreatDoor

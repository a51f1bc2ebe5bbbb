/- The law WalFiles, walked. -/
import Derived.Test.YtnpgjlhnlakgpaaDoorWalTr
import Derived.Test.YtnpgjlhnlakgpaaDoorWalOn
import Derived.Test.YtnpgjlhnlakgpaaDoorG12
import Derived.Test.YtnpgjlhnlakgpaaDoorWalNr
import Derived.Test.YtnpgjlhnlakgpaaDoorWalOp
import Derived.Test.YtnpgjlhnlakgpaaDoorG13
import Derived.Test.YtnpgjlhnlakgpaaDoorG11
import Derived.BigQuiet
import Derived.Deep.CutBlock
namespace Go.Proofs.YtnpgjlhnlakgpaaDoor
open Go.RowKit Go.Maps

theorem LInv.lok {d : Dk} {l : Lg} {all : List (List UInt8)} {a : Nat} {init : List (List (List UInt8))} {lst : List (List UInt8)} {sb : Nat} (h : LInv d l all a init lst sb) (hs : l.seg ≤ 65536) : l.Ok := by
  have h1 := h.next
  have h2 := h.max
  have h3 := h.a1
  have h4 := h.safe1
  refine ⟨by rw [h.nums]; simp, fun n hn => ?_, by have := h.bytes; omega, ⟨by omega, by omega⟩, by omega, ⟨h.seg1, hs⟩⟩
  rw [h.nums] at hn
  have := CInv.opens.nums_bd init a n hn
  omega
/-- A log that stands lies here; no more than so many records, and steps. -/
def Standing (w : World) (B lb db m seg k : Nat) : Prop :=
  ∃ (d : Dk) (l : Lg) (all : List (List UInt8)) (a : Nat) (init : List (List (List UInt8))) (lst : List (List UInt8)) (sb g : Nat), LInv d l all a init lst sb ∧ LgW w B lb db m g l ∧ DAt w db m d ∧ l.seg = seg ∧ all.length ≤ k ∧ d.steps ≤ 100 * k + 10
theorem Standing.below {w w' : World} {B lb db m seg k : Nat} (h : Standing w B lb db m seg k) (hB : Below w.heap.size w w') : Standing w' B lb db m seg k := by
  obtain ⟨d, l, all, a, init, lst, sb, g, h1, h2, h3, h4⟩ := h
  exact ⟨d, l, all, a, init, lst, sb, g, h1, h2.below hB, DC.below h3 hB, h4⟩
theorem Standing.more {w : World} {B lb db m seg k : Nat} (h : Standing w B lb db m seg k) : Standing w B lb db m seg (k + 1) := by
  obtain ⟨d, l, all, a, init, lst, sb, g, h1, h2, h3, h4, h5, h6⟩ := h
  exact ⟨d, l, all, a, init, lst, sb, g, h1, h2, h3, h4, by omega, by omega⟩
/-- Add, Sync, Trim leave it standing. -/
theorem st_add {w : World} {B lb db m seg k : Nat} (h : Standing w B lb db m seg k) (hseg : seg ≤ 65536) (hk : k ≤ 1000) (r : ByteArray) (hr : r.size ≤ 1000) :
    Calls Tryd.prog 38 #[.pointer (some ⟨lb, 0, none⟩), .string r] w fun e w' => (∃ c : Int, e = .returned (.int .i64 c)) ∧ Standing w' B lb db m seg (k + 1) ∧ Below B w w' := by
  obtain ⟨d, l, all, a, init, lst, sb, g, h1, h2, h3, h4, h5, h6⟩ := h
  have hlen := h1.len
  have hb := h2.bel
  refine (add_gen h2 (h1.lok (by omega)) h3 h1.ok (by omega) (by have := h1.many; omega) r (by omega)).mono ?_
  rintro e w' ⟨rfl, g', q1, q2, q3, q4⟩
  obtain ⟨init', lst', sb', i1, i2, i3⟩ := h1.add r.data.toList (by have : r.data.toList.length = r.size := by simp
                                                                    omega) (by omega)
  refine ⟨⟨_, rfl⟩, ⟨_, _, _, a, init', lst', sb', g', i1, q1, q2, by rw [i2]; exact h4, ?_, ?_⟩, q3.belowN hb.2.2.2.2 hb.1 hb.2.1 hb.2.2.1 hb.2.2.2.1⟩
  · split
    · rw [List.length_append, List.length_singleton]; omega
    · omega
  · have := addW_st d l r.data.toList
    omega
theorem st_sync {w : World} {B lb db m seg k : Nat} (h : Standing w B lb db m seg k) (hseg : seg ≤ 65536) (hk : k ≤ 1000) :
    Calls Tryd.prog 39 #[.pointer (some ⟨lb, 0, none⟩)] w fun e w' => (∃ c : Int, e = .returned (.int .i64 c)) ∧ Standing w' B lb db m seg (k + 1) ∧ Below B w w' := by
  obtain ⟨d, l, all, a, init, lst, sb, g, h1, h2, h3, h4, h5, h6⟩ := h
  have hb := h2.bel
  have hst := syncW_st d l
  refine (sync_gen h2 (h1.lok (by omega)) h3 h1.ok (by omega)).mono ?_
  rintro e w' ⟨rfl, q1, q2, q3⟩
  have hB := q3.belowN hb.2.2.2.2 hb.1 hb.2.1 hb.2.2.1 hb.2.2.2.1
  rcases h1.sync with ⟨_, i2, i3, _⟩ | ⟨_, i2, i3⟩
  · rw [i2] at q1
    exact ⟨⟨_, rfl⟩, ⟨_, l, all, a, init, lst, sb, g, i3, q1, q2, h4, by omega, by omega⟩, hB⟩
  · exact ⟨⟨_, rfl⟩, ⟨_, _, all, a, init, lst, _, g, i3, q1, q2, by rw [(syncW_seg d l).1]; exact h4, by omega, by omega⟩, hB⟩
theorem st_trim {w : World} {B lb db m seg k : Nat} (h : Standing w B lb db m seg k) (hseg : seg ≤ 65536) (hk : k ≤ 1000) (n : Int) :
    Calls Tryd.prog 40 #[.pointer (some ⟨lb, 0, none⟩), .int .i64 n] w fun e w' => (∃ c : Int, e = .returned (.int .i64 c)) ∧ Standing w' B lb db m seg (k + 1) ∧ Below B w w' := by
  obtain ⟨d, l, all, a, init, lst, sb, g, h1, h2, h3, h4, h5, h6⟩ := h
  have hb := h2.bel
  have hm := h1.many
  have hst := trimN_st n l.nums d
  refine (trim_gen h2 (h1.lok (by omega)) h3 h1.ok (by omega) n).mono ?_
  rintro e w' ⟨rfl, q1, q2, q3⟩
  have hB := q3.belowN hb.2.2.2.2 hb.1 hb.2.1 hb.2.2.1 hb.2.2.2.1
  obtain ⟨a', init', i1, _⟩ := h1.trim n
  exact ⟨⟨_, rfl⟩, ⟨_, _, all, a', init', lst, sb, g, i1, q1, q2, h4, by omega, by show (trimN n d l.nums).2.1.steps ≤ _; omega⟩, hB⟩

set_option maxRecDepth 100000 in
set_option maxHeartbeats 16000000 in
theorem files_walk (seg : Int) (v : Value) (es : List WOp) (w : World) (hP : Pow w) (hv : OpW w v es) (hs0 : -9223372036854775808 ≤ seg) (hs1 : seg ≤ 9223372036854775807) :
    Calls Tryd.prog 11 #[.int .i64 seg, v] w fun e w' => e = .returned (.bool true) ∧ Below w.heap.size w w' := by
  have hV := hv
  obtain ⟨p, cap, rfl, hcap, _⟩ := hV
  by_cases hsg : ¬ (1 ≤ seg ∧ seg ≤ 65536)
  · generalize es.length = n at *
    clear hv hcap
    by_cases h1 : seg < 1
    · go_enter Tryd.func11, Tryd.ntmps11
      go_wp2_with (first
        | (go_at_call 26; refine (known_any _).mono ?_; rintro e w1 ⟨rfl, hk⟩; have HK := Lib.hid hk; clear hk)
        | fail)
      go_ret
      exact ⟨rfl, HK.out⟩
    · have h2 : 65536 < seg := by omega
      go_enter Tryd.func11, Tryd.ntmps11
      go_wp2_with (first
        | (go_at_call 26; refine (known_any _).mono ?_; rintro e w1 ⟨rfl, hk⟩; have HK := Lib.hid hk; clear hk)
        | fail)
      go_ret
      exact ⟨rfl, HK.out⟩
  replace hsg : 1 ≤ seg ∧ seg ≤ 65536 := by omega
  obtain ⟨sg, hsgn⟩ : ∃ sg : Nat, seg = (sg : Int) := ⟨seg.toNat, by omega⟩
  have hg1 : 1 ≤ sg := by omega
  have hg2 : sg ≤ 65536 := by omega
  subst hsgn
  have n1 : ¬ (sg : Int) < 1 := by omega
  have n2 : ¬ (65536 : Int) < (sg : Int) := by omega
  obtain ⟨r1, r2, r3, r4, r5, r6⟩ := LInv.start (room := 1048576) (seg := sg) (by decide) hg1
  obtain ⟨D1, hD1⟩ : ∃ D1, ((Dk.new 1048576).create (nameN 1)).2 = D1 := ⟨_, rfl⟩
  have HNW : Hid (∀ W, Calls Tryd.prog 35 #[.int .i64 1048576] W fun e w' => e = .returned (.tuple #[.pointer (some ⟨W.heap.size + 1, 0, none⟩), .int .i64 0]) ∧ DAt w' (W.heap.size + 1) W.heap.size (Dk.new 1048576) ∧ Below W.heap.size W w' ∧ W.heap.size + 1 < w'.heap.size) := fun W => new_ok 1048576 W (by decide)
  have HOP : Hid (∀ W db m, DAt W db m (Dk.new 1048576) → PowB w.heap.size W → w.heap.size ≤ db → w.heap.size ≤ m → w.heap.size ≤ W.heap.size → Calls Tryd.prog 36 #[.pointer (some ⟨db, 0, none⟩), .int .i64 (sg : Int)] W fun e w' => ∃ lb, e = .returned (.tuple #[.pointer (some ⟨lb, 0, none⟩), .int .i64 0]) ∧ Standing w' w.heap.size lb db m sg 0 ∧ Below w.heap.size W w') := fun W db m h hp h1 h2 h3 => by
    refine (open_fresh h (Dk.Ok.new (by decide)) (by decide) rfl rfl sg hg1 hg2 r1 hp ⟨h1, h2, h3⟩).mono ?_
    rintro e w' ⟨lb, g, rfl, q1, q2, q3, q4⟩
    exact ⟨lb, rfl, ⟨_, _, [], 1, [], [], 0, g, r2, q1, q2, rfl, by simp, by rw [r6]; omega⟩, Kp.belowN (Below.refl _ _) q4 h3 h1 h2⟩
  have HPW := Lib.hid (show PowB w.heap.size w from Lib.tabBelow_of_tabIs hP)
  have HV := Lib.hid hv
  have HCU : Hid (∀ W, OpW W (.slice p es.length cap) es → Calls Tryd.prog 37 #[.slice p es.length cap, .int .i64 80] W fun e w' => e = .returned (.slice p (min 80 es.length) cap) ∧ w' = W) := fun W h => by
    have h2 := cutw_any h 80 (by decide)
    exact h2
  have HT : Hid (∃ n, es.length = n) := ⟨_, rfl⟩
  obtain ⟨n, hn⟩ := HT.out
  rw [hn] at HV HCU hcap ⊢
  clear hv hD1 r1 r2 r3 r4 r5 r6 hP HT hsg
  go_enter Tryd.func11, Tryd.ntmps11
  go_upto_region 10 with (first
    | (go_at_call 35; refine (HNW.out _).mono ?_; rintro e w1 ⟨rfl, hd1, hb1, hz1⟩; have HD1 := Lib.hid hd1; have HB1 := Lib.hid hb1; clear hd1 hb1)
    | (go_at_call 26; refine (known_any _).mono ?_; rintro e w2 ⟨rfl, hk⟩; have HD2 : Hid (DAt w2 _ _ (Dk.new 1048576)) := DC.below HD1.out hk; have HB2 := Lib.hid (HB1.out.trans (hk.mono HB1.out.size)); clear hk)
    | (go_at_call 36; (with_reducible refine (HOP.out _ _ _ HD2.out (HPW.out.on HB2.out) (Nat.le_succ _) (Nat.le_refl _) HB2.out.size).mono ?_); rintro e w3 ⟨lb, rfl, hst, hb⟩; have HS3 := Lib.hid hst; have HB3 := Lib.hid (HB2.out.trans hb); have HV3 := Lib.hid (HV.out.below (HB2.out.trans hb)); clear hst hb)
    | (go_at_call 37; (with_reducible refine (HCU.out _ HV3.out).mono ?_); rintro e w9 ⟨rfl, hw9⟩; rw [hw9]; clear hw9)
    | fail)
  have HT3 := Lib.hid (HV.out.take 80)
  obtain ⟨k, hk⟩ : ∃ k, min 80 n = k := ⟨_, rfl⟩
  obtain ⟨fs, hfs⟩ : ∃ fs, es.take 80 = fs := ⟨_, rfl⟩
  have hkl : fs.length = k := by rw [← hfs, List.length_take, hn, hk]
  have hk80 : k ≤ 80 := by omega
  rw [hk, hfs] at HT3
  rw [hk]
  have HKL := Lib.hid hkl
  clear hk hfs hn HV HV3 HCU hkl
  go_loopw [53] (fun iv wr => ∃ i : Nat, i ≤ k ∧ iv = .int .i64 (i : Int) ∧ Standing wr w.heap.size lb (w.heap.size + 1) w.heap.size sg i ∧ Below w.heap.size w3 wr) (fun iv _ => k - (intOf iv).toNat)
  case atStart => exact ⟨0, Nat.zero_le _, rfl, HS3.out, Below.refl _ _⟩
  case round =>
    obtain ⟨i, hi, rfl, hS, hB⟩ := hrel
    have HS := Lib.hid hS
    have HB := Lib.hid hB
    clear hS hB
    by_cases hlt : i < k
    · obtain ⟨x, hx⟩ : ∃ x, fs[i]? = some x := ⟨fs[i]'(by rw [HKL.out]; exact hlt), List.getElem?_eq_getElem _⟩
      obtain ⟨g, o, rfl, q0, q1, q2, q3, q4, q5⟩ := HT3.out.get hx
      have hli : (i : Int) < (k : Int) := by omega
      have hl0 : (0 : Int) ≤ (i : Int) := by omega
      obtain ⟨kind, nn, nm, dt, kp, kn, kc, tp, tn, tc⟩ := x
      simp only at q0 q1 q2 q3 q4 q5
      have BW := HB3.out.trans HB.out
      have hg : g < w.heap.size := World.block_lt_of_cell? w _ q0
      have tr : ∀ (j : Nat) (u : Value), w.cell? ⟨g, j, none⟩ = some u → wr.cell? ⟨g, j, none⟩ = some u := fun j u h => (BW.cell (p := ⟨g, j, none⟩) hg).trans h
      replace q0 := tr _ _ q0
      replace q1 := tr _ _ q1
      replace q2 := tr _ _ q2
      replace q3 := tr _ _ q3
      replace q4 := tr _ _ q4
      replace q5 := tr _ _ q5
      have HBW := Lib.hid BW
      have hwz := BW.size
      clear hx tr BW
      by_cases hbig : 1000 < dt.size
      · have hbi : (1000 : Int) < (dt.size : Int) := by omega
        go_wp2_with fail
        go_roundw
        case rel => exact ⟨i + 1, by omega, by go_num, (HS.out.more).below ((Below.refl _ _).alloc (Nat.le_refl _) _), HB.out.alloc hwz _⟩
        case measure => simp [intOf]; omega
      · have hbi : ¬ (1000 : Int) < (dt.size : Int) := by omega
        have HSA := Lib.hid (fun W (h : Standing W w.heap.size lb (w.heap.size + 1) w.heap.size sg i) => st_add h hg2 (by omega) dt (by omega))
        have HSS := Lib.hid (fun W (h : Standing W w.heap.size lb (w.heap.size + 1) w.heap.size sg i) => st_sync h hg2 (by omega))
        have HST := Lib.hid (fun W (h : Standing W w.heap.size lb (w.heap.size + 1) w.heap.size sg i) => st_trim h hg2 (by omega) nn)
        go_upto_block 2 with fail
        have HS4 := Lib.hid (HS.out.below ((Below.refl _ _).alloc (Nat.le_refl _) (.cells #[.int .i64 kind, .int .i64 nn, .string nm, .string dt, .slice kp kn kc, .slice tp tn tc] 63)))
        have HB4 := Lib.hid (HB.out.alloc hwz (.cells #[.int .i64 kind, .int .i64 nn, .string nm, .string dt, .slice kp kn kc, .slice tp tn tc] 63))
        go_cut [] from 61 to 139 (fun wc => Standing wc w.heap.size lb (w.heap.size + 1) w.heap.size sg (i + 1) ∧ Below w.heap.size w3 wc)
        case first =>
          by_cases k1 : kind = 1
          · subst k1
            go_wp2_with (first
              | (go_at_call 38; (with_reducible refine (HSA.out _ HS4.out).mono ?_); rintro e w5 ⟨⟨c, rfl⟩, hs5, hb5⟩; have HS5 := Lib.hid hs5; have HB5 := Lib.hid (HB4.out.trans hb5); clear hs5 hb5)
              | fail)
            go_meet
            case rel => exact ⟨HS5.out, HB5.out⟩
          by_cases k2 : kind = 2
          · subst k2
            go_wp2_with (first
              | (go_at_call 39; (with_reducible refine (HSS.out _ HS4.out).mono ?_); rintro e w5 ⟨⟨c, rfl⟩, hs5, hb5⟩; have HS5 := Lib.hid hs5; have HB5 := Lib.hid (HB4.out.trans hb5); clear hs5 hb5)
              | fail)
            go_meet
            case rel => exact ⟨HS5.out, HB5.out⟩
          by_cases k3 : kind = 3
          · subst k3
            go_wp2_with (first
              | (go_at_call 40; (with_reducible refine (HST.out _ HS4.out).mono ?_); rintro e w5 ⟨⟨c, rfl⟩, hs5, hb5⟩; have HS5 := Lib.hid hs5; have HB5 := Lib.hid (HB4.out.trans hb5); clear hs5 hb5)
              | fail)
            go_meet
            case rel => exact ⟨HS5.out, HB5.out⟩
          have b1 : (kind == 1) = false := by simpa using k1
          have b2 : (kind == 2) = false := by simpa using k2
          have b3 : (kind == 3) = false := by simpa using k3
          go_wp2_with fail
          go_meet
          case rel => exact ⟨HS4.out.more, HB4.out⟩
        case rest =>
        obtain ⟨⟨d, l, all, a, init, lst, sb, g2, hI, hL, hD, hse, hal, hst⟩, hB5⟩ := hcut
        have HI := Lib.hid hI
        have HL := Lib.hid hL
        have HD := Lib.hid hD
        have HB5 := Lib.hid hB5
        have HSE := Lib.hid hse
        have HIA := Lib.hid (show all.length ≤ i + 1 ∧ d.steps ≤ 100 * (i + 1) + 10 from ⟨hal, hst⟩)
        have HFI := Lib.hid (first_any hL (hI.lok (by omega)))
        rw [hI.first] at HFI
        have HFL := Lib.hid (files_any hD hI.ok)
        obtain ⟨M, hM⟩ : ∃ M, d.L.length = M := ⟨_, rfl⟩
        have HMI : Hid (M = init.length + 1) := by show _ = _; rw [← hM]; exact hI.many.1
        have hM64 : M ≤ 64 := by have := hI.many.2.1; have := HMI.out; omega
        have HNX := Lib.hid (next_any hL)
        have HAB : Hid (1 ≤ a ∧ a + (init ++ [lst]).flatten.length = l.next ∧ l.next ≤ 999999999999) := ⟨hI.a1, hI.total, hI.max⟩
        clear hI hL hD hse hal hst hB5
        go_upto_region 22 with (first
          | (go_at_call 41; refine HFI.out.mono ?_; rintro e w9' ⟨rfl, hw9'⟩; rw [hw9']; clear hw9')
          | (go_at_call 42; refine HFL.out.mono ?_; rintro e w6 ⟨fv, rfl, hrow, hb6⟩; have HR6 := Lib.hid (FilesW.of_row hrow); obtain ⟨fp, fc, hfv⟩ := owns_sl2 hrow; rw [hM] at hfv; subst hfv; have HB6 := Lib.hid hb6; clear hrow hb6)
          | fail)
        have HL6 := Lib.hid (HL.out.below HB6.out)
        have HD6 : Hid (DAt w6 (w.heap.size + 1) w.heap.size d) := DC.below HD.out HB6.out
        have hz6 := HB6.out.size
        go_wp2_with fail
        go_loopw [11, 85] (fun av jv wx => ∃ j : Nat, j ≤ M ∧ jv = .int .i64 (j : Int) ∧ av = .int .i64 ((a + ((init ++ [lst]).take j).flatten.length : Nat) : Int) ∧ Below w6.heap.size w6 wx) (fun _ jv _ => M - (intOf jv).toNat)
        case atStart => exact ⟨0, Nat.zero_le _, rfl, by simp, Below.refl _ _⟩
        case round =>
          obtain ⟨j, hj, rfl, rfl, hbx⟩ := hrel
          have HBX := Lib.hid hbx
          clear hbx
          by_cases hjl : j < M
          · obtain ⟨q, hq⟩ : ∃ q, (init ++ [lst])[j]? = some q := ⟨(init ++ [lst])[j]'(by have := HMI.out; simp; omega), List.getElem?_eq_getElem _⟩
            obtain ⟨s, hf, hfull, hsm⟩ := HI.out.file j q hq
            obtain ⟨g6, hp6, hfc⟩ : ∃ g6, fp = some ⟨g6, 0, none⟩ ∧ ∀ i f, d.L[i]? = some f → w6.cell? ⟨g6, i * 3, none⟩ = some (.string f.name) ∧ w6.cell? ⟨g6, i * 3 + 1, none⟩ = some (.string f.bytes) ∧ w6.cell? ⟨g6, i * 3 + 2, none⟩ = some (.int .i64 (f.safe : Int)) := by
              obtain ⟨p', c', hv', h'⟩ := HR6.out
              cases hv'
              rcases h' with h' | ⟨g6, hp, hc⟩
              · rw [h'] at hf; simp at hf
              · exact ⟨g6, hp, hc⟩
            subst hp6
            obtain ⟨c0, c1, c2⟩ := hfc j _ hf
            simp only at c0 c1 c2
            have hg6 : g6 < w6.heap.size := World.block_lt_of_cell? w6 _ c0
            replace c0 := (HBX.out.cell (p := ⟨g6, j * 3, none⟩) hg6).trans c0
            replace c1 := (HBX.out.cell (p := ⟨g6, j * 3 + 1, none⟩) hg6).trans c1
            replace c2 := (HBX.out.cell (p := ⟨g6, j * 3 + 2, none⟩) hg6).trans c2
            have hji : (j : Int) < (M : Int) := by omega
            have hj0 : (0 : Int) ≤ (j : Int) := by omega
            obtain ⟨A, hA⟩ : ∃ A, a + ((init ++ [lst]).take j).flatten.length = A := ⟨_, rfl⟩
            have hA1 : a + ((init ++ [lst]).take (j + 1)).flatten.length = A + q.length := by
              rw [List.take_add_one, hq, List.flatten_append, List.length_append, ← Nat.add_assoc, hA]; simp
            have hAle : A + q.length ≤ 999999999999 := by
              have h1 := HAB.out
              have h2 : ((init ++ [lst]).take (j + 1)).flatten.length ≤ (init ++ [lst]).flatten.length := by
                conv => rhs; rw [← List.take_append_drop (j + 1) (init ++ [lst]), List.flatten_append, List.length_append]
                omega
              omega
            have HA1 := Lib.hid hA1
            rw [hA] at c0 ⊢
            obtain ⟨Bt, hBt⟩ : ∃ Bt, bs (framesN q) = Bt := ⟨_, rfl⟩
            have hBz : Bt.size = (framesN q).length := by rw [← hBt, bs_size]
            have hBs : Bt.size ≤ 4194304 := by
              have h1 := mem_used (List.mem_of_getElem? hf)
              have h2 := HI.out.ok.used
              have h3 := HI.out.ok.room
              simp only [hBt] at h1
              omega
            have HSC : Hid (∀ W, Calls Tryd.prog 29 #[.string Bt] W fun e w' => ∃ v, e = .returned (.tuple #[v, .int .i64 (Bt.size : Int)]) ∧ SL W w' v q) := fun W => by
              have h := scan_any Bt W (by omega)
              have e : scanF Bt.data.toList = (q, Bt.size) := by
                rw [← hBt, bs_data', hBt, hBz]
                have := scan_frames q [] hsm
                rw [List.append_nil, scan_nil] at this
                simpa using this
              rw [e] at h
              exact h
            have HNMC := Lib.hid (fun W => rname_any A (by omega) W)
            obtain ⟨NM, hNM⟩ : ∃ NM, nameN A = NM := ⟨_, rfl⟩
            rw [hNM] at c0 HNMC
            rw [hBt] at c1
            obtain ⟨ql, hql⟩ : ∃ ql, q.length = ql := ⟨_, rfl⟩
            rw [hql] at hAle HA1
            have hww : IntKind.i64.wrap ((A : Int) + (ql : Int)) = ((A + ql : Nat) : Int) := by rw [IntKind.wrap_i64]; omega
            rw [← hBz] at hfull
            clear hf hfc hsm hA hA1 hBt hBz hNM
            go_upto_region 26 with (first
              | (go_at_call 29; refine (HSC.out _).mono ?_; rintro e w7 ⟨v7, rfl, hk⟩; have HK7 := Lib.hid hk; obtain ⟨p7, c7, hv7⟩ := owns_sl2 hk.o; rw [hql] at hv7; subst hv7; clear hk)
              | fail)
            have hz8 : wr.heap.size < w7.heap.size := by have := HK7.out.B.size; simp at this; omega
            have bx := fun (o : Nat) => HK7.out.B.cell (p := ⟨wr.heap.size, o, none⟩) (by simp)
            have hgn := GW.ne (Inv := fun W => Below w7.heap.size w7 W) (Below.refl _ w7)
            have b0 : ∀ u : GW (fun W => Below w7.heap.size w7 W), u.w.cell? ⟨wr.heap.size, 0, none⟩ = some (.string NM) := fun u => (u.h.cell (p := ⟨wr.heap.size, 0, none⟩) hz8).trans ((bx 0).trans (World.cell?_alloc_new ..))
            have b1 : ∀ u : GW (fun W => Below w7.heap.size w7 W), u.w.cell? ⟨wr.heap.size, 1, none⟩ = some (.string Bt) := fun u => (u.h.cell (p := ⟨wr.heap.size, 1, none⟩) hz8).trans ((bx 1).trans (World.cell?_alloc_new ..))
            have b2 : ∀ u : GW (fun W => Below w7.heap.size w7 W), u.w.cell? ⟨wr.heap.size, 2, none⟩ = some (.int .i64 (s : Int)) := fun u => (u.h.cell (p := ⟨wr.heap.size, 2, none⟩) hz8).trans ((bx 2).trans (World.cell?_alloc_new ..))
            have HNMU : Hid (∀ u : GW (fun W => Below w7.heap.size w7 W), Calls Tryd.prog 43 #[.int .i64 (A : Int)] u.w fun e w' => e = .returned (.string NM) ∧ Below u.w.heap.size u.w w') := fun u => HNMC.out u.w
            have HBA := Lib.hid ((HBX.out.alloc HBX.out.size (.cells #[.string NM, .string Bt, .int .i64 (s : Int)] 71)).trans (HK7.out.B.mono (by have := HBX.out.size; simp; omega)))
            have q1 : IntKind.i64.wrap ((M : Int) - 1) = (M : Int) - 1 := by rw [IntKind.wrap_i64]; omega
            have HSG2 := HSE.out
            clear bx HK7 c0 c1 c2 hq
            by_cases hin : j < init.length
            · obtain ⟨hs1, hs2⟩ := hfull hin
              subst hs1
              have q2 : decide ((j : Int) < (M : Int) - 1) = true := by have := HMI.out; simp; omega
              have q3 : decide ((Bt.size : Int) < (sg : Int)) = false := by simp; omega
              refine wp_region_grow (fun W => Below w7.heap.size w7 W) (by kernel_rfl) (by kernel_rfl) (Below.refl _ _).drew ?_
              repeat (go_big_quiet_step ((go_at_call 43; refine (HNMU.out _).mono ?_; rintro e w1 ⟨rfl, hb⟩; exact ⟨rfl, below_next _ hb⟩)))
              refine wpQuiet_nil ?_
              intro w8 hw'
              obtain ⟨⟨wx8, h8⟩, hw''⟩ := hw'
              subst hw''
              have HB8 := Lib.hid (HBA.out.trans (h8.mono HBA.out.size))
              clear hgn b0 b1 b2 HNMU q1
              go_wp2_with fail
              go_roundw
              case rel => exact ⟨j + 1, by omega, by go_num, by rw [HA1.out]; simp, HB8.out⟩
              case measure => simp [intOf]; omega
            · have q2 : decide ((j : Int) < (M : Int) - 1) = false := by have := HMI.out; simp; omega
              clear hfull
              refine wp_region_grow (fun W => Below w7.heap.size w7 W) (by kernel_rfl) (by kernel_rfl) (Below.refl _ _).drew ?_
              repeat (go_big_quiet_step ((go_at_call 43; refine (HNMU.out _).mono ?_; rintro e w1 ⟨rfl, hb⟩; exact ⟨rfl, below_next _ hb⟩)))
              refine wpQuiet_nil ?_
              intro w8 hw'
              obtain ⟨⟨wx8, h8⟩, hw''⟩ := hw'
              subst hw''
              have HB8 := Lib.hid (HBA.out.trans (h8.mono HBA.out.size))
              clear hgn b0 b1 b2 HNMU q1
              go_wp2_with fail
              go_roundw
              case rel => exact ⟨j + 1, by omega, by go_num, by rw [HA1.out]; simp, HB8.out⟩
              case measure => simp [intOf]; omega
          · have hjM : j = M := by omega
            have hji : ¬ (j : Int) < (M : Int) := by omega
            have hAl : a + ((init ++ [lst]).take j).flatten.length = l.next := by
              rw [List.take_of_length_le (by have := HMI.out; simp; omega)]
              exact HAB.out.2.1
            rw [hAl]
            have HSR := Lib.hid (show Standing wr w.heap.size lb (w.heap.size + 1) w.heap.size sg (i + 1) from ⟨d, l, all, a, init, lst, sb, g2, HI.out, HL6.out.below HBX.out, DC.below HD6.out HBX.out, HSE.out, HIA.out.1, HIA.out.2⟩)
            have HNXR := Lib.hid (next_any (HL6.out.below HBX.out))
            have HBR := Lib.hid ((HB5.out.trans (HB6.out.mono (by have := HB5.out.size; have := HB3.out.size; omega))).trans (HBX.out.mono (by have := HB5.out.size; have := HB3.out.size; omega)))
            clear hAl
            go_wp2_with (first
              | (go_at_call 44; refine HNXR.out.mono ?_; rintro e w9' ⟨rfl, hw9'⟩; rw [hw9']; clear hw9')
              | fail)
            go_roundw
            case rel => exact ⟨i + 1, by omega, by go_num, HSR.out, HBR.out⟩
            case measure => simp [intOf]; omega
    · obtain rfl : i = k := by omega
      go_wp2_with fail
      go_ret
      exact ⟨rfl, HB3.out.trans HB.out⟩
end Go.Proofs.YtnpgjlhnlakgpaaDoor

/- The crashes that WalKeeps is given: where they lie. The law WalKeeps, walked. -/
import Derived.Test.YtnpgjlhnlakgpaaDoorWalKe
import Derived.Test.YtnpgjlhnlakgpaaDoorWalOp
import Derived.Test.YtnpgjlhnlakgpaaDoorG11
import Derived.Deep.CutBlock
namespace Go.Proofs.YtnpgjlhnlakgpaaDoor
open Go.RowKit Go.Maps

structure WFall where
  st : Int
  kp : Option Addr
  kn : Nat
  kc : Nat
  tp : Option Addr
  tn : Nat
  tc : Nat
  ap : Option Addr
  an : Nat
  ac : Nat
  sp : Option Addr
  sn : Nat
  sc : Nat
  keep : List Int
  turn : List Int
  ag : List Int
  es : List WOp
def WFall.cells (x : WFall) : List Value := [.int .i64 x.st, .slice x.kp x.kn x.kc, .slice x.tp x.tn x.tc, .slice x.ap x.an x.ac, .slice x.sp x.sn x.sc]
structure WFall.Good (x : WFall) (w : World) : Prop where
  st : x.st ≤ 9223372036854775807
  k : ∀ b m, w.heap.size ≤ b → w.heap.size ≤ m → IntsAt b m w (.slice x.kp x.kn x.kc) x.keep
  t : ∀ b m, w.heap.size ≤ b → w.heap.size ≤ m → IntsAt b m w (.slice x.tp x.tn x.tc) x.turn
  a : ∀ b m, w.heap.size ≤ b → w.heap.size ≤ m → IntsAt b m w (.slice x.ap x.an x.ac) x.ag
  kb : ∀ y ∈ x.keep, y ≤ 9223372036854775807
  tb : ∀ y ∈ x.turn, y ≤ 9223372036854775807
  ab : ∀ y ∈ x.ag, y ≤ 9223372036854775807
  s : OpW w (.slice x.sp x.sn x.sc) x.es
def FallW (w : World) (v : Value) (fs : List WFall) : Prop :=
  ∃ p cap, v = .slice p fs.length cap ∧ (∀ x ∈ fs, x.Good w) ∧ (fs = [] ∨ ∃ g off, p = some ⟨g, off, none⟩ ∧ ∀ (i : Nat) (x : WFall), fs[i]? = some x → ∀ (j : Nat) (u : Value), x.cells[j]? = some u → w.cell? ⟨g, off + i * 5 + j, none⟩ = some u)
theorem KeX.cell {w : World} {lb db m g xb : Nat} {v : Value} {cs : Array Value} {T : TypeId} {mk : Nat × Nat} (h : KeX w lb db m g xb v (.cells cs T mk)) (j : Nat) : w.cell? ⟨xb, j, none⟩ = cs[j]? := by
  simp [World.cell?, h.h]
theorem KeX.new {w : World} {B lb db m sg k a g : Nat} {l : Lg} {all : List (List UInt8)} {v : Value} (h : KeL w B lb db m sg k l all a g) (hr : KeR w B lb db m g v all) (o : Obj) : KeX (w.alloc o) lb db m g w.heap.size v o := by
  obtain ⟨d, init, lst, sb, h1, h2, h3, h4⟩ := h
  have q1 := h2.lt
  have q2 := DC.lt h3
  have q3 := DC.ltm h3
  exact ⟨heap_alloc_new w o, ⟨by omega, by omega, by omega, by omega⟩, fun e => by have := (hr.row.lt _ e).2; omega⟩
/-- A record is put behind the law's own ones. -/
theorem ke_append {w5 w6 : World} {B lb db m sg k a g : Nat} {l : Lg} {all all' : List (List UInt8)} {v v' : Value} {o : Obj}
    (hL : KeL w5 B lb db m sg k l all' a g) (hr : KeR w5 B lb db m g v all) (hown : w6.ownsRow B 9 1 v' all'.length (recVals all')) (hgr : (w5.alloc o).grownBy w6 v.ownBlock) (hat : v'.ownBlock = v.ownBlock ∨ v'.ownBlock = some (w5.alloc o).heap.size) :
    KeL w6 B lb db m sg k l all' a g ∧ KeR w6 B lb db m g v' all' ∧ (∀ xb ob, KeX w5 lb db m g xb v ob → KeX w6 lb db m g xb v' ob) ∧ Below B w5 w6 := by
  obtain ⟨d, init, lst, sb, h1, h2, h3, h4⟩ := hL
  have hz : (w5.alloc o).heap.size = w5.heap.size + 1 := by simp
  have hgl := h2.lt
  have hd1 := DC.lt h3
  have hd2 := DC.ltm h3
  have hb := h2.bel
  have hL1 := h2.below ((Below.refl _ _).alloc (Nat.le_refl _) o)
  have hD1 : DAt (w5.alloc o) db m d := DC.alloc h3 o
  have hk : ∃ j, B ≤ j ∧ j ≠ g ∧ j ≠ lb ∧ j ≠ db ∧ j ≠ m ∧ (∀ xb ob, KeX w5 lb db m g xb v ob → j ≠ xb) ∧ Kp j j (w5.alloc o) w6 := by
    cases hv : v.ownBlock with
    | none => exact ⟨w5.heap.size + 1, by omega, by omega, by omega, by omega, by omega, fun xb ob hx => by have := (Array.getElem?_eq_some_iff.1 hx.h).1; omega, ⟨hgr.os, hgr.tape, hgr.output, hgr.size, fun k hk _ _ => hgr.block k hk (by rw [hv]; simp)⟩⟩
    | some j => exact ⟨j, (hr.row.lt j hv).1, fun e => hr.n3 (by rw [hv, e]), fun e => hr.n0 (by rw [hv, e]), fun e => hr.n1 (by rw [hv, e]), fun e => hr.n2 (by rw [hv, e]), fun xb ob hx e => hx.nv (by rw [hv, e]), ⟨hgr.os, hgr.tape, hgr.output, hgr.size, fun k hk h1 _ => hgr.block k hk (by rw [hv]; exact fun e => h1 (Option.some.inj e))⟩⟩
  obtain ⟨j, j1, j2, j3, j4, j5, j6, j7⟩ := hk
  have hn : ∀ y, y < w5.heap.size → v.ownBlock ≠ some y → v'.ownBlock ≠ some y := fun y hy h => by
    rcases hat with q | q
    · rw [q]; exact h
    · rw [q, hz]; intro e; have := Option.some.inj e; omega
  refine ⟨⟨d, init, lst, sb, h1, hL1.other j7 (fun e => j3 e.symm) (fun e => j2 e.symm) j1, DC.kept hD1 j7 (fun e => j4 e.symm) (fun e => j4 e.symm) (fun e => j5 e.symm) (fun e => j5 e.symm), h4⟩, ⟨hown, hn _ hgl.1 hr.n0, hn _ hd1 hr.n1, hn _ hd2 hr.n2, hn _ hgl.2 hr.n3⟩, fun xb ob hx => ?_, ((Below.refl B w5).alloc (by omega) o).trans (Kp.belowN (Below.refl _ _) j7 (by omega) (by omega) (by omega))⟩
  have hxl := (Array.getElem?_eq_some_iff.1 hx.h).1
  refine ⟨?_, hx.ne, hn _ hxl hx.nv⟩
  rw [j7.block xb (by omega) (fun e => j6 xb ob hx e.symm) (fun e => j6 xb ob hx e.symm), ← hx.h]
  exact ((Below.refl w5.heap.size w5).alloc (Nat.le_refl _) o).block xb hxl
theorem row_dropC {w : World} {B : Nat} {p : Option Addr} {n cap : Nat} {L : List (List UInt8)} (h : w.ownsRow B 9 1 (.slice p n cap) L.length (recVals L)) (k : Nat) (hk : k ≤ L.length) :
    (p = none ∧ L = [] ∧ n = 0 ∧ cap = 0) ∨ ∃ g, p = some ⟨g, 0, none⟩ ∧ n = L.length ∧ n ≤ cap ∧ TxtC w (.slice (if cap = k then some ⟨g, 0, none⟩ else some ⟨g, k, none⟩) (n - k) (cap - k)) (L.drop k) := by
  rcases row_drop h k hk with h1 | ⟨g, h1, h2, h3, h4⟩
  · exact .inl h1
  · refine .inr ⟨g, h1, h2, h3, ?_⟩
    obtain ⟨p', c', hv, hc⟩ := h4
    injection hv with e1 e2 e3
    exact ⟨_, _, by rw [← e2], by rw [List.length_drop]; omega, by rw [e1]; exact hc⟩
theorem begB_take (all : List (List UInt8)) (J k : Nat) (hJ : J ≤ all.length) : begB ((all.take J).drop k) (all.drop k) = true := by
  unfold begB
  have h1 : ((all.take J).drop k).length = J - k := by rw [List.length_drop, List.length_take]; omega
  rw [h1, Bool.and_eq_true, decide_eq_true_eq, decide_eq_true_eq]
  exact ⟨by rw [List.length_drop]; omega, List.drop_take⟩
end Go.Proofs.YtnpgjlhnlakgpaaDoor
namespace Go.Proofs.YtnpgjlhnlakgpaaDoor
open Go.RowKit Go.Maps

set_option maxRecDepth 100000 in
set_option maxHeartbeats 32000000 in
theorem keeps_walk (seg : Int) (v : Value) (fs : List WFall) (w : World) (hP : Pow w) (hv : FallW w v fs) (hs0 : -9223372036854775808 ≤ seg) (hs1 : seg ≤ 9223372036854775807) :
    Calls Tryd.prog 13 #[.int .i64 seg, v] w fun e w' => e = .returned (.bool true) ∧ Below w.heap.size w w' := by
  obtain ⟨p, cap, rfl, hgood, hc⟩ := hv
  obtain ⟨i0, ii0, iz0, iz1, iz2⟩ := info_parts strcell
  by_cases hsg : ¬ (1 ≤ seg ∧ seg ≤ 65536)
  · generalize fs.length = n at *
    clear hc hgood
    by_cases h1 : seg < 1
    · go_enter Tryd.func13, Tryd.ntmps13
      go_wp2_with (first
        | (go_at_call 26; refine (known_any _).mono ?_; rintro e w1 ⟨rfl, hk⟩; have HK := Lib.hid hk; clear hk)
        | fail)
      go_ret
      exact ⟨rfl, HK.out⟩
    · have h2 : 65536 < seg := by omega
      go_enter Tryd.func13, Tryd.ntmps13
      go_wp2_with (first
        | (go_at_call 26; refine (known_any _).mono ?_; rintro e w1 ⟨rfl, hk⟩; have HK := Lib.hid hk; clear hk)
        | fail)
      go_ret
      exact ⟨rfl, HK.out⟩
  replace hsg : 1 ≤ seg ∧ seg ≤ 65536 := by omega
  obtain ⟨sg, hsgn⟩ : ∃ sg : Nat, seg = (sg : Int) := ⟨seg.toNat, by omega⟩
  have hg1 : 1 ≤ sg := by omega
  have hg2 : sg ≤ 65536 := by omega
  subst hsgn
  have n1 : ¬ (sg : Int) < 1 := by omega
  have n2 : ¬ (65536 : Int) < (sg : Int) := by omega
  obtain ⟨r1, r2, r3, r4, r5, r6⟩ := LInv.start (room := 1048576) (seg := sg) (by decide) hg1
  have HNW : Hid (∀ W, Calls Tryd.prog 35 #[.int .i64 1048576] W fun e w' => e = .returned (.tuple #[.pointer (some ⟨W.heap.size + 1, 0, none⟩), .int .i64 0]) ∧ DAt w' (W.heap.size + 1) W.heap.size (Dk.new 1048576) ∧ Below W.heap.size W w' ∧ W.heap.size + 1 < w'.heap.size) := fun W => new_ok 1048576 W (by decide)
  have HOP : Hid (∀ W db m, DAt W db m (Dk.new 1048576) → PowB w.heap.size W → w.heap.size ≤ db → w.heap.size ≤ m → w.heap.size ≤ W.heap.size → Calls Tryd.prog 36 #[.pointer (some ⟨db, 0, none⟩), .int .i64 (sg : Int)] W fun e w' => ∃ lb g l, e = .returned (.tuple #[.pointer (some ⟨lb, 0, none⟩), .int .i64 0]) ∧ KeL w' w.heap.size lb db m sg 0 l [] 1 g ∧ Below w.heap.size W w') := fun W db m h hp h1 h2 h3 => by
    refine (open_fresh h (Dk.Ok.new (by decide)) (by decide) rfl rfl sg hg1 hg2 r1 hp ⟨h1, h2, h3⟩).mono ?_
    rintro e w' ⟨lb, g, rfl, q1, q2, q3, q4⟩
    exact ⟨lb, g, _, rfl, ⟨_, [], [], 0, r2, q1, q2, rfl, by simp, by rw [r6]; omega⟩, Kp.belowN (Below.refl _ _) q4 h3 h1 h2⟩
  have HPW := Lib.hid (show PowB w.heap.size w from Lib.tabBelow_of_tabIs hP)
  obtain ⟨n, hn⟩ : ∃ n, fs.length = n := ⟨_, rfl⟩
  rw [hn]
  have HC := Lib.hid hc
  have HG := Lib.hid hgood
  have HN := Lib.hid hn
  clear r1 r2 r3 r4 r5 r6 hP hsg hc hn hgood
  go_enter Tryd.func13, Tryd.ntmps13
  go_wp2_with (first
    | (go_at_call 35; refine (HNW.out _).mono ?_; rintro e w1 ⟨rfl, hd1, hb1, hz1⟩; have HD1 := Lib.hid hd1; have HB1 := Lib.hid hb1; clear hd1 hb1)
    | (go_at_call 26; refine (known_any _).mono ?_; rintro e w2 ⟨rfl, hk⟩; have HD2 : Hid (DAt w2 _ _ (Dk.new 1048576)) := DC.below HD1.out hk; have HB2 := Lib.hid (HB1.out.trans (hk.mono HB1.out.size)); clear hk)
    | (go_at_call 36; (with_reducible refine (HOP.out _ _ _ HD2.out (HPW.out.on HB2.out) (Nat.le_succ _) (Nat.le_refl _) HB2.out.size).mono ?_); rintro e w3 ⟨lb0, g0, l0, rfl, hst, hb⟩; have HS3 := Lib.hid hst; have HB3 := Lib.hid (HB2.out.trans hb); clear hst hb)
    | fail)
  go_loopw [7, 9, 53] (fun lv va iv wr => ∃ (i lb g a : Nat) (l : Lg) (all : List (List UInt8)), i ≤ n ∧ i ≤ 6 ∧ lv = .pointer (some ⟨lb, 0, none⟩) ∧ iv = .int .i64 (i : Int) ∧ KeL wr w.heap.size lb (w.heap.size + 1) w.heap.size sg (50 * i) l all a g ∧ KeR wr w.heap.size lb (w.heap.size + 1) w.heap.size g va all ∧ Below w.heap.size w wr) (fun _ _ iv _ => n - (intOf iv).toNat)
  case atStart => exact ⟨0, lb0, g0, 1, l0, [], Nat.zero_le _, Nat.zero_le _, rfl, rfl, HS3.out, ⟨World.ownsRow_nil _ _ _ _, by simp [Value.ownBlock], by simp [Value.ownBlock], by simp [Value.ownBlock], by simp [Value.ownBlock]⟩, HB3.out⟩
  case round =>
    obtain ⟨i, lb, g, a, l, all, hin, hi6, rfl, rfl, hL, hR, hB⟩ := hrel
    have HL := Lib.hid hL
    have HR := Lib.hid hR
    have HB := Lib.hid hB
    obtain ⟨ap, ac, hva⟩ := owns_sl2 hR.row
    subst hva
    have hwz := hB.size
    clear hL hR hB
    by_cases hlt : i < n
    · obtain ⟨x, hx⟩ : ∃ x, fs[i]? = some x := ⟨fs[i]'(by rw [HN.out]; exact hlt), List.getElem?_eq_getElem _⟩
      have HX := Lib.hid (HG.out x (List.mem_of_getElem? hx))
      obtain ⟨gf, o, rfl, hcc⟩ := HC.out.resolve_left (fun e => by rw [e] at hx; simp at hx)
      have hcx := hcc i x hx
      obtain ⟨st, kp, kn, kc, tp, tn, tc, gp, gn, gc, sp, sn, sc, keep, turn, ag, es⟩ := x
      have q0 : w.cell? ⟨gf, o + i * 5, none⟩ = some (.int .i64 st) := hcx 0 _ rfl
      have q1 : w.cell? ⟨gf, o + i * 5 + 1, none⟩ = some (.slice kp kn kc) := hcx 1 _ rfl
      have q2 : w.cell? ⟨gf, o + i * 5 + 2, none⟩ = some (.slice tp tn tc) := hcx 2 _ rfl
      have q3 : w.cell? ⟨gf, o + i * 5 + 3, none⟩ = some (.slice gp gn gc) := hcx 3 _ rfl
      have q4 : w.cell? ⟨gf, o + i * 5 + 4, none⟩ = some (.slice sp sn sc) := hcx 4 _ rfl
      have hg : gf < w.heap.size := World.block_lt_of_cell? w _ q0
      have tr : ∀ (j : Nat) (u : Value), w.cell? ⟨gf, j, none⟩ = some u → wr.cell? ⟨gf, j, none⟩ = some u := fun j u h => (HB.out.cell (p := ⟨gf, j, none⟩) hg).trans h
      replace q0 := tr _ _ q0
      replace q1 := tr _ _ q1
      replace q2 := tr _ _ q2
      replace q3 := tr _ _ q3
      replace q4 := tr _ _ q4
      have hli : (i : Int) < (n : Int) := by omega
      have hl0 : (0 : Int) ≤ (i : Int) := by omega
      clear hx hcc hcx tr
      by_cases h6 : 6 ≤ i
      · have h6i : (6 : Int) ≤ (i : Int) := by omega
        go_wp2_with fail
        go_ret
        exact ⟨rfl, HB.out.alloc hwz _⟩
      · have h6i : ¬ (6 : Int) ≤ (i : Int) := by omega
        go_upto_region 14 with fail
        have HX0 := Lib.hid (KeX.new HL.out HR.out (.cells #[.int .i64 st, .slice kp kn kc, .slice tp tn tc, .slice gp gn gc, .slice sp sn sc] 79))
        have HAL := Lib.hid ((Below.refl wr.heap.size wr).alloc (Nat.le_refl _) (.cells #[.int .i64 st, .slice kp kn kc, .slice tp tn tc, .slice gp gn gc, .slice sp sn sc] 79))
        have HL0 := Lib.hid (HL.out.below HAL.out)
        have HR0 := Lib.hid (HR.out.below HAL.out)
        have HB0 := Lib.hid (HB.out.trans (HAL.out.mono hwz))
        obtain ⟨xb, hxb⟩ : ∃ xb, wr.heap.size = xb := ⟨_, rfl⟩
        rw [hxb] at HX0 ⊢
        have hwx : w.heap.size ≤ xb := by omega
        clear hxb HAL
        generalize wr.alloc (.cells #[.int .i64 st, .slice kp kn kc, .slice tp tn tc, .slice gp gn gc, .slice sp sn sc] 79) = W0 at *
        have x0 : W0.cell? ⟨xb, 0, none⟩ = some (.int .i64 st) := HX0.out.cell 0
        have HAR := Lib.hid (ke_arm HL0.out HR0.out st (by have := HX.out.st; simp only at this; omega))
        have hsn : es.length = sn := by obtain ⟨p', c', hv, _⟩ := HX.out.s; injection hv with _ e _; exact e.symm
        have HCU : Hid (∀ W, Below w.heap.size w W → Calls Tryd.prog 37 #[.slice sp sn sc, .int .i64 40] W fun e w' => e = .returned (.slice sp (min 40 sn) sc) ∧ w' = W) := fun W h => by
          have h2 := cutw_any (HX.out.s.below h) 40 (by decide)
          exact h2
        have HT3 := Lib.hid (HX.out.s.take 40)
        obtain ⟨kk, hk⟩ : ∃ kk, min 40 sn = kk := ⟨_, rfl⟩
        obtain ⟨ws, hws⟩ : ∃ ws, es.take 40 = ws := ⟨_, rfl⟩
        have hkl : ws.length = kk := by rw [← hws, List.length_take, hsn, hk]
        have hk40 : kk ≤ 40 := by omega
        simp only at HT3
        rw [hk] at HT3 HCU
        rw [hws] at HT3
        have HKL := Lib.hid hkl
        clear hk hws hsn hkl q0 q1 q2 q3 q4
        go_upto_region 15 with (first
          | (go_at_call 46; refine HAR.out.mono ?_; rintro e w4 ⟨rfl, p1, p2, p3, p4⟩; have HL4 := Lib.hid p1; have HR4 := Lib.hid p2; have HX4 := Lib.hid (p3 _ _ HX0.out); have HB4 := Lib.hid (HB0.out.trans p4); clear p1 p2 p3 p4)
          | fail)
        have x3 : w4.cell? ⟨xb, 4, none⟩ = some (.slice sp sn sc) := HX4.out.cell 4
        clear x0 HX0 HL0 HR0 HB0 HAR
        go_wp2_with (first
          | (go_at_call 37; refine (HCU.out _ HB4.out).mono ?_; rintro e w9 ⟨rfl, hw9⟩; rw [hw9]; clear hw9)
          | fail)
        obtain ⟨OB, hOB⟩ : ∃ OB : Obj, (.cells #[.int .i64 st, .slice kp kn kc, .slice tp tn tc, .slice gp gn gc, .slice sp sn sc] 79) = OB := ⟨_, rfl⟩
        rw [hOB] at HX4
        have HOB := Lib.hid hOB
        clear hOB
        go_loopw [9, 68] (fun vb jv w5 => ∃ (j g a : Nat) (l : Lg) (all : List (List UInt8)), j ≤ kk ∧ jv = .int .i64 (j : Int) ∧ KeL w5 w.heap.size lb (w.heap.size + 1) w.heap.size sg (50 * i + j) l all a g ∧ KeR w5 w.heap.size lb (w.heap.size + 1) w.heap.size g vb all ∧ KeX w5 lb (w.heap.size + 1) w.heap.size g xb vb OB ∧ Below w.heap.size w w5) (fun _ jv _ => kk - (intOf jv).toNat)
        case atStart => exact ⟨0, g, a, l, all, Nat.zero_le _, rfl, HL4.out, HR4.out, HX4.out, HB4.out⟩
        case round =>
          clear HL4 HR4 HX4 HB4 x3 HL HR HB
          obtain ⟨j, g, a, l, all, hj, rfl, hL, hR, hXX, hB⟩ := hrel
          have HL := Lib.hid hL
          have HR := Lib.hid hR
          have HXX := Lib.hid hXX
          have HB := Lib.hid hB
          obtain ⟨ap, ac, hva⟩ := owns_sl2 hR.row
          subst hva
          have hwz5 := hB.size
          obtain ⟨ln, hln⟩ : ∃ ln, all.length = ln := ⟨_, rfl⟩
          have HLN := Lib.hid hln
          rw [hln] at HR HXX ⊢
          have hlnk : ln ≤ 1000 := by have := (ke_told hL).2.2.2; omega
          clear hL hR hXX hB hln
          by_cases hjk : j < kk
          · obtain ⟨y, hy⟩ : ∃ y, ws[j]? = some y := ⟨ws[j]'(by rw [HKL.out]; exact hjk), List.getElem?_eq_getElem _⟩
            obtain ⟨gw, ow, rfl, q0, q1, q2, q3, q4, q5⟩ := HT3.out.get hy
            have hji : (j : Int) < (kk : Int) := by omega
            have hj0 : (0 : Int) ≤ (j : Int) := by omega
            obtain ⟨kind, nn, nm, dt, k1p, k1n, k1c, t1p, t1n, t1c⟩ := y
            simp only at q0 q1 q2 q3 q4 q5
            have hgw : gw < w.heap.size := World.block_lt_of_cell? w _ q0
            have tr : ∀ (j : Nat) (u : Value), w.cell? ⟨gw, j, none⟩ = some u → wr.cell? ⟨gw, j, none⟩ = some u := fun j u h => (HB.out.cell (p := ⟨gw, j, none⟩) hgw).trans h
            replace q0 := tr _ _ q0
            replace q1 := tr _ _ q1
            replace q2 := tr _ _ q2
            replace q3 := tr _ _ q3
            replace q4 := tr _ _ q4
            replace q5 := tr _ _ q5
            clear hy tr
            by_cases hbig : 1000 < dt.size
            · have hbi : (1000 : Int) < (dt.size : Int) := by omega
              have HAL := Lib.hid ((Below.refl wr.heap.size wr).alloc (Nat.le_refl _) (.cells #[.int .i64 kind, .int .i64 nn, .string nm, .string dt, .slice k1p k1n k1c, .slice t1p t1n t1c] 63))
              go_wp2_with fail
              go_roundw
              case rel => exact ⟨j + 1, g, a, l, all, by omega, by go_num, (HL.out.more _ (by omega)).below HAL.out, HR.out.below HAL.out, HXX.out.below HAL.out, HB.out.trans (HAL.out.mono hwz5)⟩
              case measure => simp [intOf]; omega
            · have hbi : ¬ (1000 : Int) < (dt.size : Int) := by omega
              have HNB := Lib.hid (KeX.new HL.out (by rw [← HLN.out] at HR; exact HR.out) (.cells #[.int .i64 kind, .int .i64 nn, .string nm, .string dt, .slice k1p k1n k1c, .slice t1p t1n t1c] 63))
              rw [HLN.out] at HNB
              have HAL := Lib.hid ((Below.refl wr.heap.size wr).alloc (Nat.le_refl _) (.cells #[.int .i64 kind, .int .i64 nn, .string nm, .string dt, .slice k1p k1n k1c, .slice t1p t1n t1c] 63))
              go_upto_block 4 with fail
              have HL6 := Lib.hid (HL.out.below HAL.out)
              have HR6 := Lib.hid (HR.out.below HAL.out)
              have HX6 := Lib.hid (HXX.out.below HAL.out)
              have HB6 := Lib.hid (HB.out.trans (HAL.out.mono hwz5))
              obtain ⟨yb, hyb⟩ : ∃ yb, wr.heap.size = yb := ⟨_, rfl⟩
              rw [hyb] at HNB ⊢
              have hwy : w.heap.size ≤ yb := by omega
              clear hyb HAL HL HR HXX HB q0 q1 q2 q3 q4 q5
              generalize wr.alloc (.cells #[.int .i64 kind, .int .i64 nn, .string nm, .string dt, .slice k1p k1n k1c, .slice t1p t1n t1c] 63) = W6 at *
              have y0 : W6.cell? ⟨yb, 0, none⟩ = some (.int .i64 kind) := HNB.out.cell 0
              have y1 : W6.cell? ⟨yb, 1, none⟩ = some (.int .i64 nn) := HNB.out.cell 1
              have y3 : W6.cell? ⟨yb, 3, none⟩ = some (.string dt) := HNB.out.cell 3
              go_cut [9] from 69 to 113 (fun va wc => ∃ (g a : Nat) (l : Lg) (all : List (List UInt8)), KeL wc w.heap.size lb (w.heap.size + 1) w.heap.size sg (50 * i + (j + 1)) l all a g ∧ KeR wc w.heap.size lb (w.heap.size + 1) w.heap.size g va all ∧ KeX wc lb (w.heap.size + 1) w.heap.size g xb va OB ∧ Below w.heap.size w wc)
              case first =>
                by_cases k1 : kind = 1
                · subst k1
                  have hbs : bs dt.data.toList = dt := by unfold bs; rw [Array.toArray_toList]
                  have hdl : dt.data.toList.length ≤ 1000 := by
                    have : dt.data.toList.length = dt.size := by simp
                    omega
                  obtain ⟨c, l7, had⟩ := ke_add HL6.out HR6.out hg2 (by omega) dt.data.toList hdl
                  have HAD := Lib.hid had
                  rw [hbs] at HAD
                  have HBS := Lib.hid hbs
                  clear hbs had
                  by_cases hc : c = 0
                  · subst hc
                    have HAD0 := Lib.hid HAD.out
                    rw [if_pos rfl] at HAD0
                    clear HAD
                    go_wp2_with (first
                      | (go_at_call 38; refine HAD0.out.mono ?_; rintro e w7 ⟨⟨g7, rfl, p1, p2, p3⟩, p4⟩; have HL7 := Lib.hid p1; have HR7 := Lib.hid p2; have HX7 := Lib.hid (p3 _ _ HX6.out); have HY7 := Lib.hid (p3 _ _ HNB.out); have HB7 := Lib.hid (HB6.out.trans p4); have y37 : w7.cell? ⟨yb, 3, none⟩ = some (.string dt) := HY7.out.cell 3; have hrow5 : w7.ownsRow w.heap.size 9 1 (.slice ap ln ac) ln (recVals all) := (by have q := p2.row; rw [HLN.out] at q; exact q); have hz7 := HB7.out.size; clear p1 p2 p3 p4)
                      | (at_builtin; refine wpList_append_own_at _ rfl _ _ 43 rfl w.heap.size 9 i0 (.string ⟨#[]⟩) 1 16 Tryd.underlying43 ii0 iz0 iz1 iz2 rfl (by decide) (.slice ap ln ac) ln (recVals all) rfl (hrow5.alloc _) ⟨w7.heap.size, 0, none⟩ 1 1 [.string dt] rfl rfl (cell_one_new _ _ _) (by simp [Value.oneCell']) (by unfold maxLen; omega) (by omega) (by simp; omega) ?_; intro v' w8 hown' hgrow _ hat; have HOWN := Lib.hid hown'; have HGR := Lib.hid hgrow; have HAT := Lib.hid hat; obtain ⟨g6, c6, hv6⟩ := ownsRow_succ hown'; subst hv6; clear hown' hgrow hat; go_frame)
                      | fail)
                    have HT := Lib.hid (ke_append HL7.out HR7.out (w6 := w8) (by
                      rw [List.length_append, List.length_singleton, HLN.out]
                      have e : recVals (all ++ [dt.data.toList]) = recVals all ++ [.string dt] := by conv => { rhs; rw [← HBS.out] }; simp [recVals]
                      rw [e]
                      exact HOWN.out) HGR.out HAT.out)
                    go_meet
                    case rel => exact ⟨g7, a, l7, all ++ [dt.data.toList], HT.out.1, HT.out.2.1, HT.out.2.2.1 _ _ HX7.out, HB7.out.trans HT.out.2.2.2⟩
                  · have hcb : (c == 0) = false := by simpa using hc
                    have HAD0 := Lib.hid HAD.out
                    rw [if_neg hc] at HAD0
                    clear HAD
                    go_wp2_with (first
                      | (go_at_call 38; refine HAD0.out.mono ?_; rintro e w7 ⟨⟨g7, rfl, p1, p2, p3⟩, p4⟩; have HL7 := Lib.hid p1; have HR7 := Lib.hid p2; have HX7 := Lib.hid (p3 _ _ HX6.out); have HB7 := Lib.hid (HB6.out.trans p4); clear p1 p2 p3 p4)
                      | fail)
                    go_meet
                    case rel => exact ⟨g7, a, l7, all, HL7.out, HR7.out, HX7.out, HB7.out⟩
                by_cases k2 : kind = 2
                · subst k2
                  have HSY := Lib.hid (ke_sync HL6.out HR6.out hg2 (by omega))
                  go_wp2_with (first
                    | (go_at_call 39; refine HSY.out.mono ?_; rintro e w7 ⟨⟨c, l7, rfl, p1, p2, p3⟩, p4⟩; have HL7 := Lib.hid p1; have HR7 := Lib.hid p2; have HX7 := Lib.hid (p3 _ _ HX6.out); have HB7 := Lib.hid (HB6.out.trans p4); clear p1 p2 p3 p4)
                    | fail)
                  go_meet
                  case rel => exact ⟨g, a, l7, all, HL7.out, HR7.out, HX7.out, HB7.out⟩
                by_cases k3 : kind = 3
                · subst k3
                  have HTR := Lib.hid (ke_trim HL6.out HR6.out hg2 (by omega) nn)
                  go_wp2_with (first
                    | (go_at_call 40; refine HTR.out.mono ?_; rintro e w7 ⟨⟨c, l7, a7, rfl, p1, p2, p3⟩, p4⟩; have HL7 := Lib.hid p1; have HR7 := Lib.hid p2; have HX7 := Lib.hid (p3 _ _ HX6.out); have HB7 := Lib.hid (HB6.out.trans p4); clear p1 p2 p3 p4)
                    | fail)
                  go_meet
                  case rel => exact ⟨g, a7, l7, all, HL7.out, HR7.out, HX7.out, HB7.out⟩
                have b1 : (kind == 1) = false := by simpa using k1
                have b2 : (kind == 2) = false := by simpa using k2
                have b3 : (kind == 3) = false := by simpa using k3
                go_wp2_with fail
                go_meet
                case rel => exact ⟨g, a, l, all, HL6.out.more _ (by omega), HR6.out, HX6.out, HB6.out⟩
              case rest =>
              clear HL6 HR6 HX6 HB6 HNB y0 y1 y3
              obtain ⟨g, a, l, all, hL, hR, hX, hB⟩ := hcut
              have HL := Lib.hid hL
              have HR := Lib.hid hR
              have HXX := Lib.hid hX
              have HB := Lib.hid hB
              obtain ⟨ap, ac, hva⟩ := owns_sl2 hR.row
              subst hva
              obtain ⟨t1, t2, t3, t4⟩ := ke_told hL
              have HNX := Lib.hid (fun W (h : KeL W w.heap.size lb (w.heap.size + 1) w.heap.size sg (50 * i + (j + 1)) l all a g) => ke_next h)
              have HSF := Lib.hid (ke_safe hL hg2)
              obtain ⟨ln, hln⟩ : ∃ ln, all.length = ln := ⟨_, rfl⟩
              rw [hln] at HR HXX HNX t1 t3 t4 ⊢
              obtain ⟨td, htd⟩ : ∃ td, l.told = td := ⟨_, rfl⟩
              rw [htd] at HSF t1
              have hc4 : IntKind.i64.wrap ((ln : Int) + 1) = (ln : Int) + 1 := by rw [IntKind.wrap_i64]; omega
              have hc5 : ¬ (ln : Int) + 1 ≤ (td : Int) := by omega
              clear hL hR hX hB hln htd HLN
              go_wp2_with (first
                | (go_at_call 44; (with_reducible refine (HNX.out _ HL.out).mono ?_); rintro e w9 ⟨rfl, hw9⟩; rw [hw9]; clear hw9)
                | (go_at_call 47; refine HSF.out.mono ?_; rintro e w8 ⟨rfl, hb8⟩; have HL8 := Lib.hid (HL.out.below hb8); have HR8 := Lib.hid (HR.out.below hb8); have HX8 := Lib.hid (HXX.out.below hb8); have HB8 := Lib.hid (HB.out.trans (hb8.mono HB.out.size)); clear hb8)
                | (go_at_call 44; (with_reducible refine (HNX.out _ HL8.out).mono ?_); rintro e w9 ⟨rfl, hw9⟩; rw [hw9]; clear hw9)
                | fail)
              go_roundw
              case rel => exact ⟨j + 1, g, a, l, all, by omega, by go_num, HL8.out, HR8.out, HX8.out, HB8.out⟩
              case measure => simp [intOf]; omega
          · have hji : ¬ (j : Int) < (kk : Int) := by omega
            have hjk : j = kk := by omega
            have HXB := Lib.hid (show KeX wr lb (w.heap.size + 1) w.heap.size g xb (.slice ap ln ac) (.cells #[.int .i64 st, .slice kp kn kc, .slice tp tn tc, .slice gp gn gc, .slice sp sn sc] 79) by rw [HOB.out]; exact HXX.out)
            have HFI := Lib.hid (ke_first HL.out hg2)
            have HSF := Lib.hid (ke_safe HL.out hg2)
            obtain ⟨td, htd⟩ : ∃ td, l.told = td := ⟨_, rfl⟩
            rw [htd] at HSF
            have HTD := Lib.hid htd
            clear htd
            go_upto_region 31 with (first
              | (go_at_call 41; refine HFI.out.mono ?_; rintro e w9 ⟨rfl, hw9⟩; rw [hw9]; clear hw9)
              | (go_at_call 47; refine HSF.out.mono ?_; rintro e w8 ⟨rfl, hb8⟩; have HL8 := Lib.hid (HL.out.below hb8); have HR8 := Lib.hid (HR.out.below hb8); have HX8 := Lib.hid (HXB.out.below hb8); have HB8 := Lib.hid (HB.out.trans (hb8.mono HB.out.size)); clear hb8)
              | fail)
            have HKP := Lib.hid (Kp.of_below (b := w.heap.size + 1) (m := w.heap.size) HB8.out)
            obtain ⟨J, j1, j2, j3, jc⟩ := ke_again HL8.out HR8.out hg1 hg2 (by omega) ((HX.out.k (w.heap.size + 1) w.heap.size (by omega) (Nat.le_refl _)).kept HKP.out) ((HX.out.t (w.heap.size + 1) w.heap.size (by omega) (Nat.le_refl _)).kept HKP.out) ((HX.out.a (w.heap.size + 1) w.heap.size (by omega) (Nat.le_refl _)).kept HKP.out) HX.out.kb HX.out.tb HX.out.ab
            have HAG := Lib.hid jc
            obtain ⟨t1, t2, t3, t4⟩ := ke_told HL.out
            rw [HLN.out] at j1
            rw [HTD.out] at j2
            have x1 : w8.cell? ⟨xb, 1, none⟩ = some (.slice kp kn kc) := HX8.out.cell 1
            have x2 : w8.cell? ⟨xb, 2, none⟩ = some (.slice tp tn tc) := HX8.out.cell 2
            have x3 : w8.cell? ⟨xb, 3, none⟩ = some (.slice gp gn gc) := HX8.out.cell 3
            have hJl : (all.take J).length = J := by rw [List.length_take, HLN.out]; omega
            have HJL := Lib.hid hJl
            clear jc hJl
            go_upto_region 32 with (first
              | (go_at_call 48; refine HAG.out.mono ?_; rintro e w9 ⟨⟨lb', g', l', rfl, p1, p2, p3, p4⟩, p5⟩; have HL9 := Lib.hid p1; have HT9 := Lib.hid p2; have HR9 := Lib.hid p3; have HRD := Lib.hid p4; have HB9 := Lib.hid (HB8.out.trans p5); clear p1 p2 p3 p4 p5)
              | fail)
            have HFI9 := Lib.hid (fun W (h : KeL W w.heap.size lb' (w.heap.size + 1) w.heap.size sg (50 * i + j + 1) l' (all.take J) a g') => ke_first h hg2)
            have HNX9 := Lib.hid (fun W (h : KeL W w.heap.size lb' (w.heap.size + 1) w.heap.size sg (50 * i + j + 1) l' (all.take J) a g') => ke_next h)
            have HSF9 := Lib.hid (ke_safe HL9.out hg2)
            rw [HT9.out] at HSF9
            rw [HJL.out] at HNX9
            have c1 : IntKind.i64.wrap ((J : Int) + 1 - 1) = (J : Int) := by rw [IntKind.wrap_i64]; omega
            have c2 : IntKind.i64.wrap (J : Int) = (J : Int) := by rw [IntKind.wrap_i64]; omega
            have c3 : ¬ (J : Int) < (td : Int) := by omega
            have c4 : ¬ (ln : Int) < (J : Int) := by omega
            go_upto_region 34 with (first
              | (go_at_call 41; (with_reducible refine (HFI9.out _ HL9.out).mono ?_); rintro e w9' ⟨rfl, hw9⟩; rw [hw9]; clear hw9)
              | (go_at_call 44; (with_reducible refine (HNX9.out _ HL9.out).mono ?_); rintro e w9' ⟨rfl, hw9⟩; rw [hw9]; clear hw9)
              | (go_at_call 47; refine HSF9.out.mono ?_; rintro e w10 ⟨rfl, hb⟩; have HL10 := Lib.hid (HL9.out.below hb); have HR10 := Lib.hid (HR9.out.below hb); have HB10 := Lib.hid (HB9.out.trans (hb.mono HB9.out.size)); have HRD10 := Lib.hid (HRD.out _ hb); clear hb)
              | (go_at_call 44; (with_reducible refine (HNX9.out _ HL10.out).mono ?_); rintro e w9' ⟨rfl, hw9⟩; rw [hw9]; clear hw9)
              | fail)
            obtain ⟨k, hk⟩ : ∃ k, a - 1 = k := ⟨_, rfl⟩
            have hak : a = k + 1 := by omega
            have HBGE := begB_take all J k (by have := HLN.out; omega)
            rw [hk] at HRD10
            obtain ⟨M, hM⟩ : ∃ M, (all.take J).drop k = M := ⟨_, rfl⟩
            rw [hM] at HRD10 HBGE
            obtain ⟨mk, hmk⟩ : ∃ mk, J - k = mk := ⟨_, rfl⟩
            have HMK : Hid (M.length = mk) := by show _ = _; rw [← hM, List.length_drop, HJL.out, hmk]
            have hmkb : mk ≤ 1000 := by omega
            have HBG : Hid (∀ W va vb, TxtC W va M → TxtC W vb (all.drop k) → Calls Tryd.prog 34 #[va, vb] W fun e w' => e = .returned (.bool true) ∧ Below W.heap.size W w') := fun W va vb h1 h2 => (begins_any h1 h2 (by rw [HMK.out]; omega)).mono fun e w' ⟨h3, h4⟩ => ⟨by rw [h3, HBGE], h4⟩
            have c5 : IntKind.i64.wrap ((a : Int) - 1) = (k : Int) := by rw [IntKind.wrap_i64]; omega
            have c6 : IntKind.i64.wrap ((J : Int) + 1 - (a : Int)) = (mk : Int) := by rw [IntKind.wrap_i64]; omega
            have d1 : (0 : Int) ≤ (k : Int) := by omega
            have d2 : (k : Int) ≤ (ln : Int) := by omega
            have d4 : (0 : Int) ≤ (J : Int) := by omega
            have hkl : k ≤ ln := by omega
            clear hk hM hmk HBGE c3 c4 x1 x2 x3 hak
            rcases row_dropC HR10.out.row k (by have := HLN.out; omega) with ⟨rfl, hl0, hn0, hc0⟩ | ⟨gv, rfl, hnl, hnc, htx⟩
            · have HDR : Hid (∀ W, KeR W w.heap.size lb' (w.heap.size + 1) w.heap.size g' (.slice none ln ac) all → TxtC W (.slice none 0 0) (all.drop k)) := fun W h => ⟨none, 0, by rw [hl0]; simp, by rw [hl0]; simp, .inl (by rw [hl0]; simp)⟩
              have hk0 : k = 0 := by omega
              have hJ0 : J = 0 := by omega
              clear hl0
              subst hn0 hc0 hk0 hJ0
              have e5 : IntKind.i64.wrap ((a : Int) - 1) = 0 := c5
              have e6 : IntKind.i64.wrap (1 - (a : Int)) = (mk : Int) := c6
              have e2 : IntKind.i64.wrap 0 = 0 := by decide
              go_wp2_with (first
                | (go_at_call 41; (with_reducible refine (HFI9.out _ HL10.out).mono ?_); rintro e w9' ⟨rfl, hw9⟩; rw [hw9]; clear hw9)
                | (go_at_call 45; refine HRD10.out.mono ?_; rintro e w11 ⟨vr, rfl, hsl⟩; have HTC := Lib.hid hsl.atC; have HL11 := Lib.hid (HL10.out.below hsl.B); have HR11 := Lib.hid (HR10.out.below hsl.B); have HB11 := Lib.hid (HB10.out.trans (hsl.B.mono HB10.out.size)); have HDC := Lib.hid (HDR.out _ HR11.out); obtain ⟨rp, rc, hvr⟩ := owns_sl2 hsl.o; rw [HMK.out] at hvr; subst hvr; clear hsl)
                | (go_at_call 44; (with_reducible refine (HNX9.out _ HL11.out).mono ?_); rintro e w9' ⟨rfl, hw9⟩; rw [hw9]; clear hw9)
                | (go_at_call 41; (with_reducible refine (HFI9.out _ HL11.out).mono ?_); rintro e w9' ⟨rfl, hw9⟩; rw [hw9]; clear hw9)
                | (go_at_call 34; (with_reducible refine (HBG.out _ _ _ HTC.out HDC.out).mono ?_); rintro e w12 ⟨rfl, hb⟩; have HL12 := Lib.hid (HL11.out.below hb); have HR12 := Lib.hid (HR11.out.below hb); have HB12 := Lib.hid (HB11.out.trans (hb.mono HB11.out.size)); clear hb)
                | (go_at_call 44; (with_reducible refine (HNX9.out _ HL12.out).mono ?_); rintro e w9' ⟨rfl, hw9⟩; rw [hw9]; clear hw9)
                | fail)
              have HLZ := Lib.hid (HL12.out.more (50 * (i + 1)) (by omega))
              have HRZ := Lib.hid (HR12.out.take 0 (by have := HLN.out; omega))
              go_roundw
              case rel => exact ⟨i + 1, lb', g', a, l', all.take 0, by omega, by omega, rfl, by go_num, HLZ.out, HRZ.out, HB12.out⟩
              case measure => simp [intOf]; omega
            · obtain ⟨A, hA⟩ : ∃ A, (if ac = k then some (⟨gv, 0, none⟩ : Addr) else some ⟨gv, k, none⟩) = A := ⟨_, rfl⟩
              have HDR : Hid (∀ W, KeR W w.heap.size lb' (w.heap.size + 1) w.heap.size g' (.slice (some ⟨gv, 0, none⟩) ln ac) all → TxtC W (.slice A (ln - k) (ac - k)) (all.drop k)) := fun W h => by
                rcases row_dropC h.row k (by have := HLN.out; omega) with ⟨h1, _⟩ | ⟨gv', h1, _, _, h4⟩
                · cases h1
                · cases h1
                  rw [hA] at h4
                  exact h4
              have d3 : (ln : Int) ≤ (ac : Int) := by omega
              have d5 : (J : Int) ≤ (ac : Int) := by omega
              clear htx hnl
              go_wp2_with (first
                | (go_at_call 41; (with_reducible refine (HFI9.out _ HL10.out).mono ?_); rintro e w9' ⟨rfl, hw9⟩; rw [hw9]; clear hw9)
                | (go_at_call 45; refine HRD10.out.mono ?_; rintro e w11 ⟨vr, rfl, hsl⟩; have HTC := Lib.hid hsl.atC; have HL11 := Lib.hid (HL10.out.below hsl.B); have HR11 := Lib.hid (HR10.out.below hsl.B); have HB11 := Lib.hid (HB10.out.trans (hsl.B.mono HB10.out.size)); have HDC := Lib.hid (HDR.out _ HR11.out); obtain ⟨rp, rc, hvr⟩ := owns_sl2 hsl.o; rw [HMK.out] at hvr; subst hvr; clear hsl)
                | (go_at_call 44; (with_reducible refine (HNX9.out _ HL11.out).mono ?_); rintro e w9' ⟨rfl, hw9⟩; rw [hw9]; clear hw9)
                | (go_at_call 41; (with_reducible refine (HFI9.out _ HL11.out).mono ?_); rintro e w9' ⟨rfl, hw9⟩; rw [hw9]; clear hw9)
                | (go_at_call 34; (with_reducible refine (HBG.out _ _ _ HTC.out HDC.out).mono ?_); rintro e w12 ⟨rfl, hb⟩; have HL12 := Lib.hid (HL11.out.below hb); have HR12 := Lib.hid (HR11.out.below hb); have HB12 := Lib.hid (HB11.out.trans (hb.mono HB11.out.size)); clear hb)
                | (go_at_call 44; (with_reducible refine (HNX9.out _ HL12.out).mono ?_); rintro e w9' ⟨rfl, hw9⟩; rw [hw9]; clear hw9)
                | fail)
              have HLZ := Lib.hid (HL12.out.more (50 * (i + 1)) (by omega))
              have HRZ := Lib.hid (HR12.out.take J (by have := HLN.out; omega))
              go_roundw
              case rel => exact ⟨i + 1, lb', g', a, l', all.take J, by omega, by omega, rfl, by go_num, HLZ.out, HRZ.out, HB12.out⟩
              case measure => simp [intOf]; omega
    · have hli : ¬ (i : Int) < (n : Int) := by omega
      go_wp2_with fail
      go_ret
      exact ⟨rfl, HB.out⟩
end Go.Proofs.YtnpgjlhnlakgpaaDoor

/- A log and the document's, each on a disk of its own: where they lie. Both tell the same numbers; a call is small. Both are opened. What the calls of both want: few segments; a Read that may not be. -/
import Derived.Test.YtnpgjlhnlakgpaaGreatDoorG22
import Derived.Test.YtnpgjlhnlakgpaaGreatDoorG19
import Derived.Test.YtnpgjlhnlakgpaaGreatDoorWalAd
import Derived.Test.YtnpgjlhnlakgpaaGreatDoorWalRd
import Derived.Test.YtnpgjlhnlakgpaaGreatDoorG10
import Derived.Test.YtnpgjlhnlakgpaaGreatDoorWalOp
namespace Go.Proofs.YtnpgjlhnlakgpaaGreatDoor
open Go.RowKit Go.Maps

theorem LgW.ofb {w w' : World} {B lb db m g : Nat} {l : Lg} (h : LgW w B lb db m g l) (h1 : w'.heap[lb]? = w.heap[lb]?) (h2 : w'.heap[g]? = w.heap[g]?) (hz : w.heap.size ≤ w'.heap.size) (hp : PowB B w') : LgW w' B lb db m g l := by
  have c := fun o => World.cell?_of_block (w := w) (w' := w') (a := ⟨lb, o, none⟩) h1
  have f := fun o => World.frozen?_of_block (w := w) (w' := w') (a := ⟨lb, o, none⟩) h1
  obtain ⟨b1, b2, b3, b4, b5⟩ := h.bel
  obtain ⟨o, cap, hc, hn⟩ := h.c2
  exact ⟨(c 0).trans h.c0, (c 1).trans h.c1, ⟨o, cap, (c 2).trans hc, hn.of_block h2⟩, (c 3).trans h.c3, (c 4).trans h.c4, (c 5).trans h.c5, (f 2).trans h.f2, (f 3).trans h.f3, (f 4).trans h.f4, (f 5).trans h.f5, h.ne, ⟨b1, b2, b3, b4, by omega⟩, hp⟩
/-- Both's block, and both disks. -/
structure BK (w : World) (B bb db m rb rg : Nat) (lv mv : Value) (d : Dk) : Prop where
  c0 : w.cell? ⟨bb, 0, none⟩ = some (.pointer (some ⟨db, 0, none⟩))
  c1 : w.cell? ⟨bb, 1, none⟩ = some lv
  c2 : w.cell? ⟨bb, 2, none⟩ = some (.pointer (some ⟨rb, 0, none⟩))
  c3 : w.cell? ⟨bb, 3, none⟩ = some mv
  f1 : w.frozen? ⟨bb, 1, none⟩ = false
  f3 : w.frozen? ⟨bb, 3, none⟩ = false
  D : DAt w db m d
  R : RAt w rb rg d
  pow : PowB B w
  ok : d.Ok
  ne : bb ≠ db ∧ bb ≠ m ∧ bb ≠ rb ∧ bb ≠ rg ∧ db ≠ rb ∧ db ≠ rg ∧ m ≠ rb ∧ m ≠ rg
  bel : B ≤ bb ∧ B ≤ db ∧ B ≤ m ∧ B ≤ rb ∧ B ≤ rg ∧ B ≤ w.heap.size
/-- Both logs stand alike. -/
structure BL (w : World) (B bb db m rb rg lb g mb g2 ga : Nat) (d : Dk) (l : Lg) (r : Rg) : Prop where
  K : BK w B bb db m rb rg (.pointer (some ⟨lb, 0, none⟩)) (.pointer (some ⟨mb, 0, none⟩)) d
  L : LgW w B lb db m g l
  S : RgS w B mb rb rg g2 ga r d
  P : ∃ a init lst, Pin d l r a init lst
  n1 : lb ≠ bb ∧ lb ≠ rb ∧ lb ≠ rg ∧ lb ≠ mb ∧ lb ≠ g2 ∧ lb ≠ ga
  n2 : g ≠ bb ∧ g ≠ rb ∧ g ≠ rg ∧ g ≠ mb ∧ g ≠ g2 ∧ g ≠ ga
  n3 : bb ≠ mb ∧ bb ≠ g2 ∧ bb ≠ ga
  n4 : db ≠ mb ∧ db ≠ g2 ∧ db ≠ ga
  n5 : m ≠ mb ∧ m ≠ g2 ∧ m ≠ ga
/-- Both, opened or not. -/
def Bth (w : World) (B bb db rb : Nat) (d : Dk) : Prop :=
  ∃ m rg, BK w B bb db m rb rg (.pointer none) (.pointer none) d ∨ ∃ lb g mb g2 ga l r, BL w B bb db m rb rg lb g mb g2 ga d l r
/-- What a call of both leaves. -/
def BOut (w w' : World) (B bb db rb : Nat) (d : Dk) : Prop := ∃ d', Bth w' B bb db rb d' ∧ Below B w w' ∧ d'.steps ≤ d.steps + 2000000000000
section
variable {w w' : World} {B bb db m rb rg lb g mb g2 ga : Nat} {lv mv : Value} {d d' : Dk} {l : Lg} {r : Rg}
theorem BK.lt (h : BK w B bb db m rb rg lv mv d) : bb < w.heap.size ∧ db < w.heap.size ∧ m < w.heap.size ∧ rb < w.heap.size ∧ rg < w.heap.size :=
  ⟨World.block_lt_of_cell? w _ h.c0, h.D.lt, h.D.ltm, h.R.lt, h.R.ltg.1⟩
theorem BL.lt (h : BL w B bb db m rb rg lb g mb g2 ga d l r) : lb < w.heap.size ∧ g < w.heap.size ∧ mb < w.heap.size ∧ g2 < w.heap.size ∧ ga < w.heap.size :=
  ⟨h.L.lt.1, h.L.lt.2, h.S.lt.1, h.S.lt.2.1, h.S.lt.2.2.1⟩
theorem BK.below (h : BK w B bb db m rb rg lv mv d) (hb : Below w.heap.size w w') : BK w' B bb db m rb rg lv mv d := by
  obtain ⟨l1, l2, l3, l4, l5⟩ := h.lt
  obtain ⟨b1, b2, b3, b4, b5, b6⟩ := h.bel
  have c := fun o => hb.cell (p := ⟨bb, o, none⟩) l1
  have f := fun o => World.frozen?_of_block (w := w) (w' := w') (a := ⟨bb, o, none⟩) (hb.block bb l1)
  exact ⟨(c 0).trans h.c0, (c 1).trans h.c1, (c 2).trans h.c2, (c 3).trans h.c3, (f 1).trans h.f1, (f 3).trans h.f3, DC.below h.D hb, h.R.below hb, h.pow.on (hb.mono b6), h.ok, h.ne, ⟨b1, b2, b3, b4, b5, Nat.le_trans b6 hb.size⟩⟩
theorem BL.below (h : BL w B bb db m rb rg lb g mb g2 ga d l r) (hb : Below w.heap.size w w') : BL w' B bb db m rb rg lb g mb g2 ga d l r :=
  ⟨h.K.below hb, h.L.below hb, h.S.below hb, h.P, h.n1, h.n2, h.n3, h.n4, h.n5⟩
theorem BK.alloc (h : BK w B bb db m rb rg lv mv d) (x : Obj) : BK (w.alloc x) B bb db m rb rg lv mv d := h.below ((Below.refl _ _).alloc (Nat.le_refl _) x)
theorem BL.alloc (h : BL w B bb db m rb rg lb g mb g2 ga d l r) (x : Obj) : BL (w.alloc x) B bb db m rb rg lb g mb g2 ga d l r := h.below ((Below.refl _ _).alloc (Nat.le_refl _) x)
/-- Behind a call of the disk, and the same call of the document's: the disks alone. -/
theorem BK.both {w1 w2 : World} (h : BK w B bb db m rb rg lv mv d) (h1 : DAt w1 db m d') (k1 : Kp db m w w1) (h2 : ROut w1 w2 rb rg d') (hok : d'.Ok) :
    ∃ rg', BK w2 B bb db m rb rg' lv mv d' ∧ (rg' = rg ∨ rg' = rb ∨ w1.heap.size ≤ rg') ∧ Below B w w2 := by
  obtain ⟨l1, l2, l3, l4, l5⟩ := h.lt
  obtain ⟨n1, n2, n3, n4, n5, n6, n7, n8⟩ := h.ne
  obtain ⟨b1, b2, b3, b4, b5, b6⟩ := h.bel
  obtain ⟨⟨rg', r1, r2⟩, k2⟩ := h2
  have hz := k1.size
  have hz2 := k2.size
  have hbb : w2.heap[bb]? = w.heap[bb]? := (k2.block bb (by omega) n3 n4).trans (k1.block bb l1 n1 n2)
  have c := fun o => World.cell?_of_block (w := w) (w' := w2) (a := ⟨bb, o, none⟩) hbb
  have f := fun o => World.frozen?_of_block (w := w) (w' := w2) (a := ⟨bb, o, none⟩) hbb
  have hB : Below B w w2 := (Kp.belowN (Below.refl B w) k1 b6 b2 b3).trans (Kp.belowN (Below.refl B w1) k2 (by omega) b4 b5)
  refine ⟨rg', ⟨(c 0).trans h.c0, (c 1).trans h.c1, (c 2).trans h.c2, (c 3).trans h.c3, (f 1).trans h.f1, (f 3).trans h.f3, DC.kept h1 k2 n5 n6 n7 n8, r1, h.pow.on hB, hok, ?_, ?_⟩, r2, hB⟩
  · rcases r2 with rfl | rfl | r2
    · exact ⟨n1, n2, n3, n4, n5, n6, n7, n8⟩
    · exact ⟨n1, n2, n3, n3, n5, n5, n7, n7⟩
    · exact ⟨n1, n2, n3, by omega, n5, by omega, n7, by omega⟩
  · have := r1.ltg.2
    exact ⟨b1, b2, b3, b4, by omega, by omega⟩
/-- Behind a call of the log, and the same call of the document's. -/
theorem BL.both {w1 w2 : World} {l' : Lg} {r' : Rg} {g' : Nat} (h : BL w B bb db m rb rg lb g mb g2 ga d l r) (h1 : DAt w1 db m d') (hl : LgW w1 B lb db m g' l') (k1 : KL lb db m g w w1) (hg : g' = g ∨ w.heap.size ≤ g') (h2 : RgOut w1 w2 B mb rb rg g2 ga r' d') (hp : ∃ a init lst, Pin d' l' r' a init lst) :
    ∃ rg' g2' ga', BL w2 B bb db m rb rg' lb g' mb g2' ga' d' l' r' ∧ Below B w w2 := by
  obtain ⟨l1, l2, l3, l4, l5⟩ := h.K.lt
  obtain ⟨m1, m2, m3, m4, m5⟩ := h.lt
  obtain ⟨n1, n2, n3, n4, n5, n6, n7, n8⟩ := h.K.ne
  obtain ⟨p1, p2, p3, p4, p5, p6⟩ := h.n1
  obtain ⟨q1, q2, q3, q4, q5, q6⟩ := h.n2
  obtain ⟨s1, s2, s3⟩ := h.n3
  obtain ⟨t1, t2, t3⟩ := h.n4
  obtain ⟨u1, u2, u3⟩ := h.n5
  obtain ⟨b1, b2, b3, b4, b5, b6⟩ := h.K.bel
  obtain ⟨v1, v2, v3, v4, v5⟩ := h.L.bel
  obtain ⟨x1, x2, x3, x4⟩ := h.S.L.bel
  obtain ⟨rg', g2', ga', r1, k2, e1, e2, e3⟩ := h2
  have hz := k1.size
  have hz2 := k2.size
  have hlg := hl.lt.2
  have hbb : w2.heap[bb]? = w.heap[bb]? := (k2.block bb (by omega) s1 n3 n4 s2 s3).trans (k1.block bb l1 (fun e => p1 e.symm) n1 n2 (fun e => q1 e.symm))
  have c := fun o => World.cell?_of_block (w := w) (w' := w2) (a := ⟨bb, o, none⟩) hbb
  have f := fun o => World.frozen?_of_block (w := w) (w' := w2) (a := ⟨bb, o, none⟩) hbb
  have hB : Below B w w2 := (KL.belowN k1 b6 v1 b2 b3 v4).trans (KR.belowN (Below.refl B w1) k2 (by omega) x1 b4 b5 x2 x3)
  have hdb : w2.heap[db]? = w1.heap[db]? := k2.block db (by omega) t1 n5 n6 t2 t3
  have hm : w2.heap[m]? = w1.heap[m]? := k2.block m (by omega) u1 n7 n8 u2 u3
  have hlb : w2.heap[lb]? = w1.heap[lb]? := k2.block lb (by omega) p4 p2 p3 p5 p6
  have G : g' ≠ bb ∧ g' ≠ rb ∧ g' ≠ rg ∧ g' ≠ mb ∧ g' ≠ g2 ∧ g' ≠ ga := by
    rcases hg with rfl | hg
    · exact ⟨q1, q2, q3, q4, q5, q6⟩
    · exact ⟨by omega, by omega, by omega, by omega, by omega, by omega⟩
  obtain ⟨G1, G2, G3, G4, G5, G6⟩ := G
  have hg' : w2.heap[g']? = w1.heap[g']? := k2.block g' hlg G4 G2 G3 G5 G6
  have nrg : ∀ x, x < w1.heap.size → x ≠ rb → x ≠ rg → x ≠ rg' := fun x h1 h2 h3 => by
    rcases e1 with e | e | e
    · rw [e]; exact h3
    · rw [e]; exact h2
    · omega
  have ng2 : ∀ x, x < w1.heap.size → x ≠ g2 → x ≠ g2' := fun x h1 h2 => by
    rcases e2 with e | e
    · rw [e]; exact h2
    · omega
  have nga : ∀ x, x < w1.heap.size → x ≠ ga → x ≠ ga' := fun x h1 h2 => by
    rcases e3 with e | e
    · rw [e]; exact h2
    · omega
  have hp2 : PowB B w2 := h.K.pow.on hB
  obtain ⟨y1, y2, y3, y4⟩ := r1.L.bel
  have y5 := r1.lt.2.2.2.2.2
  have hlb1 : lb < w1.heap.size := hl.lt.1
  refine ⟨rg', g2', ga', ⟨⟨(c 0).trans h.K.c0, (c 1).trans h.K.c1, (c 2).trans h.K.c2, (c 3).trans h.K.c3, (f 1).trans h.K.f1, (f 3).trans h.K.f3, DC.of_blocks h1 hdb (.inr hm), r1.D, hp2, ?_, ?_, ?_⟩, hl.ofb hlb hg' hz2 hp2, r1, hp, ?_, ?_, ?_, ?_, ?_⟩, hB⟩
  · obtain ⟨a, i, ls, hP⟩ := hp; exact hP.ok
  · exact ⟨n1, n2, n3, nrg bb (by omega) n3 n4, n5, nrg db (by omega) n5 n6, n7, nrg m (by omega) n7 n8⟩
  · exact ⟨b1, b2, b3, b4, by omega, by omega⟩
  · exact ⟨p1, p2, nrg lb hlb1 p2 p3, p4, ng2 lb hlb1 p5, nga lb hlb1 p6⟩
  · exact ⟨G1, G2, nrg g' hlg G2 G3, G4, ng2 g' hlg G5, nga g' hlg G6⟩
  · exact ⟨s1, ng2 bb (by omega) s2, nga bb (by omega) s3⟩
  · exact ⟨t1, ng2 db (by omega) t2, nga db (by omega) t3⟩
  · exact ⟨u1, ng2 m (by omega) u2, nga m (by omega) u3⟩
end
end Go.Proofs.YtnpgjlhnlakgpaaGreatDoor
namespace Go.Proofs.YtnpgjlhnlakgpaaGreatDoor
open Go.RowKit Go.Maps

theorem numsOf_bd : ∀ (x : List (List (List UInt8))) (a n : Nat), n ∈ numsOf a x ++ [a + x.flatten.length] → a ≤ n ∧ n ≤ a + x.flatten.length
  | [], a, n, h => by simp [numsOf] at h; subst h; simp
  | rs :: t, a, n, h => by
    simp only [numsOf, List.cons_append, List.mem_cons, List.flatten_cons, List.length_append] at h ⊢
    rcases h with rfl | h
    · omega
    · have := numsOf_bd t (a + rs.length) n (by rw [Nat.add_assoc]; exact h)
      omega
theorem numsOf_len : ∀ (x : List (List (List UInt8))) (a : Nat), (numsOf a x).length = x.length
  | [], _ => rfl
  | rs :: t, a => by simp [numsOf, numsOf_len t]
theorem HasS.mem {d : Dk} {n : Nat} {rs : List (List UInt8)} (h : HasS d n rs) : ∃ f ∈ d.L, f.key = nameL n ∧ f.bytes = bs (framesN rs) := by
  obtain ⟨s, hs⟩ := h
  exact ⟨_, findF_mem hs, findF_key hs, rfl⟩
theorem Pin.size_le {d : Dk} {l : Lg} {r : Rg} {a : Nat} {init : List (List (List UInt8))} {lst : List (List UInt8)} (h : Pin d l r a init lst) : l.size ≤ 4194304 := by
  obtain ⟨f, hf, -, hb⟩ := h.lastf.mem
  have h1 := mem_used hf
  have h2 := h.ok.used
  have h3 := h.ok.room
  rw [hb, bs_size] at h1
  have := h.size
  omega
theorem Pin.lok {d : Dk} {l : Lg} {r : Rg} {a : Nat} {init : List (List (List UInt8))} {lst : List (List UInt8)} (h : Pin d l r a init lst) : l.Ok := by
  have hq := h.qmax
  have ha := h.a1
  refine ⟨by rw [h.nums]; simp, fun n hn => ?_, by have := h.size_le; omega, ⟨by have := h.next; omega, h.nmax⟩, h.safeb, ⟨h.seg1, h.segb⟩⟩
  rw [h.nums] at hn
  have := numsOf_bd init a n hn
  omega
theorem Pin.rok {d : Dk} {l : Lg} {r : Rg} {a : Nat} {init : List (List (List UInt8))} {lst : List (List UInt8)} (h : Pin d l r a init lst) : r.Ok := by
  have hl := h.lok
  have hx := h.next
  have hm := h.nmax
  refine ⟨by rw [h.rnums]; exact hl.nz, by rw [h.rnums]; exact hl.bd, by rw [h.rnext]; exact h.nmax, by rw [h.safe]; exact h.safeb, by rw [h.seg]; exact hl.seg, ?_⟩
  rw [h.all, List.length_append]
  omega
section
variable {w : World} {B bb db m rb rg lb g mb g2 ga : Nat} {d : Dk} {l : Lg} {r : Rg}
set_option maxRecDepth 100000 in
set_option maxHeartbeats 16000000 in
theorem stands_nil {lv mv : Value} (h : BK w B bb db m rb rg lv mv d) (hl : lv = .pointer none) :
    Calls Tryz.prog 11 #[.pointer (some ⟨bb, 0, none⟩)] w fun e w' => e = .returned (.bool true) ∧ Below w.heap.size w w' := by
  subst hl
  have c1 := h.c1
  clear h
  go_enter Tryz.func11, Tryz.ntmps11
  go_upto_region 1 with fail
  go_quiet (fail)
  go_wp2_with fail
  go_ret
  exact ⟨rfl, drN' (Below.refl _ _) _⟩
set_option maxRecDepth 100000 in
set_option maxHeartbeats 16000000 in
theorem stands_any (h : BL w B bb db m rb rg lb g mb g2 ga d l r) :
    Calls Tryz.prog 11 #[.pointer (some ⟨bb, 0, none⟩)] w fun e w' => e = .returned (.bool true) ∧ Below w.heap.size w w' := by
  have hgn := GW.ne (Inv := fun W => Below w.heap.size w W) (Below.refl _ w)
  obtain ⟨a, init, lst, hP⟩ := h.P
  have hlo := hP.lok
  have hro := hP.rok
  have c1 : ∀ u : GW (fun W => Below w.heap.size w W), u.w.cell? ⟨bb, 1, none⟩ = some (.pointer (some ⟨lb, 0, none⟩)) := fun u => (h.below u.h).K.c1
  have c3 : ∀ u : GW (fun W => Below w.heap.size w W), u.w.cell? ⟨bb, 3, none⟩ = some (.pointer (some ⟨mb, 0, none⟩)) := fun u => (h.below u.h).K.c3
  have F1 : Hid (∀ u : GW (fun W => Below w.heap.size w W), Calls Tryz.prog 18 #[.pointer (some ⟨lb, 0, none⟩)] u.w fun e w' => e = .returned (.int .i64 (l.first : Int)) ∧ Below u.w.heap.size u.w w') := fun u => (first_any (h.below u.h).L hlo).mono fun e w' ⟨h1, h2⟩ => ⟨h1, by rw [h2]; exact Below.refl _ _⟩
  have N1 : Hid (∀ u : GW (fun W => Below w.heap.size w W), Calls Tryz.prog 19 #[.pointer (some ⟨lb, 0, none⟩)] u.w fun e w' => e = .returned (.int .i64 (l.next : Int)) ∧ Below u.w.heap.size u.w w') := fun u => (next_any (h.below u.h).L).mono fun e w' ⟨h1, h2⟩ => ⟨h1, by rw [h2]; exact Below.refl _ _⟩
  have S1 : Hid (∀ u : GW (fun W => Below w.heap.size w W), Calls Tryz.prog 20 #[.pointer (some ⟨lb, 0, none⟩)] u.w fun e w' => e = .returned (.int .i64 (l.told : Int)) ∧ Below u.w.heap.size u.w w') := fun u => safe_any (h.below u.h).L hlo
  have F2 : Hid (∀ u : GW (fun W => Below w.heap.size w W), Calls Tryz.prog 39 #[.pointer (some ⟨mb, 0, none⟩)] u.w fun e w' => e = .returned (.int .i64 (l.first : Int)) ∧ Below u.w.heap.size u.w w') := fun u => (rfirst_any (h.below u.h).S.L hro).mono fun e w' ⟨h1, h2⟩ => ⟨by rw [h1, hP.rfirst, hP.first], by rw [h2]; exact Below.refl _ _⟩
  have N2 : Hid (∀ u : GW (fun W => Below w.heap.size w W), Calls Tryz.prog 40 #[.pointer (some ⟨mb, 0, none⟩)] u.w fun e w' => e = .returned (.int .i64 (l.next : Int)) ∧ Below u.w.heap.size u.w w') := fun u => (rnext_any (h.below u.h).S.L hro).mono fun e w' ⟨h1, h2⟩ => ⟨by rw [h1, hP.rnext], h2⟩
  have S2 : Hid (∀ u : GW (fun W => Below w.heap.size w W), Calls Tryz.prog 41 #[.pointer (some ⟨mb, 0, none⟩)] u.w fun e w' => e = .returned (.int .i64 (l.told : Int)) ∧ Below u.w.heap.size u.w w') := fun u => (rsafe_any (h.below u.h).S.L hro).mono fun e w' ⟨h1, h2⟩ => ⟨by rw [h1, hP.told], h2⟩
  obtain ⟨FF, hFF⟩ : ∃ FF : Int, (l.first : Int) = FF := ⟨_, rfl⟩
  obtain ⟨NN, hNN⟩ : ∃ NN : Int, (l.next : Int) = NN := ⟨_, rfl⟩
  obtain ⟨SS, hSS⟩ : ∃ SS : Int, (l.told : Int) = SS := ⟨_, rfl⟩
  rw [hFF] at F1 F2
  rw [hNN] at N1 N2
  rw [hSS] at S1 S2
  clear h hP hlo hro hFF hNN hSS
  go_enter Tryz.func11, Tryz.ntmps11
  go_wp2_with fail
  refine wp_region_grow (fun W => Below w.heap.size w W) (by kernel_rfl) (by kernel_rfl) (Below.refl _ _).drew ?_
  repeat (go_big_quiet_step (first
    | (go_at_call 18; refine (F1.out _).mono ?_; rintro e w1 ⟨rfl, hb⟩; exact ⟨rfl, below_next _ hb⟩)
    | (go_at_call 39; refine (F2.out _).mono ?_; rintro e w1 ⟨rfl, hb⟩; exact ⟨rfl, below_next _ hb⟩)
    | (go_at_call 19; refine (N1.out _).mono ?_; rintro e w1 ⟨rfl, hb⟩; exact ⟨rfl, below_next _ hb⟩)
    | (go_at_call 40; refine (N2.out _).mono ?_; rintro e w1 ⟨rfl, hb⟩; exact ⟨rfl, below_next _ hb⟩)
    | (go_at_call 20; refine (S1.out _).mono ?_; rintro e w1 ⟨rfl, hb⟩; exact ⟨rfl, below_next _ hb⟩)
    | (go_at_call 41; refine (S2.out _).mono ?_; rintro e w1 ⟨rfl, hb⟩; exact ⟨rfl, below_next _ hb⟩)))
  refine wpQuiet_nil ?_
  intro w4 hw'
  obtain ⟨⟨wx, h4⟩, hw''⟩ := hw'
  subst hw''
  go_wp2_with fail
  go_ret
  exact ⟨rfl, h4⟩
end
set_option maxHeartbeats 2000000 in
theorem small_any (x : WOp) (w : World) : Calls Tryz.prog 9 #[.agg #[.int .i64 x.kind, .int .i64 x.n, .string x.name, .string x.data, .slice x.kp x.kn x.kc, .slice x.tp x.tn x.tc]] w fun e w' => e = .returned (.bool (decide (x.data.size ≤ 131072) && decide (x.name.size ≤ 65536))) ∧ Below w.heap.size w w' := by
  obtain ⟨k, n, nm, dt, kp, kn, kc, tp, tn, tc⟩ := x
  simp only
  by_cases h1 : dt.size ≤ 131072
  · have h1i : (dt.size : Int) ≤ 131072 := by omega
    by_cases h2 : nm.size ≤ 65536
    · have h2i : (nm.size : Int) ≤ 65536 := by omega
      rw [decide_eq_true h1, decide_eq_true h2]
      go_enter Tryz.func9, Tryz.ntmps9
      go_wp2_with fail
      go_ret
      exact ⟨rfl, (Below.refl _ _).alloc (Nat.le_refl _) _⟩
    · have h2i : ¬ (nm.size : Int) ≤ 65536 := by omega
      rw [decide_eq_true h1, decide_eq_false h2]
      go_enter Tryz.func9, Tryz.ntmps9
      go_wp2_with fail
      go_ret
      exact ⟨rfl, (Below.refl _ _).alloc (Nat.le_refl _) _⟩
  · have h1i : ¬ (dt.size : Int) ≤ 131072 := by omega
    rw [decide_eq_false h1]
    go_enter Tryz.func9, Tryz.ntmps9
    go_wp2_with fail
    go_ret
    exact ⟨rfl, (Below.refl _ _).alloc (Nat.le_refl _) _⟩
end Go.Proofs.YtnpgjlhnlakgpaaGreatDoor
namespace Go.Proofs.YtnpgjlhnlakgpaaGreatDoor
open Go.RowKit Go.Maps

section
variable {w : World} {B bb db m rb rg : Nat} {lv mv : Value} {d : Dk}
/-- Behind both Opens, and the stores: closed. -/
theorem bk_closed {w1 w2 : World} {d' : Dk} (h : BK w B bb db m rb rg lv mv d) (h1 : DAt w1 db m d') (k1 : Kp db m w w1) (h2 : ROut w1 w2 rb rg d') (hok : d'.Ok) :
    Bth ((w2.setCell ⟨bb, 1, none⟩ (.pointer none)).setCell ⟨bb, 3, none⟩ (.pointer none)) B bb db rb d' ∧ Below B w ((w2.setCell ⟨bb, 1, none⟩ (.pointer none)).setCell ⟨bb, 3, none⟩ (.pointer none)) := by
  obtain ⟨rg', k, _, hB⟩ := h.both h1 k1 h2 hok
  obtain ⟨n1, n2, n3, n4, n5, n6, n7, n8⟩ := k.ne
  have hb := (hB.setCell (p := ⟨bb, 1, none⟩) k.bel.1 (.pointer none)).setCell (p := ⟨bb, 3, none⟩) k.bel.1 (.pointer none)
  refine ⟨⟨m, rg', .inl ⟨?_, ?_, ?_, ?_, ?_, ?_, ?_, ?_, h.pow.on hb, hok, k.ne, ?_⟩⟩, hb⟩
  · rw [World.cell?_setCell_other _ _ _ _ (by simp), World.cell?_setCell_other _ _ _ _ (by simp)]; exact k.c0
  · rw [World.cell?_setCell_other _ _ _ _ (by simp)]; exact World.cell?_setCell_same _ _ _ k.c1
  · rw [World.cell?_setCell_other _ _ _ _ (by simp), World.cell?_setCell_other _ _ _ _ (by simp)]; exact k.c2
  · exact World.cell?_setCell_same _ _ _ ((World.cell?_setCell_other _ _ _ _ (by simp)).trans k.c3)
  · rw [World.frozen?_setCell, World.frozen?_setCell]; exact k.f1
  · rw [World.frozen?_setCell, World.frozen?_setCell]; exact k.f3
  · exact DC.far (DC.far k.D (fun e => n1 e.symm) (fun e => n2 e.symm) _ _) (fun e => n1 e.symm) (fun e => n2 e.symm) _ _
  · exact (k.R.far (fun e => n3 e.symm) (fun e => n4 e.symm) _ _).far (fun e => n3 e.symm) (fun e => n4 e.symm) _ _
  · have := k.bel; simpa using this
/-- Behind both Opens, and the stores: open. -/
theorem bl_opened {w1 w2 : World} {d' : Dk} {lb g mb g2 ga rg' : Nat} {l : Lg} {r : Rg} (h : BK w B bb db m rb rg lv mv d) (h1 : DAt w1 db m d') (k1 : Kp db m w w1) (hl : LgW w1 B lb db m g l) (z1 : w.heap.size ≤ lb) (z2 : w.heap.size ≤ g)
    (hq : rg' = rg ∨ rg' = rb ∨ w1.heap.size ≤ rg') (k2 : Kp rb rg w1 w2) (hs : RgS w2 B mb rb rg' g2 ga r d') (y1 : w1.heap.size ≤ mb) (y2 : w1.heap.size ≤ g2) (y3 : w1.heap.size ≤ ga) (hp : ∃ a init lst, Pin d' l r a init lst) :
    Bth ((w2.setCell ⟨bb, 1, none⟩ (.pointer (some ⟨lb, 0, none⟩))).setCell ⟨bb, 3, none⟩ (.pointer (some ⟨mb, 0, none⟩))) B bb db rb d' ∧ Below B w ((w2.setCell ⟨bb, 1, none⟩ (.pointer (some ⟨lb, 0, none⟩))).setCell ⟨bb, 3, none⟩ (.pointer (some ⟨mb, 0, none⟩))) := by
  have hok : d'.Ok := by obtain ⟨a, i, ls, hP⟩ := hp; exact hP.ok
  have hro : ROut w1 w2 rb rg d' := ⟨⟨rg', hs.D, hq⟩, k2⟩
  obtain ⟨rg9, k, _, hB⟩ := h.both h1 k1 hro hok
  obtain ⟨n1, n2, n3, n4, n5, n6, n7, n8⟩ := h.ne
  obtain ⟨l1, l2, l3, l4, l5⟩ := h.lt
  obtain ⟨b1, b2, b3, b4, b5, b6⟩ := h.bel
  have hz1 := k1.size
  have hz2 := k2.size
  have hll := hl.lt
  obtain ⟨f1, f2, f3, f4, f5, f6⟩ := hs.lt
  have hb := (hB.setCell (p := ⟨bb, 1, none⟩) k.bel.1 (.pointer (some ⟨lb, 0, none⟩))).setCell (p := ⟨bb, 3, none⟩) k.bel.1 (.pointer (some ⟨mb, 0, none⟩))
  have hpw := h.pow.on hb
  have hset : ∀ x, x ≠ bb → ((w2.setCell ⟨bb, 1, none⟩ (.pointer (some ⟨lb, 0, none⟩))).setCell ⟨bb, 3, none⟩ (.pointer (some ⟨mb, 0, none⟩))).heap[x]? = w2.heap[x]? := fun x hx => (Below.heap_setCell _ _ _ _ hx).trans (Below.heap_setCell _ _ _ _ hx)
  have R1 : rg' ≠ bb ∧ rg' ≠ db ∧ rg' ≠ m ∧ rg' ≠ lb ∧ rg' ≠ g := by
    rcases hq with rfl | rfl | hq
    · exact ⟨fun e => n4 e.symm, fun e => n6 e.symm, fun e => n8 e.symm, by omega, by omega⟩
    · exact ⟨fun e => n3 e.symm, fun e => n5 e.symm, fun e => n7 e.symm, by omega, by omega⟩
    · exact ⟨by omega, by omega, by omega, by omega, by omega⟩
  obtain ⟨r1, r2, r3, r4, r5⟩ := R1
  have hbg : B ≤ rg' := by omega
  refine ⟨⟨m, rg', .inr ⟨lb, g, mb, g2, ga, l, r, ⟨⟨?_, ?_, ?_, ?_, ?_, ?_, ?_, ?_, hpw, hok, ?_, ?_⟩, ?_, ?_, hp, ?_, ?_, ?_, ?_, ?_⟩⟩⟩, hb⟩
  · rw [World.cell?_setCell_other _ _ _ _ (by simp), World.cell?_setCell_other _ _ _ _ (by simp)]; exact k.c0
  · rw [World.cell?_setCell_other _ _ _ _ (by simp)]; exact World.cell?_setCell_same _ _ _ k.c1
  · rw [World.cell?_setCell_other _ _ _ _ (by simp), World.cell?_setCell_other _ _ _ _ (by simp)]; exact k.c2
  · exact World.cell?_setCell_same _ _ _ ((World.cell?_setCell_other _ _ _ _ (by simp)).trans k.c3)
  · rw [World.frozen?_setCell, World.frozen?_setCell]; exact k.f1
  · rw [World.frozen?_setCell, World.frozen?_setCell]; exact k.f3
  · exact DC.far (DC.far k.D (fun e => n1 e.symm) (fun e => n2 e.symm) _ _) (fun e => n1 e.symm) (fun e => n2 e.symm) _ _
  · exact (hs.D.far (fun e => n3 e.symm) r1 _ _).far (fun e => n3 e.symm) r1 _ _
  · exact ⟨n1, n2, n3, fun e => r1 e.symm, n5, fun e => r2 e.symm, n7, fun e => r3 e.symm⟩
  · have := k.bel.2.2.2.2.2; exact ⟨b1, b2, b3, b4, hbg, by simpa using this⟩
  · refine hl.ofb ?_ ?_ (by simpa using hz2) hpw
    · exact (hset lb (by omega)).trans (k2.block lb hll.1 (by omega) (by omega))
    · exact (hset g (by omega)).trans (k2.block g hll.2 (by omega) (by omega))
  · exact hs.of (hset mb (by omega)) (hset g2 (by omega)) (hset ga (by omega)) (hset rb (by omega)) (hset rg' (by omega)) (by simp)
  · exact ⟨by omega, by omega, fun e => r4 e.symm, by omega, by omega, by omega⟩
  · exact ⟨by omega, by omega, fun e => r5 e.symm, by omega, by omega, by omega⟩
  · exact ⟨by omega, by omega, by omega⟩
  · exact ⟨by omega, by omega, by omega⟩
  · exact ⟨by omega, by omega, by omega⟩
theorem ropen_eq {d : Dk} (hok : d.Ok) {seg : Nat} (h1 : 1 ≤ seg) (h2 : seg ≤ 65536) : (ropenW d seg).1 = (openW d seg).1 ∧ (ropenW d seg).2.1 = (openW d seg).2.1 := ⟨(open_same hok h1 h2).1, (open_same hok h1 h2).2.1⟩
theorem Dk.Ok.openW {d : Dk} (h : d.Ok) (seg : Nat) : (Go.Proofs.YtnpgjlhnlakgpaaGreatDoor.openW d seg).2.1.Ok := by
  unfold Go.Proofs.YtnpgjlhnlakgpaaGreatDoor.openW
  split
  · exact h
  · split
    · exact h
    · exact h.create _
    · unfold recW
      split
      · split
        · exact h
        · unfold mendW
          split
          · split
            · unfold syncW; split <;> exact (h.cut _ _).sync _
            · exact h.cut _ _
          · unfold syncW; split <;> exact h.sync _
      · exact h
set_option maxRecDepth 100000 in
set_option maxHeartbeats 8000000 in
theorem bopen_any (h : BK w B bb db m rb rg lv mv d) (hs : d.steps + 3 < 4611686018427387904) (seg : Int) :
    Calls Tryz.prog 7 #[.pointer (some ⟨bb, 0, none⟩), .int .i64 seg] w fun e w' => e = .returned (.bool true) ∧ ∃ d', Bth w' B bb db rb d' ∧ Below B w w' ∧ d'.steps ≤ d.steps + 3 := by
  have c0 := h.c0
  have c2 := h.c2
  have HK := Lib.hid h
  have hlt := h.lt
  have hne := h.ne
  by_cases hbad : seg < 1 ∨ 65536 < seg
  · have HO := Lib.hid (open_bad (w := w) (db := db) seg hbad)
    have HR := Lib.hid (ropen_bad (w := w) (rb := rb) seg hbad)
    have c1 := h.c1
    have c3 := h.c3
    have f1 := h.f1
    have f3 := h.f3
    have HX := Lib.hid (bk_closed h h.D (Kp.refl _ _ _) (ROut.same h.R (Kp.refl _ _ _)) h.ok)
    clear h hbad
    go_enter Tryz.func7, Tryz.ntmps7
    go_wp2_with (first
      | (go_at_call 17; refine HO.out.mono ?_; rintro e w1 ⟨rfl, hw1⟩; rw [hw1]; clear hw1)
      | (go_at_call 23; refine HR.out.mono ?_; rintro e w1 ⟨rfl, hw1⟩; rw [hw1]; clear hw1)
      | fail)
    go_ret
    exact ⟨rfl, d, HX.out.1, HX.out.2, by omega⟩
  · obtain ⟨sg, rfl⟩ : ∃ sg : Nat, seg = (sg : Int) := ⟨seg.toNat, by omega⟩
    have g1 : 1 ≤ sg := by omega
    have g2' : sg ≤ 65536 := by omega
    obtain ⟨b1, b2, b3, b4, b5, b6⟩ := h.bel
    have HO := Lib.hid (open_any h.D h.ok hs sg g1 g2' h.pow ⟨b2, b3, b6⟩)
    have HR := Lib.hid (show ∀ w1, RAt w1 rb rg d → w.heap.size ≤ w1.heap.size → _ from fun w1 hr hz => ropen_any (B := B) hr h.ok hs sg g1 g2' ⟨b4, Nat.le_trans b6 hz⟩)
    obtain ⟨e1, e2, e3⟩ := open_same h.ok g1 g2'
    have hst := openW_st d sg
    have hoo := h.ok.openW sg
    have HSM := Lib.hid e3
    unfold OpenPost at HO
    unfold ROpenPost at HR
    rw [e1, e2] at HR
    obtain ⟨D', hD'⟩ : ∃ D', (openW d sg).2.1 = D' := ⟨_, rfl⟩
    obtain ⟨E, hE⟩ : ∃ E, (openW d sg).1 = E := ⟨_, rfl⟩
    obtain ⟨l', hl'⟩ : ∃ l', (openW d sg).2.2 = l' := ⟨_, rfl⟩
    obtain ⟨r', hr'⟩ : ∃ r', (ropenW d sg).2.2 = r' := ⟨_, rfl⟩
    rw [hD', hE, hl'] at HO
    rw [hD', hE, hr'] at HR
    rw [hD', hE, hl', hr'] at HSM
    rw [hD'] at hst hoo
    have HST := Lib.hid (show D'.steps ≤ d.steps + 3 by omega)
    have HOO := Lib.hid hoo
    clear hbad hD' hE hl' hr' e1 e2 e3 hst hoo b1 b2 b3 b4 b5 b6
    by_cases hE0 : E = 0
    · subst hE0
      have HP := Lib.hid (HSM.out rfl)
      clear h
      go_enter Tryz.func7, Tryz.ntmps7
      go_wp2_with (first
        | (go_at_call 17; refine HO.out.mono ?_; rintro e w1 ⟨hd1, hk1, h3⟩; obtain ⟨-, lb, g, rfl, hl1, z1, z2⟩ := h3.resolve_right (fun q => q.1 rfl); have c12 := (hk1.cell hlt.1 hne.1 hne.2.1 2).trans c2; have HD1 := Lib.hid hd1; have HK1 := Lib.hid hk1; have HL1 := Lib.hid hl1; have HZ1 := Lib.hid (And.intro z1 z2); have HR1 := Lib.hid (HR.out w1 (HK.out.R.kept hk1 (fun e => hne.2.2.2.2.1 e.symm) (fun e => hne.2.2.2.2.2.2.1 e.symm) (fun e => hne.2.2.2.2.2.1 e.symm) (fun e => hne.2.2.2.2.2.2.2 e.symm)) hk1.size); clear hd1 hk1 hl1 h3 z1 z2)
        | (go_at_call 23; refine HR1.out.mono ?_; rintro e w2 ⟨rg', hq, hk2, h3⟩; obtain ⟨-, mb, g2, ga, rfl, hs2, y1, y2, y3⟩ := h3.resolve_right (fun q => q.1 rfl); have HX := Lib.hid (bl_opened HK.out HD1.out HK1.out HL1.out HZ1.out.1 HZ1.out.2 hq hk2 hs2 y1 y2 y3 HP.out); have hbb : w2.heap[bb]? = w.heap[bb]? := (hk2.block bb (Nat.lt_of_lt_of_le hlt.1 HK1.out.size) hne.2.2.1 hne.2.2.2.1).trans (HK1.out.block bb hlt.1 hne.1 hne.2.1); have c21 := (World.cell?_of_block (a := ⟨bb, 1, none⟩) hbb).trans HK.out.c1; have c23 := (World.cell?_of_block (a := ⟨bb, 3, none⟩) hbb).trans HK.out.c3; have f21 := (World.frozen?_of_block (a := ⟨bb, 1, none⟩) hbb).trans HK.out.f1; have f23 := (World.frozen?_of_block (a := ⟨bb, 3, none⟩) hbb).trans HK.out.f3; clear hq hk2 h3 hs2 y1 y2 y3 hbb)
        | fail)
      go_ret
      exact ⟨rfl, D', HX.out.1, HX.out.2, HST.out⟩
    · clear h
      go_enter Tryz.func7, Tryz.ntmps7
      go_wp2_with (first
        | (go_at_call 17; refine HO.out.mono ?_; rintro e w1 ⟨hd1, hk1, h3⟩; obtain ⟨-, rfl⟩ := h3.resolve_left (fun q => hE0 q.1); have c12 := (hk1.cell hlt.1 hne.1 hne.2.1 2).trans c2; have HD1 := Lib.hid hd1; have HK1 := Lib.hid hk1; have HR1 := Lib.hid (HR.out w1 (HK.out.R.kept hk1 (fun e => hne.2.2.2.2.1 e.symm) (fun e => hne.2.2.2.2.2.2.1 e.symm) (fun e => hne.2.2.2.2.2.1 e.symm) (fun e => hne.2.2.2.2.2.2.2 e.symm)) hk1.size); clear hd1 hk1 h3)
        | (go_at_call 23; refine HR1.out.mono ?_; rintro e w2 ⟨rg', hq, hk2, h3⟩; obtain ⟨-, rfl, hr2⟩ := h3.resolve_left (fun q => hE0 q.1); have HX := Lib.hid (bk_closed HK.out HD1.out HK1.out ⟨⟨rg', hr2, hq⟩, hk2⟩ HOO.out); have hbb : w2.heap[bb]? = w.heap[bb]? := (hk2.block bb (Nat.lt_of_lt_of_le hlt.1 HK1.out.size) hne.2.2.1 hne.2.2.2.1).trans (HK1.out.block bb hlt.1 hne.1 hne.2.1); have c21 := (World.cell?_of_block (a := ⟨bb, 1, none⟩) hbb).trans HK.out.c1; have c23 := (World.cell?_of_block (a := ⟨bb, 3, none⟩) hbb).trans HK.out.c3; have f21 := (World.frozen?_of_block (a := ⟨bb, 1, none⟩) hbb).trans HK.out.f1; have f23 := (World.frozen?_of_block (a := ⟨bb, 3, none⟩) hbb).trans HK.out.f3; clear hq hk2 h3 hr2 hbb)
        | fail)
      go_ret
      exact ⟨rfl, D', HX.out.1, HX.out.2, HST.out⟩
end
end Go.Proofs.YtnpgjlhnlakgpaaGreatDoor
namespace Go.Proofs.YtnpgjlhnlakgpaaGreatDoor
open Go.RowKit Go.Maps

theorem segs_few : ∀ (S : List (List (List UInt8))) (a : Nat) (d : Dk), Segs d a S → (∀ rs ∈ S.dropLast, 1 ≤ rs.length) → a + S.dropLast.flatten.length < 1000000000000 → S.length ≤ d.L.length
  | [], _, _, _, _, _ => Nat.zero_le _
  | [rs], a, d, h, _, _ => by
    obtain ⟨s, hs⟩ := h.1
    have := findF_mem hs
    cases hL : d.L with
    | nil => rw [hL] at this; cases this
    | cons x t => simp
  | rs :: q :: t, a, d, h, hp, hb => by
    obtain ⟨s, hs⟩ := h.1
    have hr := hp rs (by simp)
    have hdl : (rs :: q :: t).dropLast = rs :: (q :: t).dropLast := rfl
    rw [hdl, List.flatten_cons, List.length_append] at hb
    have hlt : (delF (nameL a) d.L).length < d.L.length := by
      unfold delF
      rw [List.length_filter_lt_length_iff_exists]
      exact ⟨_, findF_mem hs, by have := findF_key hs; simp [this]⟩
    have hS : Segs { d with L := delF (nameL a) d.L } (a + rs.length) (q :: t) := by
      have key : ∀ (T : List (List (List UInt8))) (b : Nat), a < b → (∀ x ∈ T.dropLast, 1 ≤ x.length) → b + T.dropLast.flatten.length < 1000000000000 → Segs d b T → Segs { d with L := delF (nameL a) d.L } b T := by
        intro T
        induction T with
        | nil => intro _ _ _ _ _; trivial
        | cons x T ih =>
          intro b hab hp2 hb2 hs2
          refine ⟨hs2.1.of (findF_del_other (fun e => ?_) _), ?_⟩
          · have := name_inj (by omega) (by omega) e
            omega
          · cases T with
            | nil => trivial
            | cons y T =>
              have hx := hp2 x (by simp)
              have e : (x :: y :: T).dropLast = x :: (y :: T).dropLast := rfl
              rw [e, List.flatten_cons, List.length_append] at hb2
              exact ih (b + x.length) (by omega) (fun z hz => hp2 z (by rw [e]; simp [hz])) (by omega) hs2.2
      exact key (q :: t) (a + rs.length) (by omega) (fun x hx => hp x (by rw [hdl]; simp [hx])) (by omega) h.2
    have ih := segs_few (q :: t) (a + rs.length) { d with L := delF (nameL a) d.L } hS (fun x hx => hp x (by rw [hdl]; simp [hx])) (by omega)
    simp only [List.length_cons] at ih ⊢
    have : (delF (nameL a) d.L).length < d.L.length := hlt
    show t.length + 1 + 1 ≤ d.L.length
    have ih2 : t.length + 1 ≤ (delF (nameL a) d.L).length := ih
    omega
theorem Pin.few {d : Dk} {l : Lg} {r : Rg} {a : Nat} {init : List (List (List UInt8))} {lst : List (List UInt8)} (h : Pin d l r a init lst) : l.nums.length ≤ 64 := by
  have hq := h.qmax
  have h1 := segs_few (init ++ [lst]) a d ((Segs.app init [lst]).2 ⟨h.segs, h.lastf, trivial⟩) (by rw [List.dropLast_concat]; exact h.pos) (by rw [List.dropLast_concat]; omega)
  have h2 := h.ok.many
  rw [h.nums, List.length_append, numsOf_len]
  rw [List.length_append] at h1
  simp only [List.length_singleton] at h1 ⊢
  omega
section
variable {w : World} {B bb db m rb rg lb g mb g2 ga : Nat} {d : Dk} {l : Lg} {r : Rg} {lv mv : Value}
set_option maxRecDepth 100000 in
set_option maxHeartbeats 4000000 in
theorem read_bad {n : Int} (h : LgW w B lb db m g l) (ho : l.Ok) (hn : n < (l.first : Int) ∨ (l.next : Int) < n) :
    Calls Tryz.prog 36 #[.pointer (some ⟨lb, 0, none⟩), .int .i64 n] w fun e w' => e = .returned (.tuple #[.slice none 0 0, .int .i64 1]) ∧ Below w.heap.size w w' := by
  have hWB := (Below.refl w.heap.size w).alloc (Nat.le_refl _) (.cells #[.int .i64 n] 3)
  have hz1 : (w.alloc (.cells #[.int .i64 n] 3)).heap.size = w.heap.size + 1 := by simp
  have hfr := Boxed.new w 3 (.int .i64 n)
  have HL1 := Lib.hid (h.below hWB)
  have HO := Lib.hid ho
  have HN := Lib.hid hn
  clear h ho
  refine (callsIn_wide (n := 5)).1 ?_
  refine callsIn_of_wp_marks Tryz.func36 rfl trivial ?_ rfl
  simp only [Tryz.ntmps36, List.size_toArray, List.length_cons, List.length_nil, Nat.reduceAdd, Nat.reduceSub, Array.replicate_succ, Array.replicate_zero, List.push_toArray, List.append_toArray, List.nil_append, List.cons_append]
  gi_upto_region 1 with fail
  generalize w.alloc (.cells #[.int .i64 n] 3) = w1 at *
  have hz1' : w.heap.size < w1.heap.size := by omega
  clear hz1
  have hgn := GW.ne (Inv := fun W => Below w1.heap.size w1 W) (Below.refl _ w1)
  have b0 : ∀ u : GW (fun W => Below w1.heap.size w1 W), u.w.cell? ⟨w.heap.size, 0, none⟩ = some (.int .i64 n) := fun u => (u.h.cell (p := ⟨w.heap.size, 0, none⟩) (by show w.heap.size < _; omega)).trans hfr.cell
  have b4 : ∀ u : GW (fun W => Below w1.heap.size w1 W), u.w.cell? ⟨lb, 4, none⟩ = some (.int .i64 (l.next : Int)) := fun u => (HL1.out.below u.h).c4
  have HFI : Hid (∀ u : GW (fun W => Below w1.heap.size w1 W), Calls Tryz.prog 18 #[.pointer (some ⟨lb, 0, none⟩)] u.w fun e w' => e = .returned (.int .i64 (l.first : Int)) ∧ Below u.w.heap.size u.w w') := fun u => (first_any (HL1.out.below u.h) HO.out).mono fun e w' ⟨h1, h2⟩ => ⟨h1, by rw [h2]; exact Below.refl _ _⟩
  obtain ⟨LF, hLF⟩ : ∃ LF : Int, (l.first : Int) = LF := ⟨_, rfl⟩
  obtain ⟨NX, hNX⟩ : ∃ NX : Int, (l.next : Int) = NX := ⟨_, rfl⟩
  rw [hLF] at hn HFI
  rw [hNX] at b4 hn
  clear hLF hNX HN
  by_cases h1 : n < LF
  · have d1 : decide (n < LF) = true := decide_eq_true h1
    refine wpIn_wide.2 ?_
    refine wp_region_grow (fun W => Below w1.heap.size w1 W) (by kernel_rfl) (by kernel_rfl) (Below.refl _ _).drew ?_
    repeat (go_big_quiet_step ((go_at_call 18; refine (HFI.out _).mono ?_; rintro e w1 ⟨rfl, hb⟩; exact ⟨rfl, below_next _ hb⟩)))
    refine wpQuiet_nil ?_
    intro w2 hw'
    obtain ⟨⟨wx2, h2'⟩, hw''⟩ := hw'
    subst hw''
    have HB2 := Lib.hid (hWB.trans (h2'.mono (by omega)))
    clear hgn b0 b4 HFI
    gi_wp2
    refine leaves_marks (fun W => Below w.heap.size w W) w.heap.size (fun D W hD hi hK => hi.trans (belowK_b (w := w) (Nat.le_refl _) W D _ _ hD hK rfl rfl)) [] _ List.nodup_nil (by simp) (by simp) HB2.out (fun w9 hw9 => ?_)
    exact ⟨.tuple #[.slice none 0 0, .int .i64 1], by simp [results, Tryz.results36, go_sem], rfl, hw9⟩
  · have h2 : NX < n := by omega
    have d1 : decide (n < LF) = false := decide_eq_false h1
    have d2 : decide (NX < n) = true := decide_eq_true h2
    refine wpIn_wide.2 ?_
    refine wp_region_grow (fun W => Below w1.heap.size w1 W) (by kernel_rfl) (by kernel_rfl) (Below.refl _ _).drew ?_
    repeat (go_big_quiet_step ((go_at_call 18; refine (HFI.out _).mono ?_; rintro e w1 ⟨rfl, hb⟩; exact ⟨rfl, below_next _ hb⟩)))
    refine wpQuiet_nil ?_
    intro w2 hw'
    obtain ⟨⟨wx2, h2'⟩, hw''⟩ := hw'
    subst hw''
    have HB2 := Lib.hid (hWB.trans (h2'.mono (by omega)))
    clear hgn b0 b4 HFI
    gi_wp2
    refine leaves_marks (fun W => Below w.heap.size w W) w.heap.size (fun D W hD hi hK => hi.trans (belowK_b (w := w) (Nat.le_refl _) W D _ _ hD hK rfl rfl)) [] _ List.nodup_nil (by simp) (by simp) HB2.out (fun w9 hw9 => ?_)
    exact ⟨.tuple #[.slice none 0 0, .int .i64 1], by simp [results, Tryz.results36, go_sem], rfl, hw9⟩
/-- What lies by the document's log is not touched by the program's. -/
theorem BL.skl {w1 : World} (h : BL w B bb db m rb rg lb g mb g2 ga d l r) (k : KL lb db m g w w1) : RgS w1 B mb rb rg g2 ga r d := by
  obtain ⟨l1, l2, l3, l4, l5⟩ := h.K.lt
  obtain ⟨m1, m2, m3, m4, m5⟩ := h.lt
  obtain ⟨n1, n2, n3, n4, n5, n6, n7, n8⟩ := h.K.ne
  obtain ⟨p1, p2, p3, p4, p5, p6⟩ := h.n1
  obtain ⟨q1, q2, q3, q4, q5, q6⟩ := h.n2
  obtain ⟨t1, t2, t3⟩ := h.n4
  obtain ⟨u1, u2, u3⟩ := h.n5
  exact h.S.of (k.block mb m3 (fun e => p4 e.symm) (fun e => t1 e.symm) (fun e => u1 e.symm) (fun e => q4 e.symm)) (k.block g2 m4 (fun e => p5 e.symm) (fun e => t2 e.symm) (fun e => u2 e.symm) (fun e => q5 e.symm)) (k.block ga m5 (fun e => p6 e.symm) (fun e => t3 e.symm) (fun e => u3 e.symm) (fun e => q6 e.symm))
    (k.block rb l4 (fun e => p2 e.symm) (fun e => n5 e.symm) (fun e => n7 e.symm) (fun e => q2 e.symm)) (k.block rg l5 (fun e => p3 e.symm) (fun e => n6 e.symm) (fun e => n8 e.symm) (fun e => q3 e.symm)) k.size
/-- A power that is armed. -/
theorem Dk.arm_L (d : Dk) (n : Int) : (d.arm n).L = d.L ∧ (d.arm n).steps = d.steps := by unfold Dk.arm; split <;> exact ⟨rfl, rfl⟩
theorem BL.armed {w1 w2 : World} {d' : Dk} (h : BL w B bb db m rb rg lb g mb g2 ga d l r) (h1 : DAt w1 db m d') (k1 : Kp db m w w1) (h2 : ROut w1 w2 rb rg d') (hok : d'.Ok) (hL : d'.L = d.L) : Bth w2 B bb db rb d' ∧ Below B w w2 := by
  have hs1 := h.skl (KL.of_kp (lb := lb) (g := g) k1)
  obtain ⟨rg', s2, e1, k2⟩ := hs1.rout h2
  obtain ⟨rg9, g29, ga9, hb, hB⟩ := h.both h1 (h.L.kp k1) (KL.of_kp k1) (.inl rfl) ⟨rg', g2, ga, s2, k2, e1, .inl rfl, .inl rfl⟩ (by obtain ⟨a, i, ls, hP⟩ := h.P; exact ⟨a, i, ls, hP.gone' hL hok⟩)
  exact ⟨⟨_, _, .inr ⟨_, _, _, _, _, _, _, hb⟩⟩, hB⟩
end
end Go.Proofs.YtnpgjlhnlakgpaaGreatDoor

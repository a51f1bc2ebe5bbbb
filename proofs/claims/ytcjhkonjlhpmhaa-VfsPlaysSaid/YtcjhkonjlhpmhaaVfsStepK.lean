/- The contract of the law's step: a call of both disks (printed by gen_step.py). -/
import Derived.Test.YtcjhkonjlhpmhaaVfsLCr
import Derived.Test.YtcjhkonjlhpmhaaVfsDoes
import Derived.Test.YtcjhkonjlhpmhaaVfsPlayed
import Derived.Test.YtcjhkonjlhpmhaaKeep
import Derived.Deep.RegionHeld3
namespace Go.Proofs.Ytcjhkonjlhpmhaa
open Go.RowKit Go.Maps

/-- w' is w but for the blocks b, m, r, g, and new ones. -/
structure K4 (b m r g : Nat) (w w' : World) : Prop where
  os : w'.os = w.os
  tape : w'.tape = w.tape
  output : w'.output = w.output
  size : w.heap.size ≤ w'.heap.size
  block : ∀ k, k < w.heap.size → k ≠ b → k ≠ m → k ≠ r → k ≠ g → w'.heap[k]? = w.heap[k]?
theorem K4.of1 {b m r g : Nat} {w w' : World} (h : Kp b m w w') : K4 b m r g w w' := ⟨h.os, h.tape, h.output, h.size, fun k hk h1 h2 _ _ => h.block k hk h1 h2⟩
theorem K4.of2 {b m r g : Nat} {w w' : World} (h : Kp r g w w') : K4 b m r g w w' := ⟨h.os, h.tape, h.output, h.size, fun k hk _ _ h1 h2 => h.block k hk h1 h2⟩
theorem K4.trans {b m r g g' : Nat} {x y z : World} (h : K4 b m r g x y) (k : K4 b m r g' y z) (hg : g' = g ∨ g' = r ∨ x.heap.size ≤ g') : K4 b m r g x z :=
  ⟨k.os.trans h.os, k.tape.trans h.tape, k.output.trans h.output, Nat.le_trans h.size k.size, fun i hi h1 h2 h3 h4 =>
    (k.block i (Nat.lt_of_lt_of_le hi h.size) h1 h2 h3 (by rcases hg with rfl | rfl | hg <;> first | exact h4 | exact h3 | omega)).trans (h.block i hi h1 h2 h3 h4)⟩
theorem K4.tr {b m r g : Nat} {x y z : World} (h : K4 b m r g x y) (k : K4 b m r g y z) : K4 b m r g x z := h.trans k (.inl rfl)
theorem K4.of_below {b m r g : Nat} {w w' : World} (h : Below w.heap.size w w') : K4 b m r g w w' := K4.of1 (Kp.of_below h)
theorem K4.cell {b m r g : Nat} {w w' : World} (h : K4 b m r g w w') {k : Nat} (hk : k < w.heap.size) (h1 : k ≠ b) (h2 : k ≠ m) (h3 : k ≠ r) (h4 : k ≠ g) (o : Nat) : w'.cell? ⟨k, o, none⟩ = w.cell? ⟨k, o, none⟩ :=
  World.cell?_of_block (w := w) (h.block k hk h1 h2 h3 h4)
/-- What a call of both makes of the disk. -/
def stepD (d : Dk) (o : Opn) : Dk := if o.kind = 9 then d.arm o.n else if o.kind = 10 then d.crash o.keep o.turn else (doesD d o).2
theorem Dk.Ok.stepD {d : Dk} (h : d.Ok) (o : Opn) (hn : o.n < 9223372036854775808) : (stepD d o).Ok := by
  unfold Go.Proofs.Ytcjhkonjlhpmhaa.stepD
  split
  · exact h.arm hn
  split
  · exact h.crash _ _
  · exact h.does o
theorem stepD_steps {d : Dk} (o : Opn) : (stepD d o).steps ≤ d.steps + 1 := by
  unfold stepD
  split
  · unfold Dk.arm; split <;> exact Nat.le_succ _
  split
  · exact Nat.le_succ _
  · exact does_steps o
/-- Both disks stand as d, in blocks of their own. -/
structure Both (w : World) (b m r g : Nat) (d : Dk) : Prop where
  D : DAt w b m d
  R : RAt w r g d
  br : b ≠ r
  bg : b ≠ g
  mr : m ≠ r
  mg : m ≠ g
/-- What step leaves. -/
def SOut (w w' : World) (b m r g : Nat) (d : Dk) : Prop := ∃ g', Both w' b m r g' d ∧ (g' = g ∨ g' = r ∨ w.heap.size ≤ g') ∧ K4 b m r g w w'
theorem Both.lt {w : World} {b m r g : Nat} {d : Dk} (h : Both w b m r g d) : b < w.heap.size ∧ m < w.heap.size ∧ r < w.heap.size ∧ g < w.heap.size := ⟨h.D.lt, h.D.ltm, h.R.lt, h.R.ltg.1⟩
theorem Both.below {w w' : World} {b m r g : Nat} {d : Dk} (h : Both w b m r g d) (hb : Below w.heap.size w w') : Both w' b m r g d := ⟨h.D.below hb, h.R.below hb, h.br, h.bg, h.mr, h.mg⟩
/-- A call of each. -/
theorem Both.two {w w1 w2 : World} {b m r g : Nat} {d d' : Dk} (h : Both w b m r g d) (h1 : DAt w1 b m d') (hk : Kp b m w w1) (h2 : ROut w1 w2 r g d') : SOut w w2 b m r g d' := by
  obtain ⟨⟨g', hr, hg⟩, hk2⟩ := h2
  have hlt := h.lt
  have hz := hk.size
  have hbg : b ≠ g' := by rcases hg with rfl | rfl | hg <;> first | exact h.bg | exact h.br | omega
  have hmg : m ≠ g' := by rcases hg with rfl | rfl | hg <;> first | exact h.mg | exact h.mr | omega
  exact ⟨g', ⟨h1.kept hk2 h.br h.bg h.mr h.mg, hr, h.br, hbg, h.mr, hmg⟩, by omega, (K4.of1 hk).tr (K4.of2 hk2)⟩
theorem SOut.from {w w0 w' : World} {b m r g : Nat} {d : Dk} (hb : Below w.heap.size w w0) (h : SOut w0 w' b m r g d) : SOut w w' b m r g d := by
  obtain ⟨g', h1, h2, h3⟩ := h
  have hz := hb.size
  exact ⟨g', h1, by omega, (K4.of_below hb).tr h3⟩
theorem op_box (w : World) (kind on on2 : Int) (nm dt : ByteArray) (kv tv : Value) (t : TypeId) : ∀ j, (w.alloc (.cells #[.int .i64 kind, .int .i64 on, .int .i64 on2, .string nm, .string dt, kv, tv] t)).cell? ⟨w.heap.size, j, none⟩ = (#[.int .i64 kind, .int .i64 on, .int .i64 on2, .string nm, .string dt, kv, tv] : Array Value)[j]? := fun _ => World.cell?_alloc_new _ _ _ _

set_option maxRecDepth 100000 in
set_option maxHeartbeats 8000000 in
theorem step_k1 {w : World} {b m r g : Nat} {d : Dk} (h : Both w b m r g d) (hok : d.Ok) (hs : d.steps < 4611686018427387904) (on on2 : Int) (nm dt : ByteArray) (kp : Option Addr) (kn kc : Nat) (tp : Option Addr) (tn tc : Nat) (hn : nm.size ≤ maxLen) (hdt : dt.size ≤ maxLen) (hon : on2 ≤ 9223372036854775807) :
    Calls Try.prog 31 #[.pointer (some ⟨b, 0, none⟩), .pointer (some ⟨r, 0, none⟩), .agg #[.int .i64 1, .int .i64 on, .int .i64 on2, .string nm, .string dt, .slice kp kn kc, .slice tp tn tc]] w fun e w' => e = .returned (.bool true) ∧ SOut w w' b m r g ((d.create nm).2) := by
  have hB0 := (Below.refl w.heap.size w).alloc (Nat.le_refl _) (.cells #[.int .i64 1, .int .i64 on, .int .i64 on2, .string nm, .string dt, .slice kp kn kc, .slice tp tn tc] 49)
  have hca := op_box w 1 on on2 nm dt (.slice kp kn kc) (.slice tp tn tc) 49
  have hz0 : w.heap.size < (w.alloc (.cells #[.int .i64 1, .int .i64 on, .int .i64 on2, .string nm, .string dt, .slice kp kn kc, .slice tp tn tc] 49)).heap.size := by simp
  have hlt := h.lt
  go_enter Try.func31, Try.ntmps31
  go_upto_region 1 with fail
  generalize w.alloc (.cells #[.int .i64 1, .int .i64 on, .int .i64 on2, .string nm, .string dt, .slice kp kn kc, .slice tp tn tc] 49) = wa at *
  have z0 : wa.cell? ⟨w.heap.size, 0, none⟩ = some (.int .i64 1) := hca 0
  have z2 : wa.cell? ⟨w.heap.size, 2, none⟩ = some (.int .i64 on2) := hca 2
  have z3 : wa.cell? ⟨w.heap.size, 3, none⟩ = some (.string nm) := hca 3
  have z4 : wa.cell? ⟨w.heap.size, 4, none⟩ = some (.string dt) := hca 4
  have HBA := Lib.hid (h.below hB0)
  have HB0 := Lib.hid hB0
  have HOK := Lib.hid hok
  have HS := Lib.hid hs
  have HN := Lib.hid hn
  have HDT := Lib.hid hdt
  have HON := Lib.hid hon
  clear hca hB0 h hok hs hn hdt hon
  have HP1 := Lib.hid (show ∀ wx, DAt wx b m d → Calls Try.prog 11 #[.pointer (some ⟨b, 0, none⟩), .string nm] wx fun e w' => e = .returned (.int .i64 (d.create nm).1) ∧ DAt w' b m (d.create nm).2 ∧ Kp b m wx w' from fun wx h => create_any h HOK.out HS.out HN.out)
  have HP2 := Lib.hid (show ∀ wx, RAt wx r g d → Calls Try.prog 42 #[.pointer (some ⟨r, 0, none⟩), .string nm] wx fun e w' => e = .returned (.int .i64 (d.create nm).1) ∧ ROut wx w' r g (d.create nm).2 from fun wx h => ref_create h HOK.out HS.out nm HN.out)
  generalize (d.create nm).1 = rc at *
  have HDW := Lib.hid (show DAt wa.drew b m d from HBA.out.D.drew)
  go_upto_region 3 with fail
  go_region_held3 (fun w' => ∀ j, w'.cell? ⟨w.heap.size, j, none⟩ = wa.cell? ⟨w.heap.size, j, none⟩) ((first | assumption | (intro j; rfl)))
    (first
      | (go_at_call 11; (with_reducible refine (HP1.out _ HDW.out).mono ?_); rintro e w5 ⟨rfl, hd5, hk5⟩; have k5 : ∀ j, w5.cell? ⟨w.heap.size, j, none⟩ = wa.cell? ⟨w.heap.size, j, none⟩ := fun j => (hk5.cell hz0 (by omega) (by omega) j).trans rfl; have HD5 := Lib.hid hd5; have HK5 := Lib.hid hk5; have HR5 := Lib.hid (HBA.out.R.drew.kept hk5 HBA.out.br.symm HBA.out.mr.symm HBA.out.bg.symm HBA.out.mg.symm); have hz5 : wa.heap.size ≤ w5.heap.size := hk5.size; clear hd5 hk5)
      | (go_at_call 42; (with_reducible refine (HP2.out _ HR5.out).mono ?_); rintro e w6 ⟨rfl, ho6⟩; have k6 : ∀ j, w6.cell? ⟨w.heap.size, j, none⟩ = wa.cell? ⟨w.heap.size, j, none⟩ := fun j => (ho6.2.cell (by omega) (by omega) (by omega) j).trans (k5 j); have HO6 := Lib.hid ho6; clear ho6))
  go_wp2_with fail
  go_ret
  exact ⟨by simp, SOut.from HB0.out (Both.two HBA.out HD5.out ((Kp.refl _ _ _).drew.trans HK5.out) HO6.out)⟩
set_option maxRecDepth 100000 in
set_option maxHeartbeats 8000000 in
theorem step_k2 {w : World} {b m r g : Nat} {d : Dk} (h : Both w b m r g d) (hok : d.Ok) (hs : d.steps < 4611686018427387904) (on on2 : Int) (nm dt : ByteArray) (kp : Option Addr) (kn kc : Nat) (tp : Option Addr) (tn tc : Nat) (hn : nm.size ≤ maxLen) (hdt : dt.size ≤ maxLen) (hon : on2 ≤ 9223372036854775807) :
    Calls Try.prog 31 #[.pointer (some ⟨b, 0, none⟩), .pointer (some ⟨r, 0, none⟩), .agg #[.int .i64 2, .int .i64 on, .int .i64 on2, .string nm, .string dt, .slice kp kn kc, .slice tp tn tc]] w fun e w' => e = .returned (.bool true) ∧ SOut w w' b m r g ((d.append nm dt).2) := by
  have hB0 := (Below.refl w.heap.size w).alloc (Nat.le_refl _) (.cells #[.int .i64 2, .int .i64 on, .int .i64 on2, .string nm, .string dt, .slice kp kn kc, .slice tp tn tc] 49)
  have hca := op_box w 2 on on2 nm dt (.slice kp kn kc) (.slice tp tn tc) 49
  have hz0 : w.heap.size < (w.alloc (.cells #[.int .i64 2, .int .i64 on, .int .i64 on2, .string nm, .string dt, .slice kp kn kc, .slice tp tn tc] 49)).heap.size := by simp
  have hlt := h.lt
  go_enter Try.func31, Try.ntmps31
  go_upto_region 1 with fail
  generalize w.alloc (.cells #[.int .i64 2, .int .i64 on, .int .i64 on2, .string nm, .string dt, .slice kp kn kc, .slice tp tn tc] 49) = wa at *
  have z0 : wa.cell? ⟨w.heap.size, 0, none⟩ = some (.int .i64 2) := hca 0
  have z2 : wa.cell? ⟨w.heap.size, 2, none⟩ = some (.int .i64 on2) := hca 2
  have z3 : wa.cell? ⟨w.heap.size, 3, none⟩ = some (.string nm) := hca 3
  have z4 : wa.cell? ⟨w.heap.size, 4, none⟩ = some (.string dt) := hca 4
  have HBA := Lib.hid (h.below hB0)
  have HB0 := Lib.hid hB0
  have HOK := Lib.hid hok
  have HS := Lib.hid hs
  have HN := Lib.hid hn
  have HDT := Lib.hid hdt
  have HON := Lib.hid hon
  clear hca hB0 h hok hs hn hdt hon
  have HP1 := Lib.hid (show ∀ wx, DAt wx b m d → Calls Try.prog 12 #[.pointer (some ⟨b, 0, none⟩), .string nm, .string dt] wx fun e w' => e = .returned (.int .i64 (d.append nm dt).1) ∧ DAt w' b m (d.append nm dt).2 ∧ Kp b m wx w' from fun wx h => append_any h HOK.out HS.out HN.out HDT.out)
  have HP2 := Lib.hid (show ∀ wx, RAt wx r g d → Calls Try.prog 43 #[.pointer (some ⟨r, 0, none⟩), .string nm, .string dt] wx fun e w' => e = .returned (.int .i64 (d.append nm dt).1) ∧ ROut wx w' r g (d.append nm dt).2 from fun wx h => ref_append h HOK.out HS.out nm dt HDT.out)
  generalize (d.append nm dt).1 = rc at *
  have HDW := Lib.hid (show DAt wa.drew b m d from HBA.out.D.drew)
  go_upto_region 5 with fail
  go_region_held3 (fun w' => ∀ j, w'.cell? ⟨w.heap.size, j, none⟩ = wa.cell? ⟨w.heap.size, j, none⟩) ((first | assumption | (intro j; rfl)))
    (first
      | (go_at_call 12; (with_reducible refine (HP1.out _ HDW.out).mono ?_); rintro e w5 ⟨rfl, hd5, hk5⟩; have k5 : ∀ j, w5.cell? ⟨w.heap.size, j, none⟩ = wa.cell? ⟨w.heap.size, j, none⟩ := fun j => (hk5.cell hz0 (by omega) (by omega) j).trans rfl; have HD5 := Lib.hid hd5; have HK5 := Lib.hid hk5; have HR5 := Lib.hid (HBA.out.R.drew.kept hk5 HBA.out.br.symm HBA.out.mr.symm HBA.out.bg.symm HBA.out.mg.symm); have hz5 : wa.heap.size ≤ w5.heap.size := hk5.size; clear hd5 hk5)
      | (go_at_call 43; (with_reducible refine (HP2.out _ HR5.out).mono ?_); rintro e w6 ⟨rfl, ho6⟩; have k6 : ∀ j, w6.cell? ⟨w.heap.size, j, none⟩ = wa.cell? ⟨w.heap.size, j, none⟩ := fun j => (ho6.2.cell (by omega) (by omega) (by omega) j).trans (k5 j); have HO6 := Lib.hid ho6; clear ho6))
  go_wp2_with fail
  go_ret
  exact ⟨by simp, SOut.from HB0.out (Both.two HBA.out HD5.out ((Kp.refl _ _ _).drew.trans HK5.out) HO6.out)⟩
set_option maxRecDepth 100000 in
set_option maxHeartbeats 8000000 in
theorem step_k3 {w : World} {b m r g : Nat} {d : Dk} (h : Both w b m r g d) (hok : d.Ok) (hs : d.steps < 4611686018427387904) (on on2 : Int) (nm dt : ByteArray) (kp : Option Addr) (kn kc : Nat) (tp : Option Addr) (tn tc : Nat) (hn : nm.size ≤ maxLen) (hdt : dt.size ≤ maxLen) (hon : on2 ≤ 9223372036854775807) :
    Calls Try.prog 31 #[.pointer (some ⟨b, 0, none⟩), .pointer (some ⟨r, 0, none⟩), .agg #[.int .i64 3, .int .i64 on, .int .i64 on2, .string nm, .string dt, .slice kp kn kc, .slice tp tn tc]] w fun e w' => e = .returned (.bool true) ∧ SOut w w' b m r g ((d.sync nm).2) := by
  have hB0 := (Below.refl w.heap.size w).alloc (Nat.le_refl _) (.cells #[.int .i64 3, .int .i64 on, .int .i64 on2, .string nm, .string dt, .slice kp kn kc, .slice tp tn tc] 49)
  have hca := op_box w 3 on on2 nm dt (.slice kp kn kc) (.slice tp tn tc) 49
  have hz0 : w.heap.size < (w.alloc (.cells #[.int .i64 3, .int .i64 on, .int .i64 on2, .string nm, .string dt, .slice kp kn kc, .slice tp tn tc] 49)).heap.size := by simp
  have hlt := h.lt
  go_enter Try.func31, Try.ntmps31
  go_upto_region 1 with fail
  generalize w.alloc (.cells #[.int .i64 3, .int .i64 on, .int .i64 on2, .string nm, .string dt, .slice kp kn kc, .slice tp tn tc] 49) = wa at *
  have z0 : wa.cell? ⟨w.heap.size, 0, none⟩ = some (.int .i64 3) := hca 0
  have z2 : wa.cell? ⟨w.heap.size, 2, none⟩ = some (.int .i64 on2) := hca 2
  have z3 : wa.cell? ⟨w.heap.size, 3, none⟩ = some (.string nm) := hca 3
  have z4 : wa.cell? ⟨w.heap.size, 4, none⟩ = some (.string dt) := hca 4
  have HBA := Lib.hid (h.below hB0)
  have HB0 := Lib.hid hB0
  have HOK := Lib.hid hok
  have HS := Lib.hid hs
  have HN := Lib.hid hn
  have HDT := Lib.hid hdt
  have HON := Lib.hid hon
  clear hca hB0 h hok hs hn hdt hon
  have HP1 := Lib.hid (show ∀ wx, DAt wx b m d → Calls Try.prog 13 #[.pointer (some ⟨b, 0, none⟩), .string nm] wx fun e w' => e = .returned (.int .i64 (d.sync nm).1) ∧ DAt w' b m (d.sync nm).2 ∧ Kp b m wx w' from fun wx h => sync_any h HOK.out HS.out HN.out)
  have HP2 := Lib.hid (show ∀ wx, RAt wx r g d → Calls Try.prog 44 #[.pointer (some ⟨r, 0, none⟩), .string nm] wx fun e w' => e = .returned (.int .i64 (d.sync nm).1) ∧ ROut wx w' r g (d.sync nm).2 from fun wx h => ref_sync h HOK.out HS.out nm)
  generalize (d.sync nm).1 = rc at *
  have HDW := Lib.hid (show DAt wa.drew b m d from HBA.out.D.drew)
  go_upto_region 7 with fail
  go_region_held3 (fun w' => ∀ j, w'.cell? ⟨w.heap.size, j, none⟩ = wa.cell? ⟨w.heap.size, j, none⟩) ((first | assumption | (intro j; rfl)))
    (first
      | (go_at_call 13; (with_reducible refine (HP1.out _ HDW.out).mono ?_); rintro e w5 ⟨rfl, hd5, hk5⟩; have k5 : ∀ j, w5.cell? ⟨w.heap.size, j, none⟩ = wa.cell? ⟨w.heap.size, j, none⟩ := fun j => (hk5.cell hz0 (by omega) (by omega) j).trans rfl; have HD5 := Lib.hid hd5; have HK5 := Lib.hid hk5; have HR5 := Lib.hid (HBA.out.R.drew.kept hk5 HBA.out.br.symm HBA.out.mr.symm HBA.out.bg.symm HBA.out.mg.symm); have hz5 : wa.heap.size ≤ w5.heap.size := hk5.size; clear hd5 hk5)
      | (go_at_call 44; (with_reducible refine (HP2.out _ HR5.out).mono ?_); rintro e w6 ⟨rfl, ho6⟩; have k6 : ∀ j, w6.cell? ⟨w.heap.size, j, none⟩ = wa.cell? ⟨w.heap.size, j, none⟩ := fun j => (ho6.2.cell (by omega) (by omega) (by omega) j).trans (k5 j); have HO6 := Lib.hid ho6; clear ho6))
  go_wp2_with fail
  go_ret
  exact ⟨by simp, SOut.from HB0.out (Both.two HBA.out HD5.out ((Kp.refl _ _ _).drew.trans HK5.out) HO6.out)⟩
set_option maxRecDepth 100000 in
set_option maxHeartbeats 8000000 in
theorem step_k4 {w : World} {b m r g : Nat} {d : Dk} (h : Both w b m r g d) (hok : d.Ok) (hs : d.steps < 4611686018427387904) (on on2 : Int) (nm dt : ByteArray) (kp : Option Addr) (kn kc : Nat) (tp : Option Addr) (tn tc : Nat) (hn : nm.size ≤ maxLen) (hdt : dt.size ≤ maxLen) (hon : on2 ≤ 9223372036854775807) :
    Calls Try.prog 31 #[.pointer (some ⟨b, 0, none⟩), .pointer (some ⟨r, 0, none⟩), .agg #[.int .i64 4, .int .i64 on, .int .i64 on2, .string nm, .string dt, .slice kp kn kc, .slice tp tn tc]] w fun e w' => e = .returned (.bool true) ∧ SOut w w' b m r g ((d.cut nm on2).2) := by
  have hB0 := (Below.refl w.heap.size w).alloc (Nat.le_refl _) (.cells #[.int .i64 4, .int .i64 on, .int .i64 on2, .string nm, .string dt, .slice kp kn kc, .slice tp tn tc] 49)
  have hca := op_box w 4 on on2 nm dt (.slice kp kn kc) (.slice tp tn tc) 49
  have hz0 : w.heap.size < (w.alloc (.cells #[.int .i64 4, .int .i64 on, .int .i64 on2, .string nm, .string dt, .slice kp kn kc, .slice tp tn tc] 49)).heap.size := by simp
  have hlt := h.lt
  go_enter Try.func31, Try.ntmps31
  go_upto_region 1 with fail
  generalize w.alloc (.cells #[.int .i64 4, .int .i64 on, .int .i64 on2, .string nm, .string dt, .slice kp kn kc, .slice tp tn tc] 49) = wa at *
  have z0 : wa.cell? ⟨w.heap.size, 0, none⟩ = some (.int .i64 4) := hca 0
  have z2 : wa.cell? ⟨w.heap.size, 2, none⟩ = some (.int .i64 on2) := hca 2
  have z3 : wa.cell? ⟨w.heap.size, 3, none⟩ = some (.string nm) := hca 3
  have z4 : wa.cell? ⟨w.heap.size, 4, none⟩ = some (.string dt) := hca 4
  have HBA := Lib.hid (h.below hB0)
  have HB0 := Lib.hid hB0
  have HOK := Lib.hid hok
  have HS := Lib.hid hs
  have HN := Lib.hid hn
  have HDT := Lib.hid hdt
  have HON := Lib.hid hon
  clear hca hB0 h hok hs hn hdt hon
  have HP1 := Lib.hid (show ∀ wx, DAt wx b m d → Calls Try.prog 39 #[.pointer (some ⟨b, 0, none⟩), .string nm, .int .i64 on2] wx fun e w' => e = .returned (.int .i64 (d.cut nm on2).1) ∧ DAt w' b m (d.cut nm on2).2 ∧ Kp b m wx w' from fun wx h => cut_any h HOK.out HS.out HN.out on2)
  have HP2 := Lib.hid (show ∀ wx, RAt wx r g d → Calls Try.prog 45 #[.pointer (some ⟨r, 0, none⟩), .string nm, .int .i64 on2] wx fun e w' => e = .returned (.int .i64 (d.cut nm on2).1) ∧ ROut wx w' r g (d.cut nm on2).2 from fun wx h => ref_cut h HOK.out HS.out nm on2 HON.out)
  generalize (d.cut nm on2).1 = rc at *
  have HDW := Lib.hid (show DAt wa.drew b m d from HBA.out.D.drew)
  go_upto_region 9 with fail
  go_region_held3 (fun w' => ∀ j, w'.cell? ⟨w.heap.size, j, none⟩ = wa.cell? ⟨w.heap.size, j, none⟩) ((first | assumption | (intro j; rfl)))
    (first
      | (go_at_call 39; (with_reducible refine (HP1.out _ HDW.out).mono ?_); rintro e w5 ⟨rfl, hd5, hk5⟩; have k5 : ∀ j, w5.cell? ⟨w.heap.size, j, none⟩ = wa.cell? ⟨w.heap.size, j, none⟩ := fun j => (hk5.cell hz0 (by omega) (by omega) j).trans rfl; have HD5 := Lib.hid hd5; have HK5 := Lib.hid hk5; have HR5 := Lib.hid (HBA.out.R.drew.kept hk5 HBA.out.br.symm HBA.out.mr.symm HBA.out.bg.symm HBA.out.mg.symm); have hz5 : wa.heap.size ≤ w5.heap.size := hk5.size; clear hd5 hk5)
      | (go_at_call 45; (with_reducible refine (HP2.out _ HR5.out).mono ?_); rintro e w6 ⟨rfl, ho6⟩; have k6 : ∀ j, w6.cell? ⟨w.heap.size, j, none⟩ = wa.cell? ⟨w.heap.size, j, none⟩ := fun j => (ho6.2.cell (by omega) (by omega) (by omega) j).trans (k5 j); have HO6 := Lib.hid ho6; clear ho6))
  go_wp2_with fail
  go_ret
  exact ⟨by simp, SOut.from HB0.out (Both.two HBA.out HD5.out ((Kp.refl _ _ _).drew.trans HK5.out) HO6.out)⟩
set_option maxRecDepth 100000 in
set_option maxHeartbeats 8000000 in
theorem step_k5 {w : World} {b m r g : Nat} {d : Dk} (h : Both w b m r g d) (hok : d.Ok) (hs : d.steps < 4611686018427387904) (on on2 : Int) (nm dt : ByteArray) (kp : Option Addr) (kn kc : Nat) (tp : Option Addr) (tn tc : Nat) (hn : nm.size ≤ maxLen) (hdt : dt.size ≤ maxLen) (hon : on2 ≤ 9223372036854775807) :
    Calls Try.prog 31 #[.pointer (some ⟨b, 0, none⟩), .pointer (some ⟨r, 0, none⟩), .agg #[.int .i64 5, .int .i64 on, .int .i64 on2, .string nm, .string dt, .slice kp kn kc, .slice tp tn tc]] w fun e w' => e = .returned (.bool true) ∧ SOut w w' b m r g ((d.rename nm dt).2) := by
  have hB0 := (Below.refl w.heap.size w).alloc (Nat.le_refl _) (.cells #[.int .i64 5, .int .i64 on, .int .i64 on2, .string nm, .string dt, .slice kp kn kc, .slice tp tn tc] 49)
  have hca := op_box w 5 on on2 nm dt (.slice kp kn kc) (.slice tp tn tc) 49
  have hz0 : w.heap.size < (w.alloc (.cells #[.int .i64 5, .int .i64 on, .int .i64 on2, .string nm, .string dt, .slice kp kn kc, .slice tp tn tc] 49)).heap.size := by simp
  have hlt := h.lt
  go_enter Try.func31, Try.ntmps31
  go_upto_region 1 with fail
  generalize w.alloc (.cells #[.int .i64 5, .int .i64 on, .int .i64 on2, .string nm, .string dt, .slice kp kn kc, .slice tp tn tc] 49) = wa at *
  have z0 : wa.cell? ⟨w.heap.size, 0, none⟩ = some (.int .i64 5) := hca 0
  have z2 : wa.cell? ⟨w.heap.size, 2, none⟩ = some (.int .i64 on2) := hca 2
  have z3 : wa.cell? ⟨w.heap.size, 3, none⟩ = some (.string nm) := hca 3
  have z4 : wa.cell? ⟨w.heap.size, 4, none⟩ = some (.string dt) := hca 4
  have HBA := Lib.hid (h.below hB0)
  have HB0 := Lib.hid hB0
  have HOK := Lib.hid hok
  have HS := Lib.hid hs
  have HN := Lib.hid hn
  have HDT := Lib.hid hdt
  have HON := Lib.hid hon
  clear hca hB0 h hok hs hn hdt hon
  have HP1 := Lib.hid (show ∀ wx, DAt wx b m d → Calls Try.prog 16 #[.pointer (some ⟨b, 0, none⟩), .string nm, .string dt] wx fun e w' => e = .returned (.int .i64 (d.rename nm dt).1) ∧ DAt w' b m (d.rename nm dt).2 ∧ Kp b m wx w' from fun wx h => rename_any h HOK.out HS.out HN.out HDT.out)
  have HP2 := Lib.hid (show ∀ wx, RAt wx r g d → Calls Try.prog 46 #[.pointer (some ⟨r, 0, none⟩), .string nm, .string dt] wx fun e w' => e = .returned (.int .i64 (d.rename nm dt).1) ∧ ROut wx w' r g (d.rename nm dt).2 from fun wx h => ref_rename h HOK.out HS.out nm dt HDT.out)
  generalize (d.rename nm dt).1 = rc at *
  have HDW := Lib.hid (show DAt wa.drew b m d from HBA.out.D.drew)
  go_upto_region 11 with fail
  go_region_held3 (fun w' => ∀ j, w'.cell? ⟨w.heap.size, j, none⟩ = wa.cell? ⟨w.heap.size, j, none⟩) ((first | assumption | (intro j; rfl)))
    (first
      | (go_at_call 16; (with_reducible refine (HP1.out _ HDW.out).mono ?_); rintro e w5 ⟨rfl, hd5, hk5⟩; have k5 : ∀ j, w5.cell? ⟨w.heap.size, j, none⟩ = wa.cell? ⟨w.heap.size, j, none⟩ := fun j => (hk5.cell hz0 (by omega) (by omega) j).trans rfl; have HD5 := Lib.hid hd5; have HK5 := Lib.hid hk5; have HR5 := Lib.hid (HBA.out.R.drew.kept hk5 HBA.out.br.symm HBA.out.mr.symm HBA.out.bg.symm HBA.out.mg.symm); have hz5 : wa.heap.size ≤ w5.heap.size := hk5.size; clear hd5 hk5)
      | (go_at_call 46; (with_reducible refine (HP2.out _ HR5.out).mono ?_); rintro e w6 ⟨rfl, ho6⟩; have k6 : ∀ j, w6.cell? ⟨w.heap.size, j, none⟩ = wa.cell? ⟨w.heap.size, j, none⟩ := fun j => (ho6.2.cell (by omega) (by omega) (by omega) j).trans (k5 j); have HO6 := Lib.hid ho6; clear ho6))
  go_wp2_with fail
  go_ret
  exact ⟨by simp, SOut.from HB0.out (Both.two HBA.out HD5.out ((Kp.refl _ _ _).drew.trans HK5.out) HO6.out)⟩
set_option maxRecDepth 100000 in
set_option maxHeartbeats 8000000 in
theorem step_k6 {w : World} {b m r g : Nat} {d : Dk} (h : Both w b m r g d) (hok : d.Ok) (hs : d.steps < 4611686018427387904) (on on2 : Int) (nm dt : ByteArray) (kp : Option Addr) (kn kc : Nat) (tp : Option Addr) (tn tc : Nat) (hn : nm.size ≤ maxLen) (hdt : dt.size ≤ maxLen) (hon : on2 ≤ 9223372036854775807) :
    Calls Try.prog 31 #[.pointer (some ⟨b, 0, none⟩), .pointer (some ⟨r, 0, none⟩), .agg #[.int .i64 6, .int .i64 on, .int .i64 on2, .string nm, .string dt, .slice kp kn kc, .slice tp tn tc]] w fun e w' => e = .returned (.bool true) ∧ SOut w w' b m r g ((d.remove nm).2) := by
  have hB0 := (Below.refl w.heap.size w).alloc (Nat.le_refl _) (.cells #[.int .i64 6, .int .i64 on, .int .i64 on2, .string nm, .string dt, .slice kp kn kc, .slice tp tn tc] 49)
  have hca := op_box w 6 on on2 nm dt (.slice kp kn kc) (.slice tp tn tc) 49
  have hz0 : w.heap.size < (w.alloc (.cells #[.int .i64 6, .int .i64 on, .int .i64 on2, .string nm, .string dt, .slice kp kn kc, .slice tp tn tc] 49)).heap.size := by simp
  have hlt := h.lt
  go_enter Try.func31, Try.ntmps31
  go_upto_region 1 with fail
  generalize w.alloc (.cells #[.int .i64 6, .int .i64 on, .int .i64 on2, .string nm, .string dt, .slice kp kn kc, .slice tp tn tc] 49) = wa at *
  have z0 : wa.cell? ⟨w.heap.size, 0, none⟩ = some (.int .i64 6) := hca 0
  have z2 : wa.cell? ⟨w.heap.size, 2, none⟩ = some (.int .i64 on2) := hca 2
  have z3 : wa.cell? ⟨w.heap.size, 3, none⟩ = some (.string nm) := hca 3
  have z4 : wa.cell? ⟨w.heap.size, 4, none⟩ = some (.string dt) := hca 4
  have HBA := Lib.hid (h.below hB0)
  have HB0 := Lib.hid hB0
  have HOK := Lib.hid hok
  have HS := Lib.hid hs
  have HN := Lib.hid hn
  have HDT := Lib.hid hdt
  have HON := Lib.hid hon
  clear hca hB0 h hok hs hn hdt hon
  have HP1 := Lib.hid (show ∀ wx, DAt wx b m d → Calls Try.prog 40 #[.pointer (some ⟨b, 0, none⟩), .string nm] wx fun e w' => e = .returned (.int .i64 (d.remove nm).1) ∧ DAt w' b m (d.remove nm).2 ∧ Kp b m wx w' from fun wx h => remove_any h HOK.out HS.out HN.out)
  have HP2 := Lib.hid (show ∀ wx, RAt wx r g d → Calls Try.prog 47 #[.pointer (some ⟨r, 0, none⟩), .string nm] wx fun e w' => e = .returned (.int .i64 (d.remove nm).1) ∧ ROut wx w' r g (d.remove nm).2 from fun wx h => ref_remove h HOK.out HS.out nm)
  generalize (d.remove nm).1 = rc at *
  have HDW := Lib.hid (show DAt wa.drew b m d from HBA.out.D.drew)
  go_upto_region 13 with fail
  go_region_held3 (fun w' => ∀ j, w'.cell? ⟨w.heap.size, j, none⟩ = wa.cell? ⟨w.heap.size, j, none⟩) ((first | assumption | (intro j; rfl)))
    (first
      | (go_at_call 40; (with_reducible refine (HP1.out _ HDW.out).mono ?_); rintro e w5 ⟨rfl, hd5, hk5⟩; have k5 : ∀ j, w5.cell? ⟨w.heap.size, j, none⟩ = wa.cell? ⟨w.heap.size, j, none⟩ := fun j => (hk5.cell hz0 (by omega) (by omega) j).trans rfl; have HD5 := Lib.hid hd5; have HK5 := Lib.hid hk5; have HR5 := Lib.hid (HBA.out.R.drew.kept hk5 HBA.out.br.symm HBA.out.mr.symm HBA.out.bg.symm HBA.out.mg.symm); have hz5 : wa.heap.size ≤ w5.heap.size := hk5.size; clear hd5 hk5)
      | (go_at_call 47; (with_reducible refine (HP2.out _ HR5.out).mono ?_); rintro e w6 ⟨rfl, ho6⟩; have k6 : ∀ j, w6.cell? ⟨w.heap.size, j, none⟩ = wa.cell? ⟨w.heap.size, j, none⟩ := fun j => (ho6.2.cell (by omega) (by omega) (by omega) j).trans (k5 j); have HO6 := Lib.hid ho6; clear ho6))
  go_wp2_with fail
  go_ret
  exact ⟨by simp, SOut.from HB0.out (Both.two HBA.out HD5.out ((Kp.refl _ _ _).drew.trans HK5.out) HO6.out)⟩
end Go.Proofs.Ytcjhkonjlhpmhaa

/- Open of any disk. -/
import Derived.Test.YtnpgjlhnlakgpaaGreatDoorWalRc
import Derived.Test.YtnpgjlhnlakgpaaGreatDoorWalNb
import Derived.Test.YtnpgjlhnlakgpaaGreatDoorWalOn
namespace Go.Proofs.YtnpgjlhnlakgpaaGreatDoor
open Go.RowKit Go.Maps

theorem valB_lt (l : List UInt8) (h : l.all digB = true) : valB l < 10 ^ l.length := by
  have : ∀ (n : Nat), n ≤ l.length → valB (l.take n) < 10 ^ n := by
    intro n
    induction n with
    | zero => intro _; exact (show (0 : Nat) < 1 by decide)
    | succ n ih =>
      intro hn
      have h1 := ih (by omega)
      obtain ⟨c, hc⟩ : ∃ c, l[n]? = some c := ⟨_, List.getElem?_eq_getElem (by omega)⟩
      have h2 := (valB_take hc).1
      have h3 := List.all_eq_true.1 h c (List.mem_of_getElem? hc)
      simp [digB] at h3
      rw [h2, Nat.pow_succ]
      omega
  have := this l.length (Nat.le_refl _)
  rwa [List.take_length] at this
theorem numK_bd {k : List UInt8} {n : Nat} (h : numK k = some n) : 0 < n ∧ n < 1000000000000 := by
  unfold numK at h
  split at h
  · rename_i h1
    split at h
    · rename_i h2
      split at h
      · rename_i h3
        cases h
        refine ⟨h3, ?_⟩
        have := valB_lt _ h2
        rw [h1] at this
        exact this
      · cases h
    · cases h
  · cases h
theorem numsL_bd : ∀ (L : List Fl) (ns : List Nat), numsL L = some ns → ∀ n ∈ ns, 0 < n ∧ n < 1000000000000
  | [], ns, h => by cases h; intro n hn; cases hn
  | f :: r, ns, h => by
    unfold numsL at h
    split at h
    · split at h
      · cases h
      · rename_i m hm
        cases hr : numsL r with
        | none => rw [hr] at h; cases h
        | some t =>
          rw [hr] at h
          cases h
          intro n hn
          rcases List.mem_cons.1 hn with rfl | hn
          · exact numK_bd hm
          · exact numsL_bd r t hr n hn
    · exact numsL_bd r ns h
theorem numsL_drop {L : List Fl} {i : Nat} {f : Fl} (h : L[i]? = some f) : numsL (L.drop i) = if Lib.hasPrefix f.key preL then match numK f.key with
      | none => none
      | some n => (numsL (L.drop (i + 1))).map (n :: ·)
    else numsL (L.drop (i + 1)) := by
  have hd : L.drop i = f :: L.drop (i + 1) := by
    have hl := (List.getElem?_eq_some_iff.1 h).1
    rw [← List.getElem_cons_drop hl]
    congr 1
    rw [List.getElem?_eq_getElem hl] at h
    exact Option.some.inj h
  rw [hd]
  rfl

/-- A log's block while it is opened. -/
structure Lb (w : World) (lb db seg : Nat) (v : Value) (nx : Nat) : Prop where
  c0 : w.cell? ⟨lb, 0, none⟩ = some (.pointer (some ⟨db, 0, none⟩))
  c1 : w.cell? ⟨lb, 1, none⟩ = some (.int .i64 (seg : Int))
  c2 : w.cell? ⟨lb, 2, none⟩ = some v
  c3 : w.cell? ⟨lb, 3, none⟩ = some (.int .i64 0)
  c4 : w.cell? ⟨lb, 4, none⟩ = some (.int .i64 (nx : Int))
  c5 : w.cell? ⟨lb, 5, none⟩ = some (.int .i64 0)
  f : ∀ o, w.frozen? ⟨lb, o, none⟩ = false
section
variable {w w' : World} {lb db seg nx : Nat} {v : Value}
theorem Lb.of_block (h : Lb w lb db seg v nx) (hb : w'.heap[lb]? = w.heap[lb]?) : Lb w' lb db seg v nx := by
  have c : ∀ o, w'.cell? ⟨lb, o, none⟩ = w.cell? ⟨lb, o, none⟩ := fun o => World.cell?_of_block hb
  have f : ∀ o, w'.frozen? ⟨lb, o, none⟩ = w.frozen? ⟨lb, o, none⟩ := fun o => World.frozen?_of_block hb
  exact ⟨(c 0).trans h.c0, (c 1).trans h.c1, (c 2).trans h.c2, (c 3).trans h.c3, (c 4).trans h.c4, (c 5).trans h.c5, fun o => (f o).trans (h.f o)⟩
theorem Lb.lt (h : Lb w lb db seg v nx) : lb < w.heap.size := World.block_lt_of_cell? w _ h.c0
theorem Lb.below {B : Nat} (h : Lb w lb db seg v nx) (hb : Below B w w') (hB : lb < B) : Lb w' lb db seg v nx := h.of_block (hb.block lb hB)
theorem Lb.kp {b m : Nat} (h : Lb w lb db seg v nx) (hb : Kp b m w w') (h1 : lb ≠ b) (h2 : lb ≠ m) : Lb w' lb db seg v nx := h.of_block (hb.block lb h.lt h1 h2)
theorem Lb.new (w : World) (db seg : Nat) (v : Value) (T : TypeId) : Lb (w.alloc (.cells #[.pointer (some ⟨db, 0, none⟩), .int .i64 (seg : Int), v, .int .i64 0, .int .i64 0, .int .i64 0] T)) w.heap.size db seg v 0 :=
  ⟨World.cell?_alloc_new .., World.cell?_alloc_new .., World.cell?_alloc_new .., World.cell?_alloc_new .., World.cell?_alloc_new .., World.cell?_alloc_new .., fun _ => World.frozen?_alloc_new ..⟩
theorem Lb.set2 (h : Lb w lb db seg v nx) (u : Value) : Lb (w.setCell ⟨lb, 2, none⟩ u) lb db seg u nx := by
  have c : ∀ o, o ≠ 2 → (w.setCell ⟨lb, 2, none⟩ u).cell? ⟨lb, o, none⟩ = w.cell? ⟨lb, o, none⟩ := fun o ho => World.cell?_setCell_other _ _ _ _ (fun e => ho (by cases e; rfl))
  exact ⟨(c 0 (by decide)).trans h.c0, (c 1 (by decide)).trans h.c1, World.cell?_setCell_same _ _ _ h.c2, (c 3 (by decide)).trans h.c3, (c 4 (by decide)).trans h.c4, (c 5 (by decide)).trans h.c5, fun o => by rw [World.frozen?_setCell]; exact h.f o⟩
theorem Lb.set4 (h : Lb w lb db seg v nx) (u : Nat) : Lb (w.setCell ⟨lb, 4, none⟩ (.int .i64 (u : Int))) lb db seg v u := by
  have c : ∀ o, o ≠ 4 → (w.setCell ⟨lb, 4, none⟩ (.int .i64 (u : Int))).cell? ⟨lb, o, none⟩ = w.cell? ⟨lb, o, none⟩ := fun o ho => World.cell?_setCell_other _ _ _ _ (fun e => ho (by cases e; rfl))
  exact ⟨(c 0 (by decide)).trans h.c0, (c 1 (by decide)).trans h.c1, (c 2 (by decide)).trans h.c2, (c 3 (by decide)).trans h.c3, World.cell?_setCell_same _ _ _ h.c4, (c 5 (by decide)).trans h.c5, fun o => by rw [World.frozen?_setCell]; exact h.f o⟩
theorem Lb.lg {B m g o cap : Nat} {nums : List Nat} (h : Lb w lb db seg (.slice (some ⟨g, o, none⟩) nums.length cap) nx) (hn : NumAt w g o cap nums) (ne : lb ≠ db ∧ lb ≠ m ∧ g ≠ db ∧ g ≠ m ∧ g ≠ lb) (hb : B ≤ lb ∧ B ≤ db ∧ B ≤ m ∧ B ≤ g ∧ B ≤ w.heap.size) (hp : PowB B w) : LgW w B lb db m g ⟨seg, nums, 0, nx, 0⟩ :=
  ⟨h.c0, h.c1, ⟨o, cap, h.c2, hn⟩, h.c3, h.c4, h.c5, h.f 2, h.f 3, h.f 4, h.f 5, ne, hb, hp⟩
end
theorem owns_num {w : World} {B : Nat} {v : Value} {nums : List Nat} (h : w.ownsRow B 3 1 v nums.length (numVals nums)) (hz : nums ≠ []) : ∃ g cap, v = .slice (some ⟨g, 0, none⟩) nums.length cap ∧ NumAt w g 0 cap nums ∧ B ≤ g := by
  rcases h.2 with ⟨_, h0⟩ | ⟨g, cap, cur, hv, hb, hh, hle, hmx, hs, ht⟩
  · exact absurd (List.eq_nil_of_length_eq_zero h0) hz
  · refine ⟨g, cap, hv, ⟨⟨_, hh⟩, fun i n hi => ?_, fun i hi => ⟨?_, ?_⟩, hle, by rw [Nat.zero_add]; exact hmx⟩, hb⟩
    · rw [Nat.zero_add]
      unfold World.cell?
      rw [hh]
      show cur[i]? = _
      have hil := (List.getElem?_eq_some_iff.1 hi).1
      have h1 : cur.toList[i]? = (numVals nums)[i]? := by rw [← ht, List.getElem?_take_of_lt (by omega)]
      rw [← Array.getElem?_toList, h1]
      simp [numVals, hi]
    · rw [Nat.zero_add]
      unfold World.cell?
      rw [hh]
      show (cur[i]?).isSome = true
      rw [Array.getElem?_eq_getElem (by omega)]
      rfl
    · rw [Nat.zero_add]
      simp [World.frozen?, hh]
theorem KL.to_kp {lb db m g : Nat} {w0 w w' : World} (h0 : Kp db m w0 w) (h : KL lb db m g w w') (h1 : w0.heap.size ≤ lb) (h2 : w0.heap.size ≤ g) : Kp db m w0 w' :=
  ⟨h.os.trans h0.os, h.tape.trans h0.tape, h.output.trans h0.output, Nat.le_trans h0.size h.size, fun k hk a b => (h.block k (Nat.lt_of_lt_of_le hk h0.size) (by omega) a b (by omega)).trans (h0.block k hk a b)⟩

set_option maxHeartbeats 4000000 in
theorem list_any {d : Dk} {w : World} {b m : Nat} (h : DAt w b m d) (hok : d.Ok) (ho : d.off = false) :
    Calls Tryz.prog 45 #[.pointer (some ⟨b, 0, none⟩)] w fun e w' => ∃ p cp, e = .returned (.tuple #[.slice p d.L.length cp, .int .i64 0]) ∧ w'.ownsRow w.heap.size 9 1 (.slice p d.L.length cp) d.L.length (nameVals d.L) ∧ Below w.heap.size w w' := by
  have H := Lib.hid h
  have c3 := h.c3
  rw [ho] at c3
  obtain ⟨N, hN⟩ : ∃ N, d.L.length = N := ⟨_, rfl⟩
  rw [hN]
  have HN := Lib.hid hN
  clear h hN
  go_enter Tryz.func45, Tryz.ntmps45
  go_wp2_with fail
  refine (names_any sortC H.out hok).mono ?_
  rintro e w1 ⟨v, rfl, hrow, hB⟩
  have HB := Lib.hid hB
  rw [HN.out] at hrow
  obtain ⟨p, cp, hv⟩ := owns_sl2 hrow
  subst hv
  have HR := Lib.hid hrow
  clear hrow hB
  go_wp2_with fail
  go_ret2
  exact ⟨p, cp, rfl, HR.out, HB.out⟩
set_option maxHeartbeats 4000000 in
theorem list_off {d : Dk} {w : World} {b m : Nat} (h : DAt w b m d) (ho : d.off = true) :
    Calls Tryz.prog 45 #[.pointer (some ⟨b, 0, none⟩)] w fun e w' => e = .returned (.tuple #[.slice none 0 0, .int .i64 143]) ∧ w' = w := by
  have c3 := h.c3
  rw [ho] at c3
  clear h
  go_enter Tryz.func45, Tryz.ntmps45
  go_wp2_with fail
  go_ret2
  exact ⟨rfl, rfl⟩
/-- The names looked at so far. -/
structure OpI (lb db seg : Nat) (W : World) (L : List Fl) (i : Nat) (nums : List Nat) (v : Value) (wr : World) : Prop where
  l : Lb wr lb db seg v 0
  row : wr.ownsRow (lb + 1) 3 1 v nums.length (numVals nums)
  bel : Below lb W wr
  num : numsL L = (numsL (L.drop i)).map (nums ++ ·)
  len : nums.length ≤ i
theorem row_cell {w : World} {B N g i : Nat} {cn : Nat} {L : List Fl} {f : Fl} (h : w.ownsRow B 9 1 (.slice (some ⟨g, 0, none⟩) N cn) N (nameVals L)) (hf : L[i]? = some f) : w.cell? ⟨g, i, none⟩ = some (.string f.name) := by
  have := h.cells (g := g) rfl i (.string f.name) (by simp [nameVals, hf])
  rwa [Lib.add_plain, Nat.zero_add] at this
theorem row_some {w : World} {B N cn : Nat} {p : Option Addr} {L : List Fl} (h : w.ownsRow B 9 1 (.slice p N cn) N (nameVals L)) (hN : 0 < N) : ∃ g, p = some ⟨g, 0, none⟩ := by
  rcases h.2 with ⟨_, h0⟩ | ⟨g, cap, cur, hv, _⟩
  · omega
  · cases hv; exact ⟨g, rfl⟩
/-- What Open answers. -/
def OpenPost (w0 : World) (B db m : Nat) (R : Int × Dk × Lg) (e : Ending) (w' : World) : Prop :=
  DAt w' db m R.2.1 ∧ Kp db m w0 w' ∧
    ((R.1 = 0 ∧ ∃ lb g, e = .returned (.tuple #[.pointer (some ⟨lb, 0, none⟩), .int .i64 0]) ∧ LgW w' B lb db m g R.2.2 ∧ w0.heap.size ≤ lb ∧ w0.heap.size ≤ g) ∨
      (R.1 ≠ 0 ∧ e = .returned (.tuple #[.pointer none, .int .i64 R.1])))
theorem open_off {w : World} {B db m : Nat} {d : Dk} (h : DAt w db m d) (ho : d.off = true) (seg : Nat) (h1 : 1 ≤ seg) (h2 : seg ≤ 65536) :
    Calls Tryz.prog 17 #[.pointer (some ⟨db, 0, none⟩), .int .i64 (seg : Int)] w (OpenPost w B db m (openW d seg)) := by
  have HE : Hid (openW d seg = (143, d, ⟨seg, [], 0, 0, 0⟩)) := by show _ = _; unfold openW; rw [if_pos ho]
  have HL := Lib.hid (list_off h ho)
  have HD := Lib.hid h
  have n1 : ¬ (seg : Int) < 1 := by omega
  have n2 : ¬ (65536 : Int) < (seg : Int) := by omega
  clear h ho
  go_enter Tryz.func17, Tryz.ntmps17
  go_wp2_with (first
    | (go_at_call 45; refine HL.out.mono ?_; rintro e w1 ⟨rfl, hw1⟩; rw [hw1]; clear hw1)
    | fail)
  go_ret2
  unfold OpenPost
  rw [HE.out]
  exact ⟨HD.out, Kp.refl _ _ _, .inr ⟨show (143 : Int) ≠ 0 by decide, rfl⟩⟩
set_option maxRecDepth 100000 in
set_option maxHeartbeats 16000000 in
theorem open_on {w : World} {B db m : Nat} {d : Dk} (h : DAt w db m d) (hok : d.Ok) (hs : d.steps + 3 < 4611686018427387904) (ho : d.off = false) (seg : Nat) (h1 : 1 ≤ seg) (h2 : seg ≤ 65536) (hp : PowB B w) (hb : B ≤ db ∧ B ≤ m ∧ B ≤ w.heap.size) :
    Calls Tryz.prog 17 #[.pointer (some ⟨db, 0, none⟩), .int .i64 (seg : Int)] w (OpenPost w B db m (openW d seg)) := by
  obtain ⟨i0, hi0', hz0', hz1', hz2'⟩ := info_parts i64cell
  have HLI := Lib.hid (list_any h hok ho)
  have hNM : (nameN 1).size ≤ maxLen := by rw [nameN_size]; unfold maxLen; decide
  have HNM := Lib.hid (show ∀ W, Pow W → Calls Tryz.prog 48 #[.int .i64 1] W fun e w' => e = .returned (.string (nameN 1)) ∧ Below W.heap.size W w' from fun W hP => name_any 1 (by decide) (by decide) W hP)
  have HCR := Lib.hid (show ∀ wx, DAt wx db m d → Calls Tryz.prog 28 #[.pointer (some ⟨db, 0, none⟩), .string (nameN 1)] wx fun e w' => e = .returned (.int .i64 (d.create (nameN 1)).1) ∧ DAt w' db m (d.create (nameN 1)).2 ∧ Kp db m wx w' from fun wx h => create_any h hok (by omega) hNM)
  have hRR : openW d seg = match numsL d.L with
    | none => (150, d, ⟨seg, [], 0, 0, 0⟩)
    | some [] => ((d.create (nameN 1)).1, (d.create (nameN 1)).2, ⟨seg, [1], 0, 1, 0⟩)
    | some (n :: t) => recW d seg (n :: t) := by
    unfold openW
    rw [if_neg (by rw [ho]; decide)]
    rfl
  obtain ⟨RR, hR⟩ : ∃ RR, openW d seg = RR := ⟨_, rfl⟩
  rw [hR] at hRR ⊢
  obtain ⟨S, hS⟩ : ∃ S, nameN 1 = S := ⟨_, rfl⟩
  rw [hS] at HCR hRR
  rw [hS] at HNM
  obtain ⟨D2, hD2⟩ : ∃ D2, (d.create S).2 = D2 := ⟨_, rfl⟩
  obtain ⟨E2, hE2⟩ : ∃ E2, (d.create S).1 = E2 := ⟨_, rfl⟩
  rw [hD2, hE2] at HCR hRR
  have HRR := Lib.hid hRR
  obtain ⟨N, hN⟩ : ∃ N, d.L.length = N := ⟨_, rfl⟩
  have hN64 := hok.many
  rw [hN] at HLI hN64
  have HN := Lib.hid hN
  have HREC : Hid (∀ (wx : World) (lb g : Nat) (n : Nat) (t : List Nat), numsL d.L = some (n :: t) → LgW wx B lb db m g ⟨seg, n :: t, 0, 0, 0⟩ → DAt wx db m d →
      Calls Tryz.prog 49 #[.pointer (some ⟨lb, 0, none⟩)] wx fun e w' => e = .returned (.int .i64 RR.1) ∧ (RR.1 = 0 → LgW w' B lb db m g RR.2.2) ∧ DAt w' db m RR.2.1 ∧ KL lb db m g wx w') := fun wx lb g n t hn hl hd => by
    have h3 := recover_gen hl hd hok (by omega) (List.cons_ne_nil _ _) (numsL_bd _ _ hn) ⟨h1, h2⟩
    rw [hn] at hRR
    simp only at hRR
    rw [← hRR] at h3
    exact h3
  have HD := Lib.hid h
  have HP := Lib.hid hp
  have hdl := h.lt
  have hml := h.ltm
  have n1 : ¬ (seg : Int) < 1 := by omega
  have n2 : ¬ (65536 : Int) < (seg : Int) := by omega
  obtain ⟨b1, b2, b3⟩ := hb
  clear h hok hs hRR hS hNM hD2 hE2 ho hR hN hp
  go_enter Tryz.func17, Tryz.ntmps17
  go_wp2_with (first
    | (go_at_call 45; refine HLI.out.mono ?_; rintro e w1 ⟨pn, cn, rfl, hrow, hb⟩; have HB1 := Lib.hid hb; have HRW := Lib.hid hrow; clear hb hrow)
    | fail)
  have hz1 := HB1.out.size
  have HL0 := Lib.hid (Lb.new w1 db seg (.slice none 0 0) 86)
  have HBW : Hid (Below w1.heap.size w1 (w1.alloc (.cells #[.pointer (some ⟨db, 0, none⟩), .int .i64 (seg : Int), .slice none 0 0, .int .i64 0, .int .i64 0, .int .i64 0] 86))) := (Below.refl _ _).alloc (Nat.le_refl _) _
  obtain ⟨lb, hlb⟩ : ∃ lb, w1.heap.size = lb := ⟨_, rfl⟩
  have hrl : ∀ k, (Value.slice pn N cn).ownBlock = some k → w.heap.size ≤ k ∧ k < lb := by rw [← hlb]; exact HRW.out.lt
  have hbl : lb ≠ db ∧ lb ≠ m ∧ w.heap.size ≤ lb := by omega
  rw [hlb] at HL0 HBW ⊢
  have HLB := Lib.hid hlb
  clear hlb
  generalize w1.alloc (.cells #[.pointer (some ⟨db, 0, none⟩), .int .i64 (seg : Int), .slice none 0 0, .int .i64 0, .int .i64 0, .int .i64 0] 86) = W at *
  have HN1 := Lib.hid hz1
  clear n1 n2
  go_loopw [39] (fun iv wr => ∃ (i : Nat) (nums : List Nat) (v : Value), i ≤ N ∧ iv = .int .i64 (i : Int) ∧ OpI lb db seg W d.L i nums v wr) (fun iv _ => N - (intOf iv).toNat)
  case atStart => exact ⟨0, [], _, Nat.zero_le _, rfl, ⟨HL0.out, World.ownsRow_nil _ _ _ _, Below.refl _ _, by rw [List.drop_zero]; cases numsL d.L <;> rfl, Nat.le_refl _⟩⟩
  case round =>
    obtain ⟨i, nums, v, hi, rfl, hI⟩ := hrel
    have HI := Lib.hid hI
    have HALL : Hid (Below w.heap.size w wr) := HB1.out.trans ((HBW.out.trans hI.bel).mono hbl.2.2)
    have hlr := hI.l.lt
    obtain ⟨pv, cv, hv⟩ := owns_sl2 hI.row
    subst hv
    have c2 := hI.l.c2
    have hle := hI.len
    clear hI
    by_cases hlt : i < N
    · have hli : (i : Int) < (N : Int) := by omega
      have hl0 : (0 : Int) ≤ (i : Int) := by omega
      obtain ⟨f, hf⟩ : ∃ f, d.L[i]? = some f := ⟨d.L[i]'(by rw [HN.out]; exact hlt), List.getElem?_eq_getElem _⟩
      obtain ⟨gn, rfl⟩ := row_some HRW.out (by omega)
      have hgn := hrl gn rfl
      have a0 : wr.cell? ⟨gn, i, none⟩ = some (.string f.name) := (HI.out.bel.cell (p := ⟨gn, i, none⟩) hgn.2).trans ((HBW.out.cell (p := ⟨gn, i, none⟩) hgn.2).trans (row_cell HRW.out hf))
      have hDR := numsL_drop hf
      have HPX := Lib.hid (fun W => Tryz.strings_HasPrefix f.name ⟨#[108, 111, 103, 46]⟩ W)
      have HNB := Lib.hid (fun W => number_any f.name W)
      obtain ⟨bp, hbp⟩ : ∃ bp, Lib.hasPrefix f.key preL = bp := ⟨_, rfl⟩
      have hbp2 : Lib.hasPrefix f.name.data.toList (ByteArray.mk #[108, 111, 103, 46]).data.toList = bp := hbp
      rw [hbp2] at HPX
      rw [hbp] at hDR
      obtain ⟨NM, hNMe⟩ : ∃ NM, f.name = NM := ⟨_, rfl⟩
      have hk : f.key = NM.data.toList := by rw [← hNMe]
      rw [hk] at hDR
      rw [hNMe] at a0 HPX HNB
      have HDR := Lib.hid hDR
      clear hf hbp hbp2 hNMe hk hDR
      cases bp with
      | false =>
        have HNX : Hid (numsL d.L = (numsL (d.L.drop (i + 1))).map (nums ++ ·)) := by
          show _ = _
          rw [HI.out.num, HDR.out]
          rfl
        go_wp2_with (first
          | (go_at_call 46; refine (HPX.out _).mono ?_; rintro e w9 ⟨rfl, hw9⟩; rw [hw9]; clear hw9)
          | fail)
        go_roundw
        case rel => exact ⟨i + 1, nums, _, by omega, by go_num, HI.out.l, HI.out.row, HI.out.bel, HNX.out, by have := HI.out.len; omega⟩
        case measure => simp [intOf]; omega
      | true =>
        unfold numV at HNB
        cases hnk : numK NM.data.toList with
        | none =>
          rw [hnk] at HNB
          have HNX : Hid (RR = (150, d, ⟨seg, [], 0, 0, 0⟩)) := by
            show _ = _
            rw [HRR.out, HI.out.num, HDR.out, hnk]
            rfl
          simp only [Option.getD_none, Option.isSome_none] at HNB
          clear hnk
          go_wp2_with (first
            | (go_at_call 46; refine (HPX.out _).mono ?_; rintro e w9 ⟨rfl, hw9⟩; rw [hw9]; clear hw9)
            | (go_at_call 47; refine (HNB.out _).mono ?_; rintro e w9 ⟨rfl, hb9⟩; have HB9 := Lib.hid (HALL.out.trans (hb9.mono HALL.out.size)); clear hb9)
            | fail)
          go_ret2
          unfold OpenPost
          rw [HNX.out]
          exact ⟨DC.below HD.out HB9.out, Kp.of_below HB9.out, .inr ⟨show (150 : Int) ≠ 0 by decide, rfl⟩⟩
        | some n =>
          rw [hnk] at HNB
          have hnb := numK_bd hnk
          have HNX : Hid (numsL d.L = (numsL (d.L.drop (i + 1))).map ((nums ++ [n]) ++ ·)) := by
            show _ = _
            rw [HI.out.num, HDR.out, hnk]
            show Option.map _ (Option.map _ _) = _
            cases numsL (d.L.drop (i + 1)) with
            | none => rfl
            | some t => simp
          simp only [Option.getD_some, Option.isSome_some] at HNB
          obtain ⟨k, hk⟩ : ∃ k, nums.length = k := ⟨_, rfl⟩
          have HK := Lib.hid hk
          have HROW := Lib.hid HI.out.row
          rw [hk] at HROW c2 hle
          have hneb : ∀ x, (Value.slice pv k cv).ownBlock = some x → lb + 1 ≤ x ∧ x < wr.heap.size := HROW.out.lt
          clear hnk hk
          go_upto_region 14 with (first
            | (go_at_call 46; refine (HPX.out _).mono ?_; rintro e w9 ⟨rfl, hw9⟩; rw [hw9]; clear hw9)
            | (go_at_call 47; refine (HNB.out _).mono ?_; rintro e w9 ⟨rfl, hb9⟩; have HB9 := Lib.hid hb9; clear hb9)
            | fail)
          have HL9 := Lib.hid (HI.out.l.below HB9.out hlr)
          have HR9 := Lib.hid (HROW.out.kept (w' := w9) (row := none) ⟨HB9.out.os, HB9.out.tape, HB9.out.output, HB9.out.size, fun k hk _ => HB9.out.block k hk⟩ (by cases hv : (Value.slice pv k cv).ownBlock <;> first | exact .inl rfl | exact .inr (by simp)))
          have c29 := HL9.out.c2
          rw [HK.out] at c29
          have hz9 := HB9.out.size
          have HBE9 := Lib.hid (HI.out.bel.trans (HB9.out.mono (Nat.le_of_lt hlr)))
          go_wp2_with (first
            | (at_builtin; refine wpList_append_own _ rfl _ _ 38 rfl (lb + 1) 3 i0 (.int .i64 0) 1 8 Tryz.underlying38 hi0' hz0' hz1' hz2' rfl (by decide) _ _ _ rfl (HR9.out.alloc _) ⟨w9.heap.size, 0, none⟩ 1 1 [.int .i64 (n : Int)] rfl rfl (cell_one_new _ _ _) (by simp [Value.oneCell']) (by unfold maxLen; omega) (by omega) (by simp; omega) ?_; intro v' w3 hown' hg3 hnil3; obtain ⟨p3, cp3, hv3⟩ := owns_sl2 hown'; subst hv3; have HO3 := Lib.hid hown'; have HG3 := Lib.hid hg3; have HL3 := Lib.hid ((HL9.out.below ((Below.refl w9.heap.size w9).alloc (Nat.le_refl _) _) (by omega)).of_block (hg3.block lb (by simp; omega) (fun e => by have := hneb lb e.symm; omega))); have c23 := HL3.out.c2; have f23 := HL3.out.f 2; clear hown' hg3 hnil3; go_frame)
            | fail)
          have HO4 : Hid ((w3.setCell ⟨lb, 2, none⟩ (.slice p3 (k + 1) cp3)).ownsRow (lb + 1) 3 1 (.slice p3 (k + 1) cp3) (k + 1) (numVals nums ++ [.int .i64 (n : Int)])) :=
            HO3.out.kept (row := some lb) ⟨rfl, rfl, rfl, by simp, fun k _ hk => Below.heap_setCell _ _ _ _ (fun e => hk (by rw [e]))⟩ (.inr (fun e => by have := (HO3.out.lt lb e).1; omega))
          have HB4 : Hid (Below lb W (w3.setCell ⟨lb, 2, none⟩ (.slice p3 (k + 1) cp3))) :=
            ((((HBE9.out.alloc (by omega) _).grown HG3.out (by simp; omega) (fun j hj => by have := hneb j hj; omega))).setCell (p := ⟨lb, 2, none⟩) (Nat.le_refl _) _)
          have HL4 := Lib.hid (HL3.out.set2 (.slice p3 (k + 1) cp3))
          go_roundw
          case rel => exact ⟨i + 1, nums ++ [n], _, by omega, by go_num, HL4.out, by rw [List.length_append, HK.out]; simp only [numVals, List.map_append]; exact HO4.out, HB4.out, HNX.out, by rw [List.length_append, HK.out]; simp only [List.length_singleton]; omega⟩
          case measure => simp [intOf]; omega
    · have hiN : i = N := by omega
      have hli : ¬ (i : Int) < (N : Int) := by omega
      have HNU : Hid (numsL d.L = some nums) := by
        show _ = _
        rw [HI.out.num, List.drop_eq_nil_of_le (by rw [HN.out]; omega)]
        simp [numsL]
      have HDR : Hid (DAt wr db m d) := DC.below HD.out HALL.out
      have HPR := Lib.hid (HP.out.on (HALL.out.mono b3))
      by_cases hnz : nums = []
      · subst hnz
        have HRX : Hid (RR = (E2, D2, ⟨seg, [1], 0, 1, 0⟩)) := by
          show _ = _
          rw [HRR.out, HNU.out]
        simp only [List.length_nil] at c2
        clear hle
        by_cases hE : E2 = 0
        · subst hE
          go_upto_region 20 with (first
            | (go_at_call 48; refine (HNM.out _ HPR.out.here).mono ?_; rintro e w2 ⟨rfl, hb⟩; have HB2 := Lib.hid hb; have HD2 : Hid (DAt w2 db m d) := DC.below HDR.out hb; have hz2 := hb.size; clear hb)
            | (go_at_call 28; (with_reducible refine (HCR.out _ HD2.out).mono ?_); rintro e w3 ⟨rfl, hd3, hk3⟩; have HD3 := Lib.hid hd3; have HK3 := Lib.hid hk3; have hz3 := hk3.size; clear hd3 hk3)
            | fail)
          have HL3 := Lib.hid ((HI.out.l.below HB2.out hlr).kp HK3.out hbl.1 hbl.2.1)
          have d2 := HL3.out.c2
          have d4 := HL3.out.c4
          have e2 := HL3.out.f 2
          have e4 := HL3.out.f 4
          have hlt3 := HL3.out.lt
          go_wp2_with fail
          go_ret2
          unfold OpenPost
          rw [HRX.out]
          have hdm : w.heap.size ≤ w3.heap.size := by have := HALL.out.size; omega
          have L5 : Lb ((w3.setCell ⟨lb, 2, none⟩ (.slice (some ⟨w3.heap.size, 0, none⟩) 1 1)).setCell ⟨lb, 4, none⟩ (.int .i64 1)) lb db seg (.slice (some ⟨w3.heap.size, 0, none⟩) 1 1) 1 := (HL3.out.set2 _).set4 1
          have D5 : DAt ((w3.setCell ⟨lb, 2, none⟩ (.slice (some ⟨w3.heap.size, 0, none⟩) 1 1)).setCell ⟨lb, 4, none⟩ (.int .i64 1)) db m D2 := DC.far (DC.far HD3.out (fun e => hbl.1 e.symm) (fun e => hbl.2.1 e.symm) 2 _) (fun e => hbl.1 e.symm) (fun e => hbl.2.1 e.symm) 4 _
          have K5 : Kp db m w ((w3.setCell ⟨lb, 2, none⟩ (.slice (some ⟨w3.heap.size, 0, none⟩) 1 1)).setCell ⟨lb, 4, none⟩ (.int .i64 1)) := (((((Kp.of_below HALL.out).step HB2.out).trans HK3.out).setNew hbl.2.2 2 _).setNew hbl.2.2 4 _)
          have hz5 : ((w3.setCell ⟨lb, 2, none⟩ (.slice (some ⟨w3.heap.size, 0, none⟩) 1 1)).setCell ⟨lb, 4, none⟩ (.int .i64 1)).heap.size = w3.heap.size := by simp
          obtain ⟨z, hw3⟩ : ∃ z, w3.heap.size = z := ⟨_, rfl⟩
          have hm3 : db < w3.heap.size ∧ m < w3.heap.size := ⟨DC.lt HD3.out, DC.ltm HD3.out⟩
          rw [hw3] at L5 D5 K5 hz5 hlt3 hdm hm3 ⊢
          generalize (w3.setCell ⟨lb, 2, none⟩ (.slice (some ⟨z, 0, none⟩) 1 1)).setCell ⟨lb, 4, none⟩ (.int .i64 1) = W5 at *
          have hA := (Below.refl W5.heap.size W5).alloc (Nat.le_refl _) (.cells #[.int .i64 1] 3)
          have n5 : (W5.alloc (.cells #[.int .i64 1] 3)).cell? ⟨z, 0, none⟩ = some (.int .i64 1) := by rw [← hz5]; exact World.cell?_alloc_new ..
          have f5 : (W5.alloc (.cells #[.int .i64 1] 3)).frozen? ⟨z, 0, none⟩ = false := by rw [← hz5]; exact World.frozen?_alloc_new ..
          have K6 := K5.alloc (.cells #[.int .i64 1] 3)
          have L6 : Lb (W5.alloc (.cells #[.int .i64 1] 3)) lb db seg (.slice (some ⟨z, 0, none⟩) [1].length 1) 1 := L5.below hA (by omega)
          have hg : z < (W5.alloc (.cells #[.int .i64 1] 3)).heap.size := by simp; omega
          have N6 : NumAt (W5.alloc (.cells #[.int .i64 1] 3)) z 0 1 [1] := ⟨⟨_, Array.getElem?_eq_getElem hg⟩, fun i n hi => by
            match i, hi with
            | 0, hi => cases hi; exact n5, fun i hi => by
            obtain rfl : i = 0 := by omega
            exact ⟨by rw [Nat.zero_add, n5]; rfl, f5⟩, Nat.le_refl 1, by unfold maxLen; decide⟩
          have hP6 := HP.out.on (Kp.belowN (Below.refl B w) K6 b3 b1 b2)
          exact ⟨DC.alloc D5 _, K6, .inl ⟨rfl, lb, z, rfl, L6.lg N6 ⟨hbl.1, hbl.2.1, by omega, by omega, by omega⟩ ⟨by omega, b1, b2, by omega, Nat.le_trans b3 K6.size⟩ hP6, hbl.2.2, by omega⟩⟩
        · have hEb : (E2 != 0) = true := by simpa using hE
          go_wp2_with (first
            | (go_at_call 48; refine (HNM.out _ HPR.out.here).mono ?_; rintro e w2 ⟨rfl, hb⟩; have HB2 := Lib.hid hb; have HD2 : Hid (DAt w2 db m d) := DC.below HDR.out hb; have hz2 := hb.size; clear hb)
            | (go_at_call 28; (with_reducible refine (HCR.out _ HD2.out).mono ?_); rintro e w3 ⟨rfl, hd3, hk3⟩; have HD3 := Lib.hid hd3; have HK3 := Lib.hid hk3; have hz3 := hk3.size; clear hd3 hk3)
            | fail)
          go_ret2
          unfold OpenPost
          rw [HRX.out]
          exact ⟨HD3.out, ((Kp.of_below HALL.out).step HB2.out).trans HK3.out, .inr ⟨hE, rfl⟩⟩
      · obtain ⟨g, cap, hv, hnm, hg⟩ := owns_num HI.out.row hnz
        have hzw := HALL.out.size
        have HLG := Lib.hid (Lb.lg (m := m) (B := B) (by rw [← hv]; exact HI.out.l) hnm (by omega) (by omega) HPR.out)
        have HRC : Hid (∀ (wx : World), LgW wx B lb db m g ⟨seg, nums, 0, 0, 0⟩ → DAt wx db m d → Calls Tryz.prog 49 #[.pointer (some ⟨lb, 0, none⟩)] wx fun e w' => e = .returned (.int .i64 RR.1) ∧ (RR.1 = 0 → LgW w' B lb db m g RR.2.2) ∧ DAt w' db m RR.2.1 ∧ KL lb db m g wx w') := by
          cases nums with
          | nil => exact absurd rfl hnz
          | cons n t => exact fun wx => HREC.out wx lb g n t HNU.out
        obtain ⟨k, hk⟩ : ∃ k, nums.length = k := ⟨_, rfl⟩
        have hk0 : 0 < k := by rw [← hk]; exact List.length_pos_iff.2 hnz
        have hkb : ((k : Int) == 0) = false := by simp; omega
        have hkn : ¬ k = 0 := by omega
        rw [hk] at c2
        obtain ⟨E, hE⟩ : ∃ E, RR.1 = E := ⟨_, rfl⟩
        rw [hE] at HRC
        have HE := Lib.hid hE
        have HGG := Lib.hid hg
        clear hk hv hnm hnz hE hg
        by_cases hE0 : E = 0
        · subst hE0
          go_wp2_with (first
            | (go_at_call 49; (with_reducible refine (HRC.out _ HLG.out HDR.out).mono ?_); rintro e w2 ⟨rfl, hl, hd, hk⟩; have HX := Lib.hid (And.intro (hl rfl) (And.intro hd (KL.to_kp (Kp.of_below HALL.out) hk hbl.2.2 (by have := HGG.out; omega)))); clear hl hd hk)
            | fail)
          go_ret2
          exact ⟨HX.out.2.1, HX.out.2.2, .inl ⟨HE.out, lb, g, rfl, HX.out.1, hbl.2.2, by have := HGG.out; omega⟩⟩
        · have hEb : (E != 0) = true := by simpa using hE0
          go_wp2_with (first
            | (go_at_call 49; (with_reducible refine (HRC.out _ HLG.out HDR.out).mono ?_); rintro e w2 ⟨rfl, hl, hd, hk⟩; have HX := Lib.hid (And.intro hd (KL.to_kp (Kp.of_below HALL.out) hk hbl.2.2 (by have := HGG.out; omega))); clear hl hd hk)
            | fail)
          go_ret2
          exact ⟨HX.out.1, HX.out.2, .inr ⟨by rw [HE.out]; exact hE0, by rw [HE.out]; rfl⟩⟩
theorem open_any {w : World} {B db m : Nat} {d : Dk} (h : DAt w db m d) (hok : d.Ok) (hs : d.steps + 3 < 4611686018427387904) (seg : Nat) (h1 : 1 ≤ seg) (h2 : seg ≤ 65536) (hp : PowB B w) (hb : B ≤ db ∧ B ≤ m ∧ B ≤ w.heap.size) :
    Calls Tryz.prog 17 #[.pointer (some ⟨db, 0, none⟩), .int .i64 (seg : Int)] w (OpenPost w B db m (openW d seg)) := by
  cases ho : d.off with
  | true => exact open_off h ho seg h1 h2
  | false => exact open_on h hok hs ho seg h1 h2 hp hb
end Go.Proofs.YtnpgjlhnlakgpaaGreatDoor

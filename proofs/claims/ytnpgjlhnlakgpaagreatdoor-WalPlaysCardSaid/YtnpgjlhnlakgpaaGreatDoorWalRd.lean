/- A log of any segments: Read. -/
import Derived.Test.YtnpgjlhnlakgpaaGreatDoorG12
import Derived.Test.YtnpgjlhnlakgpaaGreatDoorG20
import Derived.Test.YtnpgjlhnlakgpaaGreatDoorG18
import Derived.Deep.RegionHeld3
import Derived.Maps.OwnIn
namespace Go.Proofs.YtnpgjlhnlakgpaaGreatDoor
open Go.RowKit Go.Shelf Go.Maps

attribute [local go_sem] Oper.semAt_some

/-- Marks of loops over iterators that a frame bears. -/
def marks (ds : List Nat) : List Deferred := ds.map fun D => { target := .collected D, args := #[] }
/-- The function leaves: the marks' blocks are shut. -/
theorem leaves_marks {F : Fence} {n : Nat} {fn : Func} {tmps : Array Value} {R : Ending → World → Prop} (Inv : World → Prop) (B : Nat) (hInv : ∀ D W, B ≤ D → Inv W → W.heap[D]? = some (.deferred (some [])) → Inv (W.putObj D (.deferred none))) :
    ∀ (ds : List Nat) (w : World), ds.Nodup → (∀ D ∈ ds, w.heap[D]? = some (.deferred (some []))) → (∀ D ∈ ds, B ≤ D) → Inv w → (∀ w', Inv w' → LeavesInM F n Tryz.prog fn tmps R [] .returning w') → LeavesInM F n Tryz.prog fn tmps R (marks ds) .returning w
  | [], w, _, _, _, hi, h => h w hi
  | D :: ds, w, hn, hd, hb, hi, h => by
    obtain ⟨h1, h2⟩ := List.nodup_cons.1 hn
    have hD := hd D (by simp)
    refine ⟨by simp, .inl ⟨_, _, rfl, run_takeDeferred hD, ?_⟩⟩
    refine leaves_marks Inv B hInv ds _ h2 (fun E hE => ?_) (fun E hE => hb E (by simp [hE])) (hInv D w (hb D (by simp)) hi hD) h
    have hne : E ≠ D := fun e => h1 (e ▸ hE)
    have := hd E (by simp [hE])
    rw [← this]
    exact (grownBy_putObj' w D (.deferred none)).block E (Array.getElem?_eq_some_iff.1 this).1 (fun e => hne (Option.some.inj e))
/-- Read, from a number that is there. -/
def readR (d : Dk) (l : Lg) (fr : Nat) : List (List UInt8) × Int := readN d fr l.next [] l.nums

/-- A range over an iterator, the frame behind the assignment reckoned out of the frame ahead. -/
theorem rangeFunc_asg {F : Fence} {n : Nat} {P : Program} {α : Type} {g : Operand} {ps : Array Tmp} {assign body : Code} {Q : Exit → Act → World → Prop} {a : Act} {w : World}
    (hro : F.round = none) (h1 : 1 ≤ n) {gf : Nat} {lb : Array Value} (hg : a.eval g = .func (.func gf) #[] lb) (hFg : F.fn gf) (eg : ∀ args w, (callFunc gf args).run P w = .ok (.enter gf args) w)
    {encs : α → Array Value} {Kp : World → World → Prop} {S Sp : List α → Prop} {N : Nat} {w0 : World} (hseq : SeqStopsK F (n - 1) P gf lb encs Kp S Sp N w0)
    (hKt : ∀ {A B C : World}, Kp A B → Kp B C → Kp A C) (hKb : ∀ (W : World) (l : Nat) (o o' : Obj), w.heap.size ≤ l → W.heap[l]? = some o → o.isCells = false → o.isWalk = false → Kp W (W.putObj l o')) (hb0 : Below w0.heap.size w0 w) (hps : ∀ x, (encs x).size = ps.size)
    (I : List α → World → Prop) (Ix : Code → List α → World → Prop) (hI : OwnFrom w.heap.size I) (hIx : ∀ c, OwnFrom w.heap.size (Ix c)) (h0 : I [] w) (asg : α → Array Value → Array Value)
    (hassign : ∀ (l : Nat) (x : α) (W : World) (K : Act → World → Prop), K ⟨asg x a.tmps, []⟩ W →
      assign.wpIn (F.inRound l) (n - 1 - 1) P (Exit.then K (fun _ _ _ => False)) { tmps := (ps.zip (encs x)).foldl (fun t (p, v) => t.setIfInBounds p v) a.tmps, defers := [] } W)
    (hbody : ∀ (l : Nat) (pre : List α) (x : α) (W : World), I pre W → pre.length < N → body.wpIn (F.inRound l) (n - 1 - 1) P (ownPostG w.heap.size Kp I Ix (pre ++ [x]) W) ⟨asg x a.tmps, []⟩ W)
    (hdone : ∀ (D : Nat) (xs : List α) (W : World), w.heap.size ≤ D → S xs → I xs W → W.heap[D]? = some (.deferred (some [])) → Q .normal { a with defers := { target := .collected D, args := #[] } :: a.defers } W)
    (hstop : ∀ (D : Nat) (c : Code) (pre : List α) (W : World), w.heap.size ≤ D → Sp pre → Ix c pre W → W.heap[D]? = some (.deferred (some [])) → c.wpIn F n P Q { a with defers := { target := .collected D, args := #[] } :: a.defers } W) :
    (Code.rangeFunc g ps assign body).wpIn F n P Q a w :=
  wpIn_rangeFunc_ownG hro h1 hg hFg eg hseq hKt hKb hb0 hps I Ix hI hIx h0 (fun x => ⟨asg x a.tmps, []⟩) hassign hbody hdone hstop
/-- What of a segment's records is told. -/
def keptR (fr n : Nat) (pre : List (Nat × List UInt8)) : List (List UInt8) := (pre.map (·.2)).drop (fr - n)
theorem kept_yes {fr n : Nat} {pre : List (Nat × List UInt8)} (h : fr ≤ n + pre.length) (x : Nat × List UInt8) : keptR fr n (pre ++ [x]) = keptR fr n pre ++ [x.2] := by
  unfold keptR
  rw [List.map_append, List.drop_append_of_le_length (by rw [List.length_map]; omega)]
  rfl
theorem kept_no {fr n : Nat} {pre : List (Nat × List UInt8)} (h : ¬ fr ≤ n + pre.length) (x : Nat × List UInt8) : keptR fr n (pre ++ [x]) = keptR fr n pre := by
  unfold keptR
  rw [List.drop_eq_nil_of_le (by rw [List.length_map, List.length_append, List.length_singleton]; omega), List.drop_eq_nil_of_le (by rw [List.length_map]; omega)]
theorem kept_len (fr n : Nat) (pre : List (Nat × List UInt8)) : (keptR fr n pre).length ≤ pre.length := by
  unfold keptR
  rw [List.length_drop, List.length_map]; omega
theorem ownFrom_defs {β : Type} {B : Nat} (ds : List Nat) (h : ∀ D ∈ ds, D < B) : OwnFrom B (fun (_ : β) W => ∀ D ∈ ds, W.heap[D]? = some (.deferred (some []))) := fun _ W W' row hs hg hr D hD => by
  have h1 := hs D hD
  rw [← h1]
  refine hg.block D (Array.getElem?_eq_some_iff.1 h1).1 (fun e => ?_)
  have := (hr D e.symm).1
  have := h D hD
  omega
theorem read_size {d : Dk} (h : d.Ok) (nm : ByteArray) : (d.read nm).1.size ≤ 4194304 := by
  unfold Dk.read
  split
  · show (0 : Nat) ≤ _; omega
  · split
    · show (0 : Nat) ≤ _; omega
    · rename_i f hf
      have h1 := mem_used (findF_mem hf)
      have h2 := h.used
      have h3 := h.room
      show f.bytes.size ≤ _; omega
/-- Read under way: i segments are read. -/
structure RdI (w : World) (Bf Bo : Nat) (FR : Int) (d : Dk) (l : Lg) (fr : Nat) (R : List (List UInt8) × Int) (k : Nat) (wr : World) (i : Nat) (out : List (List UInt8)) (v : Value) (ds : List Nat) : Prop where
  le : i ≤ l.nums.length
  num : k = l.nums.length - i
  bf : Boxed wr Bf 3 (.int .i64 FR)
  bo : Boxed wr Bo 55 v
  row : wr.ownsRow w.heap.size 9 1 v out.length (recVals out)
  bel : Below w.heap.size w wr
  nd : ds.Nodup
  dd : ∀ D ∈ ds, wr.heap[D]? = some (.deferred (some [])) ∧ w.heap.size ≤ D
  res : readN d fr l.next out (l.nums.drop i) = R
  len : out.length ≤ i * 4194304
theorem RdI.skip {w : World} {Bf Bo : Nat} {FR : Int} {d : Dk} {l : Lg} {fr : Nat} {R : List (List UInt8) × Int} {k : Nat} {wr w' : World} {i N : Nat} {out : List (List UInt8)} {v : Value} {ds : List Nat} (h : RdI w Bf Bo FR d l fr R k wr i out v ds) (hN : l.nums.length = N) (hi : i < N)
    (hr : readN d fr l.next out (l.nums.drop (i + 1)) = R) (hB : Below wr.heap.size wr w') : RdI w Bf Bo FR d l fr R (N - (i + 1)) w' (i + 1) out v ds :=
  ⟨by omega, by rw [hN], h.bf.kept (below_grown hB) (by simp), h.bo.kept (below_grown hB) (by simp), h.row.kept (below_grown hB) (by
    cases hv : v.ownBlock with
    | none => exact .inl rfl
    | some k => exact .inr (by simp : some k ≠ none)), h.bel.trans (hB.mono h.bel.size), h.nd, fun D hD => ⟨(hB.block D (Array.getElem?_eq_some_iff.1 (h.dd D hD).1).1).trans (h.dd D hD).1, (h.dd D hD).2⟩, hr, Nat.le_trans h.len (Nat.mul_le_mul_right _ (Nat.le_succ _))⟩

theorem RdI.below {w : World} {Bf Bo : Nat} {FR : Int} {d : Dk} {l : Lg} {fr : Nat} {R : List (List UInt8) × Int} {k : Nat} {wr w' : World} {i : Nat} {out : List (List UInt8)} {v : Value} {ds : List Nat} (h : RdI w Bf Bo FR d l fr R k wr i out v ds) (hB : Below wr.heap.size wr w') : RdI w Bf Bo FR d l fr R k w' i out v ds :=
  ⟨h.le, h.num, h.bf.kept (below_grown hB) (by simp), h.bo.kept (below_grown hB) (by simp), h.row.kept (below_grown hB) (by
    cases hv : v.ownBlock with
    | none => exact .inl rfl
    | some k => exact .inr (by simp : some k ≠ none)), h.bel.trans (hB.mono h.bel.size), h.nd, fun D hD => ⟨(hB.block D (Array.getElem?_eq_some_iff.1 (h.dd D hD).1).1).trans (h.dd D hD).1, (h.dd D hD).2⟩, h.res, h.len⟩
theorem scan_few : ∀ (f : Nat) (s : List UInt8), s.length < f → (scanN f s).1.length ≤ s.length
  | 0, _, h => by omega
  | f + 1, s, h => by
    simp only [scanN]
    cases ho : oneN s with
    | none => simp
    | some r =>
      have h1 := oneN_len ho
      have h2 := scan_few f (s.drop (12 + r.length)) (by rw [List.length_drop]; omega)
      rw [List.length_drop] at h2
      simp only [List.length_cons]
      omega
/-- Between two rounds over a segment's records. -/
structure RdB (w : World) (Bf Bo Bn Bs : Nat) (FR : Int) (fr n : Nat) (out : List (List UInt8)) (Bt : ByteArray) (ds : List Nat) (pre : List (Nat × List UInt8)) (W : World) : Prop where
  bo : ∃ v, Boxed W Bo 55 v ∧ W.ownsRow w.heap.size 9 1 v (out ++ keptR fr n pre).length (recVals (out ++ keptR fr n pre)) ∧ v.ownBlock ≠ some Bs
  bn : Boxed W Bn 3 (.int .i64 ((n + pre.length : Nat) : Int))
  bf : Boxed W Bf 3 (.int .i64 FR)
  bs : Boxed W Bs 9 (.string Bt)
  bel : Below w.heap.size w W
  dd : ∀ D ∈ ds, W.heap[D]? = some (.deferred (some []))
theorem rdB_own {w : World} {Bf Bo Bn Bs : Nat} {FR : Int} {fr n : Nat} {out : List (List UInt8)} {Bt : ByteArray} {ds : List Nat} {B : Nat} (hB : w.heap.size ≤ B) (hd : ∀ D ∈ ds, D < B) : OwnFrom B (RdB w Bf Bo Bn Bs FR fr n out Bt ds) := by
  have h := OwnFrom.and (Own.from (holdsRow_own w.heap.size Bo 55 9 1 (fun pre : List (Nat × List UInt8) => (out ++ keptR fr n pre).length) (fun pre => recVals (out ++ keptR fr n pre)) (fun _ v => v.ownBlock ≠ some Bs)) B) (OwnFrom.and (Own.from (boxed_own Bn 3 (fun pre : List (Nat × List UInt8) => .int .i64 ((n + pre.length : Nat) : Int))) B) (OwnFrom.and (Own.from (boxed_own Bf 3 (fun _ => .int .i64 FR)) B) (OwnFrom.and (Own.from (boxed_own Bs 9 (fun _ => .string Bt)) B) (OwnFrom.and (ownFrom_below (w₀ := w) (Nat.le_refl _) hB) (ownFrom_defs ds hd)))))
  intro s A C row hs hg hr
  obtain ⟨h1, h2, h3, h4, h5, h6⟩ := h s A C row ⟨hs.bo, hs.bn, hs.bf, hs.bs, hs.bel, hs.dd⟩ hg hr
  exact ⟨h1, h2, h3, h4, h5, h6⟩
def asgR (x : Nat × List UInt8) (T : Array Value) : Array Value := ((T.setIfInBounds 74 (.int .i64 (x.1 : Int))).setIfInBounds 75 (.string (bs x.2))).setIfInBounds 13 (.string (bs x.2))

set_option maxRecDepth 100000 in
set_option maxHeartbeats 16000000 in
theorem read_gen {w : World} {B lb db m g : Nat} {l : Lg} {d : Dk} (h : LgW w B lb db m g l) (ho : l.Ok) (hd : DAt w db m d) (hok : d.Ok) (hn64 : l.nums.length ≤ 64) (fr : Nat) (hf1 : l.first ≤ fr) (hf2 : fr ≤ l.next) :
    Calls Tryz.prog 36 #[.pointer (some ⟨lb, 0, none⟩), .int .i64 (fr : Int)] w fun e w' => ((readR d l fr).2 = 0 → ∃ v, e = .returned (.tuple #[v, .int .i64 0]) ∧ SL w w' v (readR d l fr).1) ∧ ((readR d l fr).2 ≠ 0 → e = .returned (.tuple #[.slice none 0 0, .int .i64 (readR d l fr).2]) ∧ Below w.heap.size w w') := by
  obtain ⟨i0, hi0, hz0, hz1, hz2⟩ := info_parts strcell
  obtain ⟨R, hR⟩ : ∃ R, readR d l fr = R := ⟨_, rfl⟩
  rw [hR]
  obtain ⟨o, cap, c2, hnm⟩ := h.c2
  have HL := Lib.hid h
  have HO := Lib.hid ho
  have HD := Lib.hid hd
  have HOK := Lib.hid hok
  have HNM := Lib.hid hnm
  have hlb := h.lt
  have hnx := ho.next
  have hle := hnm.le
  have hmx := hnm.max
  have HF := Lib.hid hf1
  obtain ⟨N, hN⟩ : ∃ N, l.nums.length = N := ⟨_, rfl⟩
  have HN := Lib.hid hN
  have HR := Lib.hid hR
  rw [hN] at c2 hle
  unfold maxLen at hmx
  have hWB := (Below.refl w.heap.size w).alloc (Nat.le_refl _) (.cells #[.int .i64 (fr : Int)] 3)
  have hz1 : (w.alloc (.cells #[.int .i64 (fr : Int)] 3)).heap.size = w.heap.size + 1 := by simp
  have hfr := Boxed.new w 3 (.int .i64 (fr : Int))
  have HL1 := Lib.hid (h.below hWB)
  have hfr1 : ¬ (fr : Int) < (l.first : Int) := by omega
  have hfr2 : ¬ (l.next : Int) < (fr : Int) := by omega
  have hfb1 : ((fr : Int) < (l.first : Int)) = False := by simpa using hf1
  clear h ho hd hok hnm hR hN hf1
  refine (callsIn_wide (n := 5)).1 ?_
  refine callsIn_of_wp_marks Tryz.func36 rfl trivial ?_ rfl
  simp only [Tryz.ntmps36, List.size_toArray, List.length_cons, List.length_nil, Nat.reduceAdd, Nat.reduceSub, Array.replicate_succ, Array.replicate_zero, List.push_toArray, List.append_toArray, List.nil_append, List.cons_append]
  gi_upto_region 1 with fail
  generalize w.alloc (.cells #[.int .i64 (fr : Int)] 3) = w1 at *
  have hz1' : w.heap.size < w1.heap.size := by omega
  clear hz1
  have hgn := GW.ne (Inv := fun W => Below w1.heap.size w1 W) (Below.refl _ w1)
  have b0 : ∀ u : GW (fun W => Below w1.heap.size w1 W), u.w.cell? ⟨w.heap.size, 0, none⟩ = some (.int .i64 (fr : Int)) := fun u => (u.h.cell (p := ⟨w.heap.size, 0, none⟩) (by show w.heap.size < _; omega)).trans hfr.cell
  have b4 : ∀ u : GW (fun W => Below w1.heap.size w1 W), u.w.cell? ⟨lb, 4, none⟩ = some (.int .i64 (l.next : Int)) := fun u => (HL1.out.below u.h).c4
  have HFI : Hid (∀ u : GW (fun W => Below w1.heap.size w1 W), Calls Tryz.prog 18 #[.pointer (some ⟨lb, 0, none⟩)] u.w fun e w' => e = .returned (.int .i64 (l.first : Int)) ∧ Below u.w.heap.size u.w w') := fun u => (first_any (HL1.out.below u.h) HO.out).mono fun e w' ⟨h1, h2⟩ => ⟨h1, by rw [h2]; exact Below.refl _ _⟩
  have hf0 := HF.out
  have d1 : decide ((fr : Int) < (l.first : Int)) = false := decide_eq_false (by omega)
  have d2 : decide ((l.next : Int) < (fr : Int)) = false := decide_eq_false (by omega)
  obtain ⟨FR, hFR⟩ : ∃ FR : Int, (fr : Int) = FR := ⟨_, rfl⟩
  obtain ⟨LF, hLF⟩ : ∃ LF : Int, (l.first : Int) = LF := ⟨_, rfl⟩
  obtain ⟨NX, hNX⟩ : ∃ NX : Int, (l.next : Int) = NX := ⟨_, rfl⟩
  have HFR := Lib.hid hFR
  have HNX := Lib.hid hNX
  rw [hFR] at hfr b0 d1 d2
  rw [hLF] at d1 HFI
  rw [hNX] at b4 d2
  simp only [hFR]
  clear hfr1 hfr2 hfb1 hf0 hFR hLF hNX
  refine wpIn_wide.2 ?_
  refine wp_region_grow (fun W => Below w1.heap.size w1 W) (by kernel_rfl) (by kernel_rfl) (Below.refl _ _).drew ?_
  repeat (go_big_quiet_step ((go_at_call 18; refine (HFI.out _).mono ?_; rintro e w1 ⟨rfl, hb⟩; exact ⟨rfl, below_next _ hb⟩)))
  refine wpQuiet_nil ?_
  intro w2 hw'
  obtain ⟨⟨wx2, h2⟩, hw''⟩ := hw'
  subst hw''
  have HB2 := Lib.hid (hWB.trans (h2.mono (by omega)))
  have HF2 := Lib.hid (hfr.kept (below_grown h2) (by simp))
  clear hgn b0 b4 HFI d1 d2
  have hlb2 := HB2.out.size
  have hw2s : w.heap.size < w2.heap.size := by have := h2.size; omega
  have c22 : w2.cell? ⟨lb, 2, none⟩ = some (.slice (some ⟨g, o, none⟩) N cap) := (HB2.out.cell (p := ⟨lb, 2, none⟩) hlb.1).trans c2
  have c22a : ∀ x, (w2.alloc x).cell? ⟨lb, 2, none⟩ = some (.slice (some ⟨g, o, none⟩) N cap) := fun x => (((Below.refl _ w2).alloc (Nat.le_refl _) x).cell (p := ⟨lb, 2, none⟩) (by show lb < _; omega)).trans c22
  have HR0 : Hid (RdI w w.heap.size w2.heap.size FR d l fr R N (w2.alloc (.cells #[.slice none 0 0] 55)) 0 [] (.slice none 0 0) []) :=
    ⟨Nat.zero_le _, by rw [HN.out]; rfl, HF2.out.alloc _, Boxed.new .., World.ownsRow_nil _ _ _ _, HB2.out.alloc hlb2 _, List.nodup_nil, by simp, by rw [List.drop_zero]; exact HR.out, Nat.zero_le _⟩
  gi_wp2
  refine wpIn_loop_ghost_k (fun k a' W => ∃ (i : Nat) (out : List (List UInt8)) (v : Value) (ds : List Nat) (u4 u5 u7 u8 u9 u10 u11 u13 u31 u32 u33 u34 u35 u36 u37 u38 u39 u40 u41 u42 u43 u44 u45 u46 u47 u48 u49 u50 u51 u52 u53 u54 u55 u56 u57 u58 u59 u60 u61 u62 u63 u64 u65 u66 u67 u68 u69 u70 u71 u72 u73 u74 u75 u76 u77 u78 u79 u80 u81 u82 u83 u84 u85 : Value), (RdI w w.heap.size w2.heap.size FR d l fr R k W i out v ds ∧ u31 = .int .i64 (i : Int)) ∧ a' = ({ tmps := #[.pointer (some ⟨lb, 0, none⟩), .int .i64 FR, undef, .pointer (some ⟨w.heap.size, 0, none⟩), u4, u5, .pointer (some ⟨w2.heap.size, 0, none⟩), u7, u8, u9, u10, u11, undef, u13, .int .i64 FR, .pointer (some ⟨lb, 0, none⟩), .int .i64 LF, .bool false, .bool false, .int .i64 FR, .pointer (some ⟨lb, 0, none⟩), .pointer (some ⟨lb, 0, none⟩), .pointer (some ⟨lb, 4, none⟩), .int .i64 NX, .bool false, .bool false, .pointer (some ⟨lb, 0, none⟩), .pointer (some ⟨lb, 0, none⟩), .pointer (some ⟨lb, 2, none⟩), .slice (some ⟨g, o, none⟩) N cap, .int .i64 (N : Int), u31, u32, u33, u34, u35, u36, u37, u38, u39, u40, u41, u42, u43, u44, u45, u46, u47, u48, u49, u50, u51, u52, u53, u54, u55, u56, u57, u58, u59, u60, u61, u62, u63, u64, u65, u66, u67, u68, u69, u70, u71, u72, u73, u74, u75, u76, u77, u78, u79, u80, u81, u82, u83, u84, u85, undef], defers := marks ds } : Act)) N ⟨0, [], .slice none 0 0, [], _, _, _, _, _, _, _, _, _, _, _, _, _, _, _, _, _, _, _, _, _, _, _, _, _, _, _, _, _, _, _, _, _, _, _, _, _, _, _, _, _, _, _, _, _, _, _, _, _, _, _, _, _, _, _, _, _, _, _, _, _, _, _, ⟨HR0.out, rfl⟩, rfl⟩ ?_
  intro k a' wr hinv J' K' hJ' hK'
  obtain ⟨i, hinv⟩ := hinv
  obtain ⟨out, hinv⟩ := hinv
  obtain ⟨v, hinv⟩ := hinv
  obtain ⟨ds, hinv⟩ := hinv
  obtain ⟨u4, hinv⟩ := hinv
  obtain ⟨u5, hinv⟩ := hinv
  obtain ⟨u7, hinv⟩ := hinv
  obtain ⟨u8, hinv⟩ := hinv
  obtain ⟨u9, hinv⟩ := hinv
  obtain ⟨u10, hinv⟩ := hinv
  obtain ⟨u11, hinv⟩ := hinv
  obtain ⟨u13, hinv⟩ := hinv
  obtain ⟨u31, hinv⟩ := hinv
  obtain ⟨u32, hinv⟩ := hinv
  obtain ⟨u33, hinv⟩ := hinv
  obtain ⟨u34, hinv⟩ := hinv
  obtain ⟨u35, hinv⟩ := hinv
  obtain ⟨u36, hinv⟩ := hinv
  obtain ⟨u37, hinv⟩ := hinv
  obtain ⟨u38, hinv⟩ := hinv
  obtain ⟨u39, hinv⟩ := hinv
  obtain ⟨u40, hinv⟩ := hinv
  obtain ⟨u41, hinv⟩ := hinv
  obtain ⟨u42, hinv⟩ := hinv
  obtain ⟨u43, hinv⟩ := hinv
  obtain ⟨u44, hinv⟩ := hinv
  obtain ⟨u45, hinv⟩ := hinv
  obtain ⟨u46, hinv⟩ := hinv
  obtain ⟨u47, hinv⟩ := hinv
  obtain ⟨u48, hinv⟩ := hinv
  obtain ⟨u49, hinv⟩ := hinv
  obtain ⟨u50, hinv⟩ := hinv
  obtain ⟨u51, hinv⟩ := hinv
  obtain ⟨u52, hinv⟩ := hinv
  obtain ⟨u53, hinv⟩ := hinv
  obtain ⟨u54, hinv⟩ := hinv
  obtain ⟨u55, hinv⟩ := hinv
  obtain ⟨u56, hinv⟩ := hinv
  obtain ⟨u57, hinv⟩ := hinv
  obtain ⟨u58, hinv⟩ := hinv
  obtain ⟨u59, hinv⟩ := hinv
  obtain ⟨u60, hinv⟩ := hinv
  obtain ⟨u61, hinv⟩ := hinv
  obtain ⟨u62, hinv⟩ := hinv
  obtain ⟨u63, hinv⟩ := hinv
  obtain ⟨u64, hinv⟩ := hinv
  obtain ⟨u65, hinv⟩ := hinv
  obtain ⟨u66, hinv⟩ := hinv
  obtain ⟨u67, hinv⟩ := hinv
  obtain ⟨u68, hinv⟩ := hinv
  obtain ⟨u69, hinv⟩ := hinv
  obtain ⟨u70, hinv⟩ := hinv
  obtain ⟨u71, hinv⟩ := hinv
  obtain ⟨u72, hinv⟩ := hinv
  obtain ⟨u73, hinv⟩ := hinv
  obtain ⟨u74, hinv⟩ := hinv
  obtain ⟨u75, hinv⟩ := hinv
  obtain ⟨u76, hinv⟩ := hinv
  obtain ⟨u77, hinv⟩ := hinv
  obtain ⟨u78, hinv⟩ := hinv
  obtain ⟨u79, hinv⟩ := hinv
  obtain ⟨u80, hinv⟩ := hinv
  obtain ⟨u81, hinv⟩ := hinv
  obtain ⟨u82, hinv⟩ := hinv
  obtain ⟨u83, hinv⟩ := hinv
  obtain ⟨u84, hinv⟩ := hinv
  obtain ⟨u85, hinv⟩ := hinv
  obtain ⟨⟨hri, hu31⟩, ha⟩ := hinv
  subst ha
  subst hu31
  have HRI := Lib.hid hri
  obtain rfl : k = N - i := by rw [hri.num, HN.out]
  have hle' : i ≤ N := by rw [← HN.out]; exact hri.le
  have cN : wr.cell? ⟨lb, 2, none⟩ = some (.slice (some ⟨g, o, none⟩) N cap) := (hri.bel.cell (p := ⟨lb, 2, none⟩) hlb.1).trans c2
  have c4 : wr.cell? ⟨lb, 4, none⟩ = some (.int .i64 NX) := by rw [← HNX.out]; exact (HL.out.below hri.bel).c4
  have c0 : wr.cell? ⟨lb, 0, none⟩ = some (.pointer (some ⟨db, 0, none⟩)) := (HL.out.below hri.bel).c0
  have cF := hri.bf.cell
  have cO := hri.bo.cell
  have hlr := (HL.out.below hri.bel).lt
  have hBo := hri.bo.lt
  have hzr := hri.bel.size
  have cA : ∀ (x : Obj) (b j : Nat) (u : Value), b < wr.heap.size → wr.cell? ⟨b, j, none⟩ = some u → (wr.alloc x).cell? ⟨b, j, none⟩ = some u := fun x b j u hb h => (((Below.refl _ wr).alloc (Nat.le_refl _) x).cell (p := ⟨b, j, none⟩) hb).trans h
  clear hri
  by_cases hlt : i < N
  · have hli : (i : Int) < (N : Int) := by omega
    have hl0 : (0 : Int) ≤ (i : Int) := by omega
    obtain ⟨n, hn⟩ : ∃ n, l.nums[i]? = some n := ⟨l.nums[i]'(by rw [HN.out]; exact hlt), List.getElem?_eq_getElem _⟩
    have cn : wr.cell? ⟨g, o + i, none⟩ = some (.int .i64 (n : Int)) := (HRI.out.bel.cell (p := ⟨g, o + i, none⟩) hlb.2).trans (HNM.out.cell hn)
    have hnb := HO.out.bd n (List.mem_of_getElem? hn)
    have hdr : l.nums.drop i = n :: l.nums.drop (i + 1) := by rw [← List.getElem_cons_drop (by rw [HN.out]; exact hlt)]; congr 1; rw [List.getElem?_eq_getElem (by rw [HN.out]; exact hlt)] at hn; exact Option.some.inj hn
    have HSTEP : Hid (R = if (l.nums.drop (i + 1)).headD l.next ≤ fr then readN d fr l.next out (l.nums.drop (i + 1)) else if (d.read (nameN n)).2 = 0 then readN d fr l.next (out ++ (scanF (d.read (nameN n)).1.data.toList).1.drop (fr - n)) (l.nums.drop (i + 1)) else ([], (d.read (nameN n)).2)) := by
      show _ = _
      rw [← HRI.out.res, hdr]
      rfl
    have c4a := cA (.cells #[.int .i64 (n : Int)] 3) _ _ _ hlr.1 c4
    have cNa := cA (.cells #[.int .i64 (n : Int)] 3) _ _ _ hlr.1 cN
    have cFa := cA (.cells #[.int .i64 (n : Int)] 3) w.heap.size 0 _ (by omega) cF
    have hB1 := (Below.refl wr.heap.size wr).alloc (Nat.le_refl _) (.cells #[.int .i64 (n : Int)] 3)
    have hSK : (l.nums.drop (i + 1)).headD l.next ≤ fr → RdI w w.heap.size w2.heap.size FR d l fr R (N - (i + 1)) (wr.alloc (.cells #[.int .i64 (n : Int)] 3)) (i + 1) out v ds := fun he =>
      HRI.out.skip HN.out hlt (by have h1 := HSTEP.out; rw [if_pos he] at h1; exact h1.symm) hB1
    have q1 : IntKind.i64.wrap ((i : Int) + 1) = (i : Int) + 1 := by rw [IntKind.wrap_i64]; omega
    by_cases hl2 : i + 1 < N
    · obtain ⟨n2, hn2⟩ : ∃ n2, l.nums[i + 1]? = some n2 := ⟨l.nums[i + 1]'(by rw [HN.out]; exact hl2), List.getElem?_eq_getElem _⟩
      have cn2 : wr.cell? ⟨g, o + (i + 1), none⟩ = some (.int .i64 (n2 : Int)) := (HRI.out.bel.cell (p := ⟨g, o + (i + 1), none⟩) hlb.2).trans (HNM.out.cell hn2)
      have cn2a := cA (.cells #[.int .i64 (n : Int)] 3) _ _ _ hlr.2 cn2
      have hE : (l.nums.drop (i + 1)).headD l.next = n2 := by rw [List.headD_eq_head?_getD, List.head?_drop, hn2]; rfl
      rw [hE] at hSK HSTEP
      have hl2i : (i : Int) + 1 < (N : Int) := by omega
      have q3 : ((i : Int) + 1).toNat = i + 1 := by omega
      have q4 : (0 : Int) ≤ (i : Int) + 1 := by omega
      clear hdr hn hn2 hE
      by_cases hc : n2 ≤ fr
      · have HSK := Lib.hid (hSK hc)
        have hci : (n2 : Int) ≤ FR := by rw [← HFR.out]; omega
        clear hSK
        gi_wp2
        exact ⟨N - (i + 1), by omega, hJ' _ _ _ ⟨i + 1, out, v, ds, _, _, _, _, _, _, _, _, _, _, _, _, _, _, _, _, _, _, _, _, _, _, _, _, _, _, _, _, _, _, _, _, _, _, _, _, _, _, _, _, _, _, _, _, _, _, _, _, _, _, _, _, _, _, _, _, _, _, _, _, _, _, _, ⟨HSK.out, by go_num⟩, rfl⟩⟩
      · have hci : ¬ (n2 : Int) ≤ FR := by rw [← HFR.out]; omega
        have HST := HSTEP.out
        rw [if_neg hc] at HST
        clear hSK HSTEP
        obtain ⟨Bt, E, hRd⟩ : ∃ Bt E, d.read (nameN n) = (Bt, E) := ⟨_, _, rfl⟩
        have hBt : Bt.size ≤ 4194304 := by
          have := read_size HOK.out (nameN n)
          rw [hRd] at this
          exact this
        rw [hRd] at HST
        simp only at HST
        have hnn : (nameN n).size ≤ maxLen := by rw [nameN_size]; unfold maxLen; decide
        have HNMc := Lib.hid (fun W (hP : Pow W) => name_any n hnb.1 hnb.2 W hP)
        have HRDc : Hid (∀ W, DAt W db m d → Calls Tryz.prog 72 #[.pointer (some ⟨db, 0, none⟩), .string (nameN n)] W fun e w' => e = .returned (.tuple #[.string Bt, .int .i64 E]) ∧ Below W.heap.size W w') := fun W h => by
          have h1 := read_any h hnn
          rw [hRd] at h1
          exact h1
        obtain ⟨NM, hNM⟩ : ∃ NM, nameN n = NM := ⟨_, rfl⟩
        rw [hNM] at HNMc HRDc
        have HLa := Lib.hid ((HL.out.below HRI.out.bel).below hB1)
        have HDa : Hid (DAt (wr.alloc (.cells #[.int .i64 (n : Int)] 3)) db m d) := DC.below (DC.below HD.out HRI.out.bel) hB1
        have hBn := Boxed.new wr 3 (.int .i64 (n : Int))
        have hza : wr.heap.size < (wr.alloc (.cells #[.int .i64 (n : Int)] 3)).heap.size := by simp
        have c0a := cA (.cells #[.int .i64 (n : Int)] 3) _ _ _ hlr.1 c0
        have HSTt := Lib.hid HST
        clear hRd hnn hNM HST cN c4 c0 cF cO
        gi_upto_region 11 with fail
        have HB1 := Lib.hid hB1
        clear hB1
        generalize wr.alloc (.cells #[.int .i64 (n : Int)] 3) = wa at *
        have cBn := hBn.cell
        have hla : lb < wa.heap.size := by omega
        have HDad : Hid (DAt wa.drew db m d) := HDa.out.drew
        have HLad := Lib.hid HLa.out.drew
        refine wpIn_wide.2 ?_
        go_region_held3 (fun w' => ∀ j, w'.cell? ⟨lb, j, none⟩ = wa.cell? ⟨lb, j, none⟩ ∧ w'.cell? ⟨wr.heap.size, j, none⟩ = wa.cell? ⟨wr.heap.size, j, none⟩) ((first | assumption | (intro j; exact ⟨rfl, rfl⟩)))
          (first
            | (go_at_call 48; (with_reducible refine (HNMc.out _ HLad.out.pow.here).mono ?_); rintro e w5 ⟨rfl, hb5⟩; have k5 : ∀ j, w5.cell? ⟨lb, j, none⟩ = wa.cell? ⟨lb, j, none⟩ ∧ w5.cell? ⟨wr.heap.size, j, none⟩ = wa.cell? ⟨wr.heap.size, j, none⟩ := fun j => ⟨(hb5.cell (p := ⟨lb, j, none⟩) hla).trans rfl, (hb5.cell (p := ⟨wr.heap.size, j, none⟩) hza).trans rfl⟩; have HD5 : Hid (DAt w5 db m d) := DC.below HDad.out hb5; have HA5 := Lib.hid (show Below wa.heap.size wa w5 from (Below.refl _ _).drew.trans hb5); clear hb5)
            | (go_at_call 72; (with_reducible refine (HRDc.out _ HD5.out).mono ?_); rintro e w6 ⟨rfl, hb6⟩; have HA6 := Lib.hid (HA5.out.trans (hb6.mono HA5.out.size)); have k6 : ∀ j, w6.cell? ⟨lb, j, none⟩ = wa.cell? ⟨lb, j, none⟩ ∧ w6.cell? ⟨wr.heap.size, j, none⟩ = wa.cell? ⟨wr.heap.size, j, none⟩ := fun j => ⟨HA6.out.cell (p := ⟨lb, j, none⟩) hla, HA6.out.cell (p := ⟨wr.heap.size, j, none⟩) hza⟩; clear hb6))
        have HBW6 := Lib.hid (HB1.out.trans (HA6.out.mono HB1.out.size))
        have HRI6 := Lib.hid (HRI.out.below HBW6.out)
        by_cases hE : E = 0
        · subst hE
          have HST2 := Lib.hid (show R = readN d fr l.next (out ++ (scanF Bt.data.toList).1.drop (fr - n)) (l.nums.drop (i + 1)) from by rw [HSTt.out]; exact if_pos rfl)
          have hBn6 := hBn.kept (below_grown HA6.out) (by simp)
          have hz6 := HBW6.out.size
          have hz6a := HA6.out.size
          gi_wp2_with (first
            | (refine ⟨trivial, ?_⟩; gi_at_call 44; refine (callsIn_wide.2 (frames_any Bt _)).mono ?_; rintro e w' ⟨rfl, rfl⟩)
            | fail)
          have hB7 := (Below.refl w6.heap.size w6).alloc (Nat.le_refl _) (.cells #[.string Bt] 9)
          have HRI7 := Lib.hid (HRI6.out.below hB7)
          have hBn7 := hBn6.kept (below_grown hB7) (by simp)
          have hBs7 := Boxed.new w6 9 (.string Bt)
          have hz7 : (w6.alloc (.cells #[.string Bt] 9)).heap.size = w6.heap.size + 1 := by simp
          have hdl : ∀ D ∈ ds, D < w6.heap.size := fun D hD => Nat.lt_of_lt_of_le ((Array.getElem?_eq_some_iff.1 (HRI.out.dd D hD).1).1) hz6
          have hb6 := HRI6.out.bel.size
          refine rangeFunc_asg rfl (by decide) (gf := 74) (lb := #[.pointer (some ⟨w6.heap.size, 0, none⟩)]) rfl trivial (enters_of Tryz.func74 (by kernel_rfl) rfl)
            (frames_stops w6.heap.size w.heap.size (5 - 1) (by decide) Bt (by omega) _ (by omega) hBs7.cell) kf_t (kf_b (by omega) (by omega)) (Below.refl _ _) (fun _ => rfl)
            (RdB w w.heap.size w2.heap.size wr.heap.size w6.heap.size FR fr n out Bt ds)
            (fun _ _ _ => False)
            (rdB_own (by omega) (fun D hD => by have := hdl D hD; omega))
            (fun _ _ _ _ _ hs _ _ => hs)
            ⟨⟨v, HRI7.out.bo, by simpa [keptR] using HRI7.out.row, fun e => by have := (HRI.out.row.lt _ e).2; omega⟩, hBn7, HRI7.out.bf, hBs7, HRI7.out.bel, fun D hD => (HRI7.out.dd D hD).1⟩
            asgR ?assign ?body ?done ?stop
          case assign =>
            intro l x W K hK
            gi_wp2
            exact hK
          case body =>
            rintro l pre x W ⟨⟨v, hv, hrow, hnb⟩, hBn, hBf, hBs, hB, hDD⟩ hlt
            have hc := hv.cell
            have hkl := kept_len fr n pre
            have hle2 := HRI.out.len
            have hin64 : i * 4194304 ≤ 64 * 4194304 := Nat.mul_le_mul_right _ (by have := HN.out; omega)
            have hBz := hB.size
            have e1 : n + (pre ++ [x]).length = n + pre.length + 1 := by rw [List.length_append, List.length_singleton, Nat.add_assoc]
            obtain ⟨c, hcc⟩ : ∃ c, n + pre.length = c := ⟨_, rfl⟩
            rw [hcc] at hBn e1
            have hcw : IntKind.i64.wrap ((c : Int) + 1) = (c : Int) + 1 := by rw [IntKind.wrap_i64]; omega
            have E1 := Lib.hid (show ((n + (pre ++ [x]).length : Nat) : Int) = (c : Int) + 1 from by rw [e1]; rfl)
            have cn' := hBn.cell
            have fn' := hBn.frozen
            have cf' := hBf.cell
            have hon : w2.heap.size ≠ wr.heap.size := by omega
            have hfn : w.heap.size ≠ wr.heap.size := by omega
            have hsn : w6.heap.size ≠ wr.heap.size := by omega
            have hso : w6.heap.size ≠ w2.heap.size := by omega
            have hno : wr.heap.size ≠ w2.heap.size := by omega
            have hfo : w.heap.size ≠ w2.heap.size := by omega
            have hwn : w.heap.size ≤ wr.heap.size := by omega
            have HB' := Lib.hid hB
            by_cases hk : fr ≤ c
            · have hki : FR ≤ (c : Int) := by rw [← HFR.out]; omega
              have HKP := Lib.hid (kept_yes (fr := fr) (n := n) (pre := pre) (by omega) x)
              have hln : (out ++ keptR fr n pre).length ≤ 300000000 := by rw [List.length_append]; omega
              obtain ⟨ln, hlnn⟩ : ∃ ln, (out ++ keptR fr n pre).length = ln := ⟨_, rfl⟩
              obtain ⟨rv, hrv⟩ : ∃ rv, recVals (out ++ keptR fr n pre) = rv := ⟨_, rfl⟩
              rw [hlnn, hrv] at hrow
              rw [hlnn] at hln
              have HRV := Lib.hid (show recVals (out ++ keptR fr n (pre ++ [x])) = rv ++ [.string (bs x.2)] ∧ (out ++ keptR fr n (pre ++ [x])).length = ln + 1 from by
                rw [HKP.out, ← List.append_assoc]
                refine ⟨by rw [← hrv]; simp [recVals], by rw [List.length_append, hlnn]; rfl⟩)
              clear hcc e1 hlnn hrv hB hle2 hin64 hkl
              simp only [asgR, List.setIfInBounds_toArray, List.set_cons_succ, List.set_cons_zero]
              gi_wp2_with (gi_at_builtin; refine wpListIn_append_own_at _ rfl _ _ 55 rfl w.heap.size 9 i0 (.string ⟨#[]⟩) 1 16 Tryz.underlying55 hi0 hz0 hz1 hz2 rfl (by decide) _ _ _ rfl (hrow.alloc _) ⟨W.heap.size, 0, none⟩ 1 1 [.string (bs x.2)] rfl rfl (cell_one_new _ _ _) (by simp [Value.oneCell']) (by unfold maxLen; omega) (by omega) (by simp; omega) ?_; intro v' w1 hown' hgrow _ hat; obtain ⟨g', cap', rfl⟩ := ownsRow_succ hown'; obtain ⟨hv1, hv2, hr2, hk2, hb2⟩ := hv.appended (by decide) hrow hBz (by omega) hown' hgrow; have hc1 := hv1.cell; have hf1 := hv1.frozen; have hBn1 := (hBn.alloc (.cells #[.string (bs x.2)] 9)).kept hgrow (hBn.not_row (by decide) hrow); have hcn1 := hBn1.cell; have hfn1 := hBn1.frozen; have hBf1 := (hBf.alloc (.cells #[.string (bs x.2)] 9)).kept hgrow (hBf.not_row (by decide) hrow); have hBs1 := (hBs.alloc (.cells #[.string (bs x.2)] 9)).kept hgrow (fun e => hnb e.symm); have HAT := Lib.hid hat)
              have hsW := hBs.lt
              have hnb' : (Value.slice (some ⟨g', 0, none⟩) (ln + 1) cap').ownBlock ≠ some w6.heap.size := fun e => by
                rcases HAT.out with h | h
                · exact hnb (h.symm.trans e)
                · rw [e] at h
                  have h2 := Option.some.inj h
                  simp at h2
                  omega
              have hrowF := (hr2.kept (grownBy_setCell' _ wr.heap.size (.int .i64 ((c : Int) + 1))) (.inr (fun e => by
                have h1 := (hBn1.other (B' := w2.heap.size) hno (.slice (some ⟨g', 0, none⟩) (ln + 1) cap')).not_row (by decide) hr2
                exact h1 e.symm)))
              refine ⟨(hk2.trans (KeepsOthers.setCell _ _ _)).from _, ⟨hb2.setCell (p := ⟨wr.heap.size, 0, none⟩) hwn _, fun u hu => ?_⟩, ⟨⟨_, hv2.other hon _, ?_, hnb'⟩, ?_, (hBf1.other hfo _).other hfn _, (hBs1.other hso _).other hsn _, (HB'.out.trans hb2).setCell (p := ⟨wr.heap.size, 0, none⟩) hwn _, fun D hD => (hk2.trans (KeepsOthers.setCell _ _ _)).same D _ (hDD D hD) rfl⟩⟩
              · rw [hBs.cell] at hu
                rw [← hu]
                exact ((hBs1.other hso _).other hsn _).cell
              · rw [HRV.out.1, HRV.out.2]
                exact hrowF
              · rw [E1.out]
                exact (hBn1.other hno _).set _
            · have hki : ¬ FR ≤ (c : Int) := by rw [← HFR.out]; omega
              have HKP := Lib.hid (kept_no (fr := fr) (n := n) (pre := pre) (by omega) x)
              have HBB : Hid (RdB w w.heap.size w2.heap.size wr.heap.size w6.heap.size FR fr n out Bt ds (pre ++ [x]) (W.setCell ⟨wr.heap.size, 0, none⟩ (.int .i64 ((c : Int) + 1)))) := by
                refine ⟨⟨v, hv.other hon _, ?_, hnb⟩, ?_, hBf.other hfn _, hBs.other hsn _, hB.setCell (p := ⟨wr.heap.size, 0, none⟩) hwn _, fun D hD => (KeepsOthers.setCell _ _ _).same D _ (hDD D hD) rfl⟩
                · rw [HKP.out]; exact hrow.kept (grownBy_setCell' W wr.heap.size _) (.inr (hBn.not_row (by decide) hrow).symm)
                · rw [E1.out]; exact hBn.set _
              have HKF : Hid (Kf w.heap.size w6.heap.size W (W.setCell ⟨wr.heap.size, 0, none⟩ (.int .i64 ((c : Int) + 1)))) := ⟨(Below.refl _ _).setCell (p := ⟨wr.heap.size, 0, none⟩) hwn _, fun u hu => by rw [← hu]; exact World.cell?_setCell_other _ _ _ _ (fun e => hsn (Addr.mk.inj e).1.symm)⟩
              clear hcc e1 hB hle2 hin64 hkl
              simp only [asgR, List.setIfInBounds_toArray, List.set_cons_succ, List.set_cons_zero]
              gi_wp2
              exact ⟨(KeepsOthers.setCell _ _ _).from _, HKF.out, HBB.out⟩
          case done =>
            rintro D ys W hD rfl ⟨⟨v9, hv, hrow, -⟩, hBn, hBf, hBs, hB, hDD⟩ hK
            have hQ : keptR fr n (scanQ 0 Bt.data.toList) = (scanF Bt.data.toList).1.drop (fr - n) := by unfold keptR; rw [(scanQ_F Bt.data.toList).1]
            rw [hQ] at hrow
            have hle2 := HRI.out.len
            have HSG : Hid (RdI w w.heap.size w2.heap.size FR d l fr R (N - (i + 1)) W (i + 1) (out ++ (scanF Bt.data.toList).1.drop (fr - n)) v9 (D :: ds)) := by
              refine ⟨by have := HN.out; omega, by rw [HN.out], hBf, hv, hrow, hB, List.nodup_cons.2 ⟨fun h => ?_, HRI.out.nd⟩, fun E hE => ?_, HST2.out.symm, ?_⟩
              · have := hdl D h; omega
              · rcases List.mem_cons.1 hE with rfl | hE
                · exact ⟨hK, by omega⟩
                · exact ⟨hDD E hE, (HRI.out.dd E hE).2⟩
              · have h1 := scan_few _ Bt.data.toList (Nat.lt_add_one _)
                have h2 : Bt.data.toList.length = Bt.size := by simp
                rw [List.length_append, List.length_drop, Nat.add_mul]
                unfold scanF
                omega
            have hDF : ({ target := .collected D, args := #[] } : Deferred) :: marks ds = marks (D :: ds) := rfl
            gi_wp2
            exact ⟨N - (i + 1), by omega, hJ' _ _ _ ⟨i + 1, (out ++ (scanF Bt.data.toList).1.drop (fr - n)), v9, (D :: ds), _, _, _, _, _, _, _, _, _, _, _, _, _, _, _, _, _, _, _, _, _, _, _, _, _, _, _, _, _, _, _, _, _, _, _, _, _, _, _, _, _, _, _, _, _, _, _, _, _, _, _, _, _, _, _, _, _, _, _, _, _, _, _, ⟨HSG.out, by go_num⟩, rfl⟩⟩
          case stop =>
            rintro D c pre W _ _ h _
            exact h.elim
        · have hEb : (E != 0) = true := by simpa using hE
          have HST2 := Lib.hid (show R = ([], E) from by rw [HSTt.out]; exact if_neg hE)
          gi_wp2
          refine leaves_marks (fun W => Below w.heap.size w W) w.heap.size (fun D W hD hi hK => hi.trans (belowK_b (w := w) (Nat.le_refl _) W D _ _ hD hK rfl rfl)) _ _ HRI6.out.nd (fun D hD => (HRI6.out.dd D hD).1) (fun D hD => (HRI6.out.dd D hD).2) HRI6.out.bel (fun w9 hw9 => ?_)
          refine ⟨.tuple #[.slice none 0 0, .int .i64 E], by simp [results, Tryz.results36, go_sem], ?_, ?_⟩
          · intro h
            rw [HST2.out] at h
            exact absurd h hE
          · intro _
            exact ⟨by rw [HST2.out], hw9⟩
    · have hl2i : ¬ (i : Int) + 1 < (N : Int) := by omega
      have hE : (l.nums.drop (i + 1)).headD l.next = l.next := by rw [List.drop_eq_nil_of_le (by rw [HN.out]; omega)]; rfl
      rw [hE] at hSK HSTEP
      clear hdr hn hE
      by_cases hc : l.next ≤ fr
      · have HSK := Lib.hid (hSK hc)
        have hci : NX ≤ FR := by rw [← HFR.out, ← HNX.out]; omega
        clear hSK
        gi_wp2
        exact ⟨N - (i + 1), by omega, hJ' _ _ _ ⟨i + 1, out, v, ds, _, _, _, _, _, _, _, _, _, _, _, _, _, _, _, _, _, _, _, _, _, _, _, _, _, _, _, _, _, _, _, _, _, _, _, _, _, _, _, _, _, _, _, _, _, _, _, _, _, _, _, _, _, _, _, _, _, _, _, _, _, _, _, ⟨HSK.out, by go_num⟩, rfl⟩⟩
      · have hci : ¬ NX ≤ FR := by rw [← HFR.out, ← HNX.out]; omega
        have HST := HSTEP.out
        rw [if_neg hc] at HST
        clear hSK HSTEP
        obtain ⟨Bt, E, hRd⟩ : ∃ Bt E, d.read (nameN n) = (Bt, E) := ⟨_, _, rfl⟩
        have hBt : Bt.size ≤ 4194304 := by
          have := read_size HOK.out (nameN n)
          rw [hRd] at this
          exact this
        rw [hRd] at HST
        simp only at HST
        have hnn : (nameN n).size ≤ maxLen := by rw [nameN_size]; unfold maxLen; decide
        have HNMc := Lib.hid (fun W (hP : Pow W) => name_any n hnb.1 hnb.2 W hP)
        have HRDc : Hid (∀ W, DAt W db m d → Calls Tryz.prog 72 #[.pointer (some ⟨db, 0, none⟩), .string (nameN n)] W fun e w' => e = .returned (.tuple #[.string Bt, .int .i64 E]) ∧ Below W.heap.size W w') := fun W h => by
          have h1 := read_any h hnn
          rw [hRd] at h1
          exact h1
        obtain ⟨NM, hNM⟩ : ∃ NM, nameN n = NM := ⟨_, rfl⟩
        rw [hNM] at HNMc HRDc
        have HLa := Lib.hid ((HL.out.below HRI.out.bel).below hB1)
        have HDa : Hid (DAt (wr.alloc (.cells #[.int .i64 (n : Int)] 3)) db m d) := DC.below (DC.below HD.out HRI.out.bel) hB1
        have hBn := Boxed.new wr 3 (.int .i64 (n : Int))
        have hza : wr.heap.size < (wr.alloc (.cells #[.int .i64 (n : Int)] 3)).heap.size := by simp
        have c0a := cA (.cells #[.int .i64 (n : Int)] 3) _ _ _ hlr.1 c0
        have HSTt := Lib.hid HST
        clear hRd hnn hNM HST cN c4 c0 cF cO
        gi_upto_region 11 with fail
        have HB1 := Lib.hid hB1
        clear hB1
        generalize wr.alloc (.cells #[.int .i64 (n : Int)] 3) = wa at *
        have cBn := hBn.cell
        have hla : lb < wa.heap.size := by omega
        have HDad : Hid (DAt wa.drew db m d) := HDa.out.drew
        have HLad := Lib.hid HLa.out.drew
        refine wpIn_wide.2 ?_
        go_region_held3 (fun w' => ∀ j, w'.cell? ⟨lb, j, none⟩ = wa.cell? ⟨lb, j, none⟩ ∧ w'.cell? ⟨wr.heap.size, j, none⟩ = wa.cell? ⟨wr.heap.size, j, none⟩) ((first | assumption | (intro j; exact ⟨rfl, rfl⟩)))
          (first
            | (go_at_call 48; (with_reducible refine (HNMc.out _ HLad.out.pow.here).mono ?_); rintro e w5 ⟨rfl, hb5⟩; have k5 : ∀ j, w5.cell? ⟨lb, j, none⟩ = wa.cell? ⟨lb, j, none⟩ ∧ w5.cell? ⟨wr.heap.size, j, none⟩ = wa.cell? ⟨wr.heap.size, j, none⟩ := fun j => ⟨(hb5.cell (p := ⟨lb, j, none⟩) hla).trans rfl, (hb5.cell (p := ⟨wr.heap.size, j, none⟩) hza).trans rfl⟩; have HD5 : Hid (DAt w5 db m d) := DC.below HDad.out hb5; have HA5 := Lib.hid (show Below wa.heap.size wa w5 from (Below.refl _ _).drew.trans hb5); clear hb5)
            | (go_at_call 72; (with_reducible refine (HRDc.out _ HD5.out).mono ?_); rintro e w6 ⟨rfl, hb6⟩; have HA6 := Lib.hid (HA5.out.trans (hb6.mono HA5.out.size)); have k6 : ∀ j, w6.cell? ⟨lb, j, none⟩ = wa.cell? ⟨lb, j, none⟩ ∧ w6.cell? ⟨wr.heap.size, j, none⟩ = wa.cell? ⟨wr.heap.size, j, none⟩ := fun j => ⟨HA6.out.cell (p := ⟨lb, j, none⟩) hla, HA6.out.cell (p := ⟨wr.heap.size, j, none⟩) hza⟩; clear hb6))
        have HBW6 := Lib.hid (HB1.out.trans (HA6.out.mono HB1.out.size))
        have HRI6 := Lib.hid (HRI.out.below HBW6.out)
        by_cases hE : E = 0
        · subst hE
          have HST2 := Lib.hid (show R = readN d fr l.next (out ++ (scanF Bt.data.toList).1.drop (fr - n)) (l.nums.drop (i + 1)) from by rw [HSTt.out]; exact if_pos rfl)
          have hBn6 := hBn.kept (below_grown HA6.out) (by simp)
          have hz6 := HBW6.out.size
          have hz6a := HA6.out.size
          gi_wp2_with (first
            | (refine ⟨trivial, ?_⟩; gi_at_call 44; refine (callsIn_wide.2 (frames_any Bt _)).mono ?_; rintro e w' ⟨rfl, rfl⟩)
            | fail)
          have hB7 := (Below.refl w6.heap.size w6).alloc (Nat.le_refl _) (.cells #[.string Bt] 9)
          have HRI7 := Lib.hid (HRI6.out.below hB7)
          have hBn7 := hBn6.kept (below_grown hB7) (by simp)
          have hBs7 := Boxed.new w6 9 (.string Bt)
          have hz7 : (w6.alloc (.cells #[.string Bt] 9)).heap.size = w6.heap.size + 1 := by simp
          have hdl : ∀ D ∈ ds, D < w6.heap.size := fun D hD => Nat.lt_of_lt_of_le ((Array.getElem?_eq_some_iff.1 (HRI.out.dd D hD).1).1) hz6
          have hb6 := HRI6.out.bel.size
          refine rangeFunc_asg rfl (by decide) (gf := 74) (lb := #[.pointer (some ⟨w6.heap.size, 0, none⟩)]) rfl trivial (enters_of Tryz.func74 (by kernel_rfl) rfl)
            (frames_stops w6.heap.size w.heap.size (5 - 1) (by decide) Bt (by omega) _ (by omega) hBs7.cell) kf_t (kf_b (by omega) (by omega)) (Below.refl _ _) (fun _ => rfl)
            (RdB w w.heap.size w2.heap.size wr.heap.size w6.heap.size FR fr n out Bt ds)
            (fun _ _ _ => False)
            (rdB_own (by omega) (fun D hD => by have := hdl D hD; omega))
            (fun _ _ _ _ _ hs _ _ => hs)
            ⟨⟨v, HRI7.out.bo, by simpa [keptR] using HRI7.out.row, fun e => by have := (HRI.out.row.lt _ e).2; omega⟩, hBn7, HRI7.out.bf, hBs7, HRI7.out.bel, fun D hD => (HRI7.out.dd D hD).1⟩
            asgR ?assign ?body ?done ?stop
          case assign =>
            intro l x W K hK
            gi_wp2
            exact hK
          case body =>
            rintro l pre x W ⟨⟨v, hv, hrow, hnb⟩, hBn, hBf, hBs, hB, hDD⟩ hlt
            have hc := hv.cell
            have hkl := kept_len fr n pre
            have hle2 := HRI.out.len
            have hin64 : i * 4194304 ≤ 64 * 4194304 := Nat.mul_le_mul_right _ (by have := HN.out; omega)
            have hBz := hB.size
            have e1 : n + (pre ++ [x]).length = n + pre.length + 1 := by rw [List.length_append, List.length_singleton, Nat.add_assoc]
            obtain ⟨c, hcc⟩ : ∃ c, n + pre.length = c := ⟨_, rfl⟩
            rw [hcc] at hBn e1
            have hcw : IntKind.i64.wrap ((c : Int) + 1) = (c : Int) + 1 := by rw [IntKind.wrap_i64]; omega
            have E1 := Lib.hid (show ((n + (pre ++ [x]).length : Nat) : Int) = (c : Int) + 1 from by rw [e1]; rfl)
            have cn' := hBn.cell
            have fn' := hBn.frozen
            have cf' := hBf.cell
            have hon : w2.heap.size ≠ wr.heap.size := by omega
            have hfn : w.heap.size ≠ wr.heap.size := by omega
            have hsn : w6.heap.size ≠ wr.heap.size := by omega
            have hso : w6.heap.size ≠ w2.heap.size := by omega
            have hno : wr.heap.size ≠ w2.heap.size := by omega
            have hfo : w.heap.size ≠ w2.heap.size := by omega
            have hwn : w.heap.size ≤ wr.heap.size := by omega
            have HB' := Lib.hid hB
            by_cases hk : fr ≤ c
            · have hki : FR ≤ (c : Int) := by rw [← HFR.out]; omega
              have HKP := Lib.hid (kept_yes (fr := fr) (n := n) (pre := pre) (by omega) x)
              have hln : (out ++ keptR fr n pre).length ≤ 300000000 := by rw [List.length_append]; omega
              obtain ⟨ln, hlnn⟩ : ∃ ln, (out ++ keptR fr n pre).length = ln := ⟨_, rfl⟩
              obtain ⟨rv, hrv⟩ : ∃ rv, recVals (out ++ keptR fr n pre) = rv := ⟨_, rfl⟩
              rw [hlnn, hrv] at hrow
              rw [hlnn] at hln
              have HRV := Lib.hid (show recVals (out ++ keptR fr n (pre ++ [x])) = rv ++ [.string (bs x.2)] ∧ (out ++ keptR fr n (pre ++ [x])).length = ln + 1 from by
                rw [HKP.out, ← List.append_assoc]
                refine ⟨by rw [← hrv]; simp [recVals], by rw [List.length_append, hlnn]; rfl⟩)
              clear hcc e1 hlnn hrv hB hle2 hin64 hkl
              simp only [asgR, List.setIfInBounds_toArray, List.set_cons_succ, List.set_cons_zero]
              gi_wp2_with (gi_at_builtin; refine wpListIn_append_own_at _ rfl _ _ 55 rfl w.heap.size 9 i0 (.string ⟨#[]⟩) 1 16 Tryz.underlying55 hi0 hz0 hz1 hz2 rfl (by decide) _ _ _ rfl (hrow.alloc _) ⟨W.heap.size, 0, none⟩ 1 1 [.string (bs x.2)] rfl rfl (cell_one_new _ _ _) (by simp [Value.oneCell']) (by unfold maxLen; omega) (by omega) (by simp; omega) ?_; intro v' w1 hown' hgrow _ hat; obtain ⟨g', cap', rfl⟩ := ownsRow_succ hown'; obtain ⟨hv1, hv2, hr2, hk2, hb2⟩ := hv.appended (by decide) hrow hBz (by omega) hown' hgrow; have hc1 := hv1.cell; have hf1 := hv1.frozen; have hBn1 := (hBn.alloc (.cells #[.string (bs x.2)] 9)).kept hgrow (hBn.not_row (by decide) hrow); have hcn1 := hBn1.cell; have hfn1 := hBn1.frozen; have hBf1 := (hBf.alloc (.cells #[.string (bs x.2)] 9)).kept hgrow (hBf.not_row (by decide) hrow); have hBs1 := (hBs.alloc (.cells #[.string (bs x.2)] 9)).kept hgrow (fun e => hnb e.symm); have HAT := Lib.hid hat)
              have hsW := hBs.lt
              have hnb' : (Value.slice (some ⟨g', 0, none⟩) (ln + 1) cap').ownBlock ≠ some w6.heap.size := fun e => by
                rcases HAT.out with h | h
                · exact hnb (h.symm.trans e)
                · rw [e] at h
                  have h2 := Option.some.inj h
                  simp at h2
                  omega
              have hrowF := (hr2.kept (grownBy_setCell' _ wr.heap.size (.int .i64 ((c : Int) + 1))) (.inr (fun e => by
                have h1 := (hBn1.other (B' := w2.heap.size) hno (.slice (some ⟨g', 0, none⟩) (ln + 1) cap')).not_row (by decide) hr2
                exact h1 e.symm)))
              refine ⟨(hk2.trans (KeepsOthers.setCell _ _ _)).from _, ⟨hb2.setCell (p := ⟨wr.heap.size, 0, none⟩) hwn _, fun u hu => ?_⟩, ⟨⟨_, hv2.other hon _, ?_, hnb'⟩, ?_, (hBf1.other hfo _).other hfn _, (hBs1.other hso _).other hsn _, (HB'.out.trans hb2).setCell (p := ⟨wr.heap.size, 0, none⟩) hwn _, fun D hD => (hk2.trans (KeepsOthers.setCell _ _ _)).same D _ (hDD D hD) rfl⟩⟩
              · rw [hBs.cell] at hu
                rw [← hu]
                exact ((hBs1.other hso _).other hsn _).cell
              · rw [HRV.out.1, HRV.out.2]
                exact hrowF
              · rw [E1.out]
                exact (hBn1.other hno _).set _
            · have hki : ¬ FR ≤ (c : Int) := by rw [← HFR.out]; omega
              have HKP := Lib.hid (kept_no (fr := fr) (n := n) (pre := pre) (by omega) x)
              have HBB : Hid (RdB w w.heap.size w2.heap.size wr.heap.size w6.heap.size FR fr n out Bt ds (pre ++ [x]) (W.setCell ⟨wr.heap.size, 0, none⟩ (.int .i64 ((c : Int) + 1)))) := by
                refine ⟨⟨v, hv.other hon _, ?_, hnb⟩, ?_, hBf.other hfn _, hBs.other hsn _, hB.setCell (p := ⟨wr.heap.size, 0, none⟩) hwn _, fun D hD => (KeepsOthers.setCell _ _ _).same D _ (hDD D hD) rfl⟩
                · rw [HKP.out]; exact hrow.kept (grownBy_setCell' W wr.heap.size _) (.inr (hBn.not_row (by decide) hrow).symm)
                · rw [E1.out]; exact hBn.set _
              have HKF : Hid (Kf w.heap.size w6.heap.size W (W.setCell ⟨wr.heap.size, 0, none⟩ (.int .i64 ((c : Int) + 1)))) := ⟨(Below.refl _ _).setCell (p := ⟨wr.heap.size, 0, none⟩) hwn _, fun u hu => by rw [← hu]; exact World.cell?_setCell_other _ _ _ _ (fun e => hsn (Addr.mk.inj e).1.symm)⟩
              clear hcc e1 hB hle2 hin64 hkl
              simp only [asgR, List.setIfInBounds_toArray, List.set_cons_succ, List.set_cons_zero]
              gi_wp2
              exact ⟨(KeepsOthers.setCell _ _ _).from _, HKF.out, HBB.out⟩
          case done =>
            rintro D ys W hD rfl ⟨⟨v9, hv, hrow, -⟩, hBn, hBf, hBs, hB, hDD⟩ hK
            have hQ : keptR fr n (scanQ 0 Bt.data.toList) = (scanF Bt.data.toList).1.drop (fr - n) := by unfold keptR; rw [(scanQ_F Bt.data.toList).1]
            rw [hQ] at hrow
            have hle2 := HRI.out.len
            have HSG : Hid (RdI w w.heap.size w2.heap.size FR d l fr R (N - (i + 1)) W (i + 1) (out ++ (scanF Bt.data.toList).1.drop (fr - n)) v9 (D :: ds)) := by
              refine ⟨by have := HN.out; omega, by rw [HN.out], hBf, hv, hrow, hB, List.nodup_cons.2 ⟨fun h => ?_, HRI.out.nd⟩, fun E hE => ?_, HST2.out.symm, ?_⟩
              · have := hdl D h; omega
              · rcases List.mem_cons.1 hE with rfl | hE
                · exact ⟨hK, by omega⟩
                · exact ⟨hDD E hE, (HRI.out.dd E hE).2⟩
              · have h1 := scan_few _ Bt.data.toList (Nat.lt_add_one _)
                have h2 : Bt.data.toList.length = Bt.size := by simp
                rw [List.length_append, List.length_drop, Nat.add_mul]
                unfold scanF
                omega
            have hDF : ({ target := .collected D, args := #[] } : Deferred) :: marks ds = marks (D :: ds) := rfl
            gi_wp2
            exact ⟨N - (i + 1), by omega, hJ' _ _ _ ⟨i + 1, (out ++ (scanF Bt.data.toList).1.drop (fr - n)), v9, (D :: ds), _, _, _, _, _, _, _, _, _, _, _, _, _, _, _, _, _, _, _, _, _, _, _, _, _, _, _, _, _, _, _, _, _, _, _, _, _, _, _, _, _, _, _, _, _, _, _, _, _, _, _, _, _, _, _, _, _, _, _, _, _, _, _, ⟨HSG.out, by go_num⟩, rfl⟩⟩
          case stop =>
            rintro D c pre W _ _ h _
            exact h.elim
        · have hEb : (E != 0) = true := by simpa using hE
          have HST2 := Lib.hid (show R = ([], E) from by rw [HSTt.out]; exact if_neg hE)
          gi_wp2
          refine leaves_marks (fun W => Below w.heap.size w W) w.heap.size (fun D W hD hi hK => hi.trans (belowK_b (w := w) (Nat.le_refl _) W D _ _ hD hK rfl rfl)) _ _ HRI6.out.nd (fun D hD => (HRI6.out.dd D hD).1) (fun D hD => (HRI6.out.dd D hD).2) HRI6.out.bel (fun w9 hw9 => ?_)
          refine ⟨.tuple #[.slice none 0 0, .int .i64 E], by simp [results, Tryz.results36, go_sem], ?_, ?_⟩
          · intro h
            rw [HST2.out] at h
            exact absurd h hE
          · intro _
            exact ⟨by rw [HST2.out], hw9⟩
  · obtain rfl : i = N := by omega
    have hli : ¬ (i : Int) < (i : Int) := by omega
    have HRE : Hid (R = (out, 0)) := by
      show _ = _
      rw [← HRI.out.res, List.drop_eq_nil_of_le (by rw [HN.out]; exact Nat.le_refl _)]
      rfl
    gi_wp2
    refine leaves_marks (fun W => W.ownsRow w.heap.size 9 1 v out.length (recVals out) ∧ Below w.heap.size w W) w.heap.size (fun D W hD hi hK => ⟨ownsRow_putObj hi.1 (.deferred none) hK rfl, hi.2.trans (belowK_b (w := w) (Nat.le_refl _) W D _ _ hD hK rfl rfl)⟩) _ _ HRI.out.nd (fun D hD => (HRI.out.dd D hD).1) (fun D hD => (HRI.out.dd D hD).2) ⟨HRI.out.row, HRI.out.bel⟩ (fun w9 hw9 => ?_)
    refine ⟨.tuple #[v, .int .i64 0], by simp [results, Tryz.results36, go_sem], ?_, ?_⟩
    · intro _
      exact ⟨v, rfl, by rw [HRE.out]; exact ⟨hw9.2, hw9.1⟩⟩
    · intro h
      rw [HRE.out] at h
      exact absurd rfl h
end Go.Proofs.YtnpgjlhnlakgpaaGreatDoor

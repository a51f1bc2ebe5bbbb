/- A map of pairs of numbers; the contract of freshetlaw07.names. -/
import Derived.Test.YtokbdleokihdaaaDoorG23
import Derived.Test.YtokbdleokihdaaaDoorG18
import Derived.Maps.Own
import Derived.Maps.OwnOps
import Derived.Maps.Views
import Derived.Maps.Keyed
import Derived.WideKeyArr
import Derived.WideKeyPair
namespace Go.Proofs.YtokbdleokihdaaaDoor
open Go.RowKit Go.Maps
open Go.WideMaps (ArrKey keyOf_pair)

theorem pairKey : ArrKey Tryd.prog 45 3 2 := ⟨Tryd.underlying45, by kernel_rfl, by kernel_rfl, by kernel_rfl⟩
theorem pairLaw : Keyed Tryd.prog 45 := Keyed.of_law pairKey.law
theorem typesSome : ∃ m, Tryd.prog.types.size = m + 1 := ⟨Tryd.prog.types.size - 1, by kernel_rfl⟩
theorem zeroInt (w : World) : (zeroValue 3).run Tryd.prog w = .ok (.int .i64 0) w := by kernel_rfl
def In64i (a : Int) : Prop := -9223372036854775808 ≤ a ∧ a ≤ 9223372036854775807
theorem In64i.wf {a : Int} (h : In64i a) : (Lit.int .i64 a).wf = true := WalkArith.wf_i64 (by unfold In64i at h; omega)
def pairL (a c : Int) : Lit := .string (keyBytes [.int .i64 a, .int .i64 c])
theorem key_pair {a c : Int} (ha : In64i a) (hc : In64i c) : keyOf Tryd.prog 45 (.agg #[.int .i64 a, .int .i64 c]) = some (pairL a c) := keyOf_pair pairKey Tryd.underlying3 typesSome ha.wf hc.wf
theorem pairL_inj {a c a' c' : Int} (ha : In64i a) (hc : In64i c) (ha' : In64i a') (hc' : In64i c') (h : pairL a c = pairL a' c') : a = a' ∧ c = c' := by
  have h1 := key_pair ha hc
  have h2 := key_pair ha' hc'
  rw [← h] at h2
  have := pairLaw.inj h1 h2
  simpa using this
/-- A map in a block: of at most so many entries, and what stands at each pair. -/
def MI (w : World) (b n : Nat) (f : Int → Int → Int) : Prop :=
  ∃ D : DataW Unit, w.ownsMap Tryd.prog 45 (plainElem Tryd.prog 3) b n D ∧ IsMap D ∧ ∀ a c, In64i a → In64i c → D.atKey (pairL a c) (.lit (.int .i64 0)) = .lit (.int .i64 (f a c))
theorem MI.lt {w : World} {b n : Nat} {f : Int → Int → Int} (h : MI w b n f) : b < w.heap.size := by
  obtain ⟨D, h, -⟩ := h
  exact h.lt
/-- One pair more. -/
def updF (f : Int → Int → Int) (cs : List (Int × Int)) : Int → Int → Int := fun a c => if (a, c) ∈ cs then 1 else f a c
theorem updF_nil (f : Int → Int → Int) : updF f [] = f := by funext a c; simp [updF]
theorem updF_append (f : Int → Int → Int) (cs ds : List (Int × Int)) : updF (updF f cs) ds = updF f (cs ++ ds) := by
  funext a c
  unfold updF
  by_cases h1 : (a, c) ∈ ds
  · rw [if_pos h1, if_pos (List.mem_append_right _ h1)]
  · by_cases h2 : (a, c) ∈ cs
    · rw [if_neg h1, if_pos h2, if_pos (List.mem_append_left _ h2)]
    · rw [if_neg h1, if_neg h2, if_neg (fun h => by rcases List.mem_append.1 h with h | h; exact h2 h; exact h1 h)]
theorem MI.put {w' : World} {b n : Nat} {f : Int → Int → Int} {D : DataW Unit} {a c : Int} (ha : In64i a) (hc : In64i c) (hD : IsMap D) (hat : ∀ a c, In64i a → In64i c → D.atKey (pairL a c) (.lit (.int .i64 0)) = .lit (.int .i64 (f a c)))
    (h : w'.ownsMap Tryd.prog 45 (plainElem Tryd.prog 3) b (n + 1) (D.put (pairL a c) (.lit (.int .i64 1)))) : MI w' b (n + 1) (updF f [(a, c)]) := by
  refine ⟨_, h, hD.put _ _, fun a' c' ha' hc' => ?_⟩
  unfold updF
  by_cases he : a' = a ∧ c' = c
  · obtain ⟨rfl, rfl⟩ := he
    rw [atKey_put_same hD (k := pairL a' c') (by unfold pairL WideAt.IsKeyLit; trivial), if_pos (by simp)]
  · rw [atKey_put_other (fun h => he (pairL_inj ha' hc' ha hc h)), hat a' c' ha' hc', if_neg (by simpa using he)]

/-- All but one block is kept. -/
structure K1 (b : Nat) (w w' : World) : Prop where
  os : w'.os = w.os
  tape : w'.tape = w.tape
  output : w'.output = w.output
  size : w.heap.size ≤ w'.heap.size
  block : ∀ k, k < w.heap.size → k ≠ b → w'.heap[k]? = w.heap[k]?
theorem K1.refl (b : Nat) (w : World) : K1 b w w := ⟨rfl, rfl, rfl, Nat.le_refl _, fun _ _ _ => rfl⟩
theorem K1.trans {b : Nat} {x y z : World} (h : K1 b x y) (k : K1 b y z) : K1 b x z :=
  ⟨k.os.trans h.os, k.tape.trans h.tape, k.output.trans h.output, Nat.le_trans h.size k.size, fun i hi h1 => (k.block i (Nat.lt_of_lt_of_le hi h.size) h1).trans (h.block i hi h1)⟩
theorem K1.of_below {b : Nat} {w w' : World} (h : Below w.heap.size w w') : K1 b w w' := ⟨h.os, h.tape, h.output, h.size, fun k hk _ => h.block k hk⟩
theorem K1.alloc {b : Nat} {w0 w : World} (h : K1 b w0 w) (o : Obj) : K1 b w0 (w.alloc o) := h.trans (K1.of_below ((Below.refl _ _).alloc (Nat.le_refl _) o))
theorem K1.map {b : Nat} {w0 w w' : World} (h : K1 b w0 w) (hg : w.grownBy w' (some b)) : K1 b w0 w' :=
  h.trans ⟨hg.os, hg.tape, hg.output, hg.size, fun k hk h2 => hg.block k hk (by simp; exact h2)⟩
theorem K1.belowN {B : Nat} {b : Nat} {w0 w w' : World} (hB : Below B w0 w) (h : K1 b w w') (hw : B ≤ w.heap.size) (hb : B ≤ b) : Below B w0 w' :=
  hB.trans ⟨h.os, h.tape, h.output, h.size, fun k hk => h.block k (by omega) (by omega)⟩
theorem MI.below {w w' : World} {b n : Nat} {f : Int → Int → Int} (h : MI w b n f) (hb : Below w.heap.size w w') : MI w' b n f := by
  have hl := h.lt
  obtain ⟨D, ⟨es, clock, h1, h2⟩, h3⟩ := h
  exact ⟨D, ⟨es, clock, by rw [hb.block b hl]; exact h1, h2⟩, h3⟩
theorem MI.alloc {w : World} {b n : Nat} {f : Int → Int → Int} (h : MI w b n f) (o : Obj) : MI (w.alloc o) b n f := h.below ((Below.refl _ _).alloc (Nat.le_refl _) _)

theorem colsL_append : ∀ l m : List Ex, colsL (l ++ m) = colsL l ++ colsL m
  | [], m => by simp [colsL]
  | x :: l, m => by simp [colsL, colsL_append l m]
theorem colsL_take (l : List Ex) (i : Nat) (h : i < l.length) : colsL (l.take (i + 1)) = colsL (l.take i) ++ (l[i]).cols := by
  rw [List.take_succ_eq_append_getElem h, colsL_append]
  simp [colsL]
theorem colsL_len (l : List Ex) (i : Nat) : (colsL (l.take i)).length ≤ (colsL l).length := by
  rw [show colsL l = colsL (l.take i) ++ colsL (l.drop i) by rw [← colsL_append, List.take_append_drop], List.length_append]
  omega

set_option maxRecDepth 100000 in
set_option maxHeartbeats 4000000 in
theorem names_any {w : World} {x : Ex} (hx : ExAt w x) (b : Nat) (hwb : w.heap.size ≤ b) : x.wfs → ∀ (n : Nat) (f : Int → Int → Int), n + x.cols.length ≤ 1000000000 → ∀ W, Below w.heap.size w W → MI W b n f →
    Calls Tryd.prog 15 #[x.v, .map (some b)] W fun e w' => e = .returned (.tuple #[]) ∧ MI w' b (n + x.cols.length) (updF f x.cols) ∧ K1 b W w' := by
  induction hx with
  | @mk k t nl l lev col op kids p cap ps ns cs h1 h2 hk hl hks ih =>
    intro hwf n f hn W hW hM
    have L0 := Lib.hid (show LZ W [(W.heap.size, #[.int .i64 k, .int .i64 t, .bool nl, .int .i64 l.k, .int .i64 l.i, .string l.s, .int .i64 lev, .int .i64 col, .int .i64 op, .slice p kids.length cap, .slice ps ns cs])] _ from (LZ.start W).push #[.int .i64 k, .int .i64 t, .bool nl, .int .i64 l.k, .int .i64 l.i, .string l.s, .int .i64 lev, .int .i64 col, .int .i64 op, .slice p kids.length cap, .slice ps ns cs] 27)
    have HM := Lib.hid hM
    by_cases k2 : k = 2
    · subst k2
      have hc : (Ex.node 2 t nl l lev col op (.slice p kids.length cap) (.slice ps ns cs) kids).cols = [(lev, col)] := by rw [Ex.cols, if_pos rfl]
      have hlc := hwf (lev, col) (by rw [hc]; simp)
      rw [hc] at hn ⊢
      simp only [List.length_singleton] at hn ⊢
      obtain ⟨D, hown, hD, hat⟩ := hM.alloc (.cells #[.int .i64 2, .int .i64 t, .bool nl, .int .i64 l.k, .int .i64 l.i, .string l.s, .int .i64 lev, .int .i64 col, .int .i64 op, .slice p kids.length cap, .slice ps ns cs] 27)
      have HO := Lib.hid hown
      have HAT := Lib.hid hat
      have HLC := Lib.hid hlc
      have hkey := key_pair (a := lev) (c := col) hlc.1 hlc.2
      have hbW := hM.lt
      obtain ⟨⟨c0, c1, c2, c3⟩, ⟨c4, c5, c6, c7⟩, c8, c9, c10⟩ := (L0.out.l _ (.head _)).cells
      have hcl := (L0.out.l _ (.head _)).lt
      simp only [Ex.v]
      clear hk hks ih hwf hM hown hat hc hW h1 hl hlc
      go_enter Tryd.func15, Tryd.ntmps15
      go_wp2_with (first | (at_mapUpdate; refine wpList_mapUpdate_own _ rfl _ _ _ 43 rfl 45 3 pairLaw Tryd.underlying43 _ b n _ rfl HO.out (by unfold maxLen; omega) _ _ _ rfl rfl hkey _ [] (plainElem_int Tryd.underlying3 (by decide)) ?_; intro w1 hown1 hgrow1; have HN := Lib.hid (MI.put HLC.out.1 HLC.out.2 hD HAT.out hown1); have HG := Lib.hid hgrow1; have d0 := hgrow1.cell c0 (by simp; omega); have d9 := hgrow1.cell c9 (by simp; omega); clear hown1 hgrow1; go_frame) | fail)
      go_end0
      exact ⟨rfl, HN.out, ((K1.refl b W).alloc _).map HG.out⟩
    · by_cases k3 : k = 3
      · subst k3
        have hc : (Ex.node 3 t nl l lev col op (.slice p kids.length cap) (.slice ps ns cs) kids).cols = colsL kids := by rw [Ex.cols, if_neg (by decide), if_pos rfl]
        have hwf2 : ∀ y ∈ kids, y.wfs := fun y hy p hp => hwf p (by rw [hc]; exact mem_colsL hy hp)
        rw [hc] at hn ⊢
        have HK := Lib.hid hk
        have HI := Lib.hid ih
        have HKS := Lib.hid hks
        have HW := Lib.hid hW
        have HWF := Lib.hid hwf2
        have HN0 := Lib.hid hn
        have hbW := hM.lt
        obtain ⟨⟨c0, c1, c2, c3⟩, ⟨c4, c5, c6, c7⟩, c8, c9, c10⟩ := (L0.out.l _ (.head _)).cells
        have hcl := (L0.out.l _ (.head _)).lt
        have hL : kids.length ≤ 9223372036854775807 := by omega
        simp only [Ex.v]
        clear hk hks ih hwf hwf2 hM hc hW h1 hl hn
        generalize hlen : kids.length = m at *
        have HL := Lib.hid hlen
        clear hlen
        go_enter Tryd.func15, Tryd.ntmps15
        go_wp2_with fail
        go_loopw [21] (fun iv wr => ∃ j : Nat, j ≤ m ∧ iv = .int .i64 (j : Int) ∧ MI wr b (n + (colsL (kids.take j)).length) (updF f (colsL (kids.take j))) ∧ K1 b W wr) (fun iv _ => m - (intOf iv).toNat)
        case atStart => exact ⟨0, Nat.zero_le _, rfl, by rw [List.take_zero, colsL, updF_nil]; exact HM.out.alloc _, (K1.refl b W).alloc _⟩
        case round =>
          obtain ⟨j, hj, rfl, hmr, hkr⟩ := hrel
          have HMR := Lib.hid hmr
          have HKR := Lib.hid hkr
          have hWr := hkr.size
          have hww := HW.out.size
          have HBW := Lib.hid (K1.belowN HW.out hkr HW.out.size hwb)
          clear hmr hkr c0 c1 c2 c3 c4 c5 c6 c7 c8 c9 c10
          by_cases hlt : j < m
          · have hjl : j < kids.length := by rw [HL.out]; exact hlt
            have hne : kids ≠ [] := fun h => by rw [h] at hjl; simp at hjl
            obtain ⟨kb, o, rfl, hbk, hcc⟩ := HK.out.resolve_left hne
            obtain ⟨y, hy⟩ : ∃ y, kids[j] = y := ⟨_, rfl⟩
            have hyj : kids[j]? = some y := by rw [List.getElem?_eq_getElem hjl, hy]
            have hmem : y ∈ kids := List.mem_of_getElem? hyj
            have hex := HKS.out y hmem
            have hct := colsL_take kids j hjl
            rw [hy] at hct
            have hcl2 := colsL_len kids (j + 1)
            have hn0 := HN0.out
            have HCT := Lib.hid hct
            rw [hct, List.length_append] at hcl2
            have HY := Lib.hid (HI.out y hmem (HWF.out y hmem) (n + (colsL (kids.take j)).length) (updF f (colsL (kids.take j))) (by omega))
            clear hct hcl2 hn0
            generalize hcy : y.cols = cy at *
            obtain ⟨k', t', nl', l', lev', col', op', kv', sv', kids'⟩ := y
            obtain ⟨p', cap', ps', ns', cs', rfl, rfl⟩ := hex.slices
            obtain ⟨⟨c0, c1, c2, c3⟩, ⟨c4, c5, c6, c7⟩, c8, c9, c10⟩ := hcc.at HBW.out hbk hyj
            clear hcc hex
            simp only [Ex.v] at HY
            go_wp2_with (first | (go_at_call 15; refine (HY.out _ (HBW.out.alloc (by omega) _) (HMR.out.alloc _)).mono ?_; rintro e w2 ⟨rfl, hm2, hk2⟩; have HM2 := Lib.hid hm2; have HK2 := Lib.hid ((HKR.out.alloc _).trans hk2); clear hm2 hk2) | fail)
            go_roundw
            case rel => exact ⟨j + 1, by omega, by go_num, by rw [HCT.out, List.length_append, ← updF_append, ← Nat.add_assoc]; exact HM2.out, HK2.out⟩
            case measure => simp [intOf]; omega
          · obtain rfl : j = m := by omega
            have hE : kids.take j = kids := List.take_of_length_le (by rw [HL.out]; omega)
            rw [hE] at HMR
            go_wp2_with fail
            go_end0
            exact ⟨rfl, HMR.out, HKR.out⟩
      · have hc : (Ex.node k t nl l lev col op (.slice p kids.length cap) (.slice ps ns cs) kids).cols = [] := by rw [Ex.cols, if_neg k2, if_neg k3]
        rw [hc, updF_nil]
        have b2 : (k == 2) = false := by simpa using k2
        have b3 : (k == 3) = false := by simpa using k3
        simp only [Ex.v]
        clear hk hks ih hwf hM hc hW h1 hl hn k2 k3
        go_enter Tryd.func15, Tryd.ntmps15
        go_wp2_with fail
        go_end0
        exact ⟨rfl, HM.out.alloc _, (K1.refl b W).alloc _⟩
end Go.Proofs.YtokbdleokihdaaaDoor

/- LexPlaces: the walk of the law. -/
import Derived.Test.YtnpgjlhnlakgpaaDoorLexLx
import Derived.Test.YtnpgjlhnlakgpaaDoorLexC
import Derived.Test.YtnpgjlhnlakgpaaDoorDatEq
namespace Go.Proofs.YtnpgjlhnlakgpaaDoor
open Go.RowKit

theorem lexGo_bad : ∀ (f : Nat) (l : List UInt8) (p n : Nat) (e : Int × Nat), lexGo f l p n = .inl e → e.1 ≠ 0
  | 0, _, _, _, _, h => by simp only [lexGo] at h; cases h
  | f + 1, l, p, n, e, h => by
    simp only [lexGo] at h
    split at h
    · cases h
    · split at h
      · cases h; show (2 : Int) ≠ 0; decide
      · split at h
        · rename_i hb
          cases h
          exact tokF_bad hb
        · split at h
          · rename_i hx
            cases h
            exact lexGo_bad f _ _ _ _ hx
          · cases h
theorem lexF_bad {l : List UInt8} {e : Int × Nat} (h : lexF l = .inl e) : e.1 ≠ 0 := by
  unfold lexF at h
  split at h
  · cases h; show (2 : Int) ≠ 0; decide
  · split at h
    · rename_i hx
      cases h
      exact lexGo_bad _ _ _ _ _ hx
    · cases h
theorem tokCells_at : ∀ (ts : List Tk) (j r : Nat) (t : Tk), ts[j]? = some t → r < 6 → (tokCells ts)[j * 6 + r]? = (tokCs t)[r]?
  | [], j, r, t, h, _ => by simp at h
  | x :: ts, 0, r, t, h, hr => by
    simp at h
    subst h
    have : tokCells (x :: ts) = tokCs x ++ tokCells ts := by simp [tokCells]
    rw [this, List.getElem?_append_left (by show 0 * 6 + r < 6; omega)]
    congr 1; omega
  | x :: ts, j + 1, r, t, h, hr => by
    have : tokCells (x :: ts) = tokCs x ++ tokCells ts := by simp [tokCells]
    rw [this, List.getElem?_append_right (by show 6 ≤ _; omega)]
    have e : (j + 1) * 6 + r - (tokCs x).length = j * 6 + r := by show (j + 1) * 6 + r - 6 = _; omega
    rw [e]
    exact tokCells_at ts j r t (by simpa using h) hr
/-- A row of tokens in block g. -/
def TCells (w : World) (g : Nat) (ts : List Tk) : Prop := ∀ (j : Nat) (t : Tk), ts[j]? = some t →
  w.cell? ⟨g, j * 6, none⟩ = some (.int .i64 t.k) ∧ w.cell? ⟨g, j * 6 + 1, none⟩ = some (.string t.s) ∧ w.cell? ⟨g, j * 6 + 2, none⟩ = some (.int .i64 t.d.k) ∧ w.cell? ⟨g, j * 6 + 3, none⟩ = some (.int .i64 t.d.i) ∧
  w.cell? ⟨g, j * 6 + 4, none⟩ = some (.string t.d.s) ∧ w.cell? ⟨g, j * 6 + 5, none⟩ = some (.int .i64 (t.pos : Int))
theorem TCells.below {w w' : World} {g : Nat} {ts : List Tk} (h : TCells w g ts) (hB : Below w.heap.size w w') (hg : g < w.heap.size) : TCells w' g ts := by
  intro j t ht
  have hc : ∀ o, w'.cell? ⟨g, o, none⟩ = w.cell? ⟨g, o, none⟩ := fun o => hB.cell (p := ⟨g, o, none⟩) hg
  rw [hc, hc, hc, hc, hc, hc]
  exact h j t ht
theorem row_tokens {w : World} {B : Nat} {v : Value} {ts : List Tk} (h : w.ownsRow B 30 6 v ts.length (tokCells ts)) (hne : ts ≠ []) :
    ∃ g cap, v = .slice (some ⟨g, 0, none⟩) ts.length cap ∧ B ≤ g ∧ g < w.heap.size ∧ TCells w g ts := by
  rcases id h.2 with ⟨_, h0⟩ | ⟨g, cap, cur, rfl, hg, _⟩
  · exact absurd (List.eq_nil_of_length_eq_zero h0) hne
  · refine ⟨g, cap, rfl, hg, (h.lt g rfl).2, fun j t ht => ?_⟩
    have hj : j < ts.length := (List.getElem?_eq_some_iff.1 ht).1
    have hc : ∀ r, r < 6 → w.cell? ⟨g, j * 6 + r, none⟩ = (tokCs t)[r]? := fun r hr => by
      rw [h.cellAt (j * 6 + r) (by omega)]
      exact tokCells_at ts j r t ht hr
    exact ⟨hc 0 (by decide), hc 1 (by decide), hc 2 (by decide), hc 3 (by decide), hc 4 (by decide), hc 5 (by decide)⟩
theorem lex_a : lexF [97] = .inr [⟨1, ⟨#[97]⟩, Dt.zero, 0⟩, endT 1] := by
  have h := (again_isName (l := [97]) (by decide +kernel)).1
  exact lexF_one h (by decide)
theorem lexF_ne {l : List UInt8} {ts : List Tk} (h : lexF l = .inr ts) : ts ≠ [] := by
  obtain ⟨_, us, _, rfl⟩ := lexF_inr h
  simp
theorem lex_ok {s : ByteArray} {ts : List Tk} (h : lexF s.data.toList = .inr ts) (w : World) (hA : Asc w) :
    Calls Tryd.prog 15 #[.string s] w fun e w' => ∃ g cap, e = .returned (.tuple #[.slice (some ⟨g, 0, none⟩) ts.length cap, .int .i64 0, .int .i64 0]) ∧ w.heap.size ≤ g ∧ g < w'.heap.size ∧ TCells w' g ts ∧ Below w.heap.size w w' :=
  (lex_any w hA s).mono fun e w' hp => by
    unfold LexPost at hp
    rw [h] at hp
    obtain ⟨hB, v, rfl, ho⟩ := hp
    obtain ⟨g, cap, rfl, h1, h2, h3⟩ := row_tokens ho (lexF_ne h)
    exact ⟨g, cap, rfl, h1, h2, h3, hB⟩
theorem lex_err {s : ByteArray} {er : Int} {p : Nat} (h : lexF s.data.toList = .inl (er, p)) (w : World) (hA : Asc w) :
    Calls Tryd.prog 15 #[.string s] w fun e w' => e = .returned (.tuple #[.slice none 0 0, .int .i64 er, .int .i64 (p : Int)]) ∧ Below w.heap.size w w' :=
  (lex_any w hA s).mono fun e w' hp => by
    unfold LexPost at hp
    rw [h] at hp
    exact ⟨hp.2, hp.1⟩
theorem alive_any (w : World) (hA : Asc w) : Calls Tryd.prog 14 #[] w fun e w' => e = .returned (.bool true) ∧ Below w.heap.size w w' := by
  have HA := Lib.hid hA
  have HL : Hid (lexF (⟨#[97]⟩ : ByteArray).data.toList = .inr [⟨1, ⟨#[97]⟩, Dt.zero, 0⟩, endT 1]) := lex_a
  clear hA
  go_enter Tryd.func14, Tryd.ntmps14
  go_wp2_with (first | (go_at_call 15; refine (lex_ok HL.out _ HA.out).mono ?_; rintro e w1 ⟨g, cap, rfl, _, _, _, hB⟩; have HB := Lib.hid hB; clear hB) | fail)
  go_ret
  exact ⟨rfl, HB.out⟩

set_option maxRecDepth 100000 in
set_option maxHeartbeats 8000000 in
theorem places_walk (s : ByteArray) (w : World) (hA : Asc w) : Calls Tryd.prog 3 #[.string s] w fun e w' => e = .returned (.bool true) ∧ Below w.heap.size w w' := by
  have HA := Lib.hid hA
  clear hA
  cases hx : lexF s.data.toList with
  | inl e0 =>
    obtain ⟨er, p⟩ := e0
    have hne := lexF_bad hx
    simp only at hne
    have HX := Lib.hid hx
    clear hx
    go_enter Tryd.func3, Tryd.ntmps3
    go_wp2_with (first
      | (go_at_call 14; refine (alive_any _ HA.out).mono ?_; rintro e w1 ⟨rfl, hB1⟩; have HB1 := Lib.hid hB1; have HA1 := Lib.hid (HA.out.below hB1); clear hB1)
      | (go_at_call 15; refine (lex_err HX.out _ HA1.out).mono ?_; rintro e w2 ⟨rfl, hB2⟩; have HB2 := Lib.hid (HB1.out.trans (hB2.mono HB1.out.size)); clear hB2)
      | fail)
    go_ret
    exact ⟨rfl, HB2.out⟩
  | inr ts =>
    have HX := Lib.hid hx
    have hs : s.size ≤ 4000 := (lexF_inr hx).1
    have hts : ts.length ≤ 1001 := by
      obtain ⟨_, us, hu, rfl⟩ := lexF_inr hx
      have := lexGo_count _ _ _ _ _ (by omega) hu
      simp; omega
    clear hx
    go_enter Tryd.func3, Tryd.ntmps3
    go_wp2_with (first
      | (go_at_call 14; refine (alive_any _ HA.out).mono ?_; rintro e w1 ⟨rfl, hB1⟩; have HB1 := Lib.hid hB1; have HA1 := Lib.hid (HA.out.below hB1); clear hB1)
      | (go_at_call 15; refine (lex_ok HX.out _ HA1.out).mono ?_; rintro e w2 ⟨g, cap, rfl, hg1, hg2, hT, hB2⟩; have HB2 := Lib.hid (HB1.out.trans (hB2.mono HB1.out.size)); have HA2 := Lib.hid (HA1.out.below hB2); have HT := Lib.hid hT; clear hB2 hT)
      | fail)
    go_loopw [26] (fun iv wr => ∃ k : Nat, k ≤ ts.length ∧ iv = .int .i64 (k : Int) ∧ Below w2.heap.size w2 wr) (fun iv _ => ts.length - (intOf iv).toNat)
    case atStart => exact ⟨0, Nat.zero_le _, rfl, Below.refl _ _⟩
    case round =>
      obtain ⟨k, hk, rfl, hB⟩ := hrel
      have HB := Lib.hid hB
      have HTr := Lib.hid (HT.out.below hB hg2)
      have HAr := Lib.hid (HA2.out.below hB)
      have hsz := hB.size
      clear hB
      by_cases hlt : k < ts.length
      · have hlti : (k : Int) < (ts.length : Int) := by omega
        obtain ⟨t, ht⟩ : ∃ t, ts[k]? = some t := ⟨_, List.getElem?_eq_getElem hlt⟩
        obtain ⟨c0, c1, c2, c3, c4, c5⟩ := HTr.out k t ht
        obtain ⟨p1, p2, b, u, p3, p4, p5, p6, p7, p8⟩ := lexF_from HX.out k t ht
        have hp1 : t.pos ≤ s.size := p1
        have hp1i : ¬ (s.size : Int) < (t.pos : Int) := by omega
        obtain ⟨Sx, hSx⟩ : ∃ Sx, s.extract t.pos s.size = Sx := ⟨_, rfl⟩
        have HS2 : Hid (lexF Sx.data.toList = .inr (u :: b)) := by
          show _ = _
          rw [← hSx, ext_all]; exact p3
        have hd0 : decide ((t.pos : Int) < 0) = false := by simp
        have hd1 : decide ((s.size : Int) < (t.pos : Int)) = false := by simp; omega
        obtain ⟨tk, tstr, ⟨dk, di, ds⟩, tp⟩ := t
        obtain ⟨uk, us, ud, up⟩ := u
        simp only at p5 p6 p7 p8 c0 c1 c2 c3 c4 c5 hp1 hp1i hSx hd0 hd1
        subst p5 p6 p7 p8
        have hd1n : decide (s.size < tp) = false := by simp; omega
        have hlen : (b.length : Int) + 1 = (ts.length : Int) - (k : Int) := by omega
        have heq : eqD dk di ds dk di ds = true := eqD_iff.2 ⟨rfl, rfl, rfl⟩
        have HS2' := HS2
        have hgr : g < wr.heap.size := by omega
        have HB2' := Lib.hid (HB2.out.trans (HB.out.mono HB2.out.size))
        rcases Nat.eq_zero_or_pos k with hk0 | hk0
        · subst hk0
          go_wp2_with fail
          have HWT := Lib.hid (TB6.new wr (.int .i64 uk) (.string us) (.int .i64 dk) (.int .i64 di) (.string ds) (.int .i64 (tp : Int)) 30); have HWB := Lib.hid ((Below.refl wr.heap.size wr).alloc (Nat.le_refl _) (.cells #[.int .i64 uk, .string us, .int .i64 dk, .int .i64 di, .string ds, .int .i64 (tp : Int)] 30))
          generalize wr.alloc (.cells #[.int .i64 uk, .string us, .int .i64 dk, .int .i64 di, .string ds, .int .i64 (tp : Int)] 30) = W at *
          have HAW := Lib.hid (HAr.out.below HWB.out)
          obtain ⟨⟨rc0, rc1, rc2, rc3, rc4, rc5⟩, _⟩ := HWT.out
          clear c0 c1 c2 c3 c4 c5
          have hgW : g < W.heap.size := by have := HWB.out.size; omega
          go_quiet (fail)
          clear hd0 hd1 hd1n
          have hL : b.length + 1 = ts.length := by omega
          have hLi : (b.length : Int) + 1 = (ts.length : Int) := by omega
          clear hlen p4
          go_wp2_with (first | (go_at_call 15; refine (lex_ok HS2.out _ (HAW.out.below (below_drewN _))).mono ?_; rintro e w5 ⟨g5, cap5, rfl, hg51, hg52, hT5, hB5⟩; clear rc0 rc1 rc2 rc3 rc4 rc5; obtain ⟨b0, b1, b2, b3, b4, b5⟩ := hT5 0 _ rfl; simp only [Nat.zero_mul, Nat.zero_add] at b0 b1 b2 b3 b4 b5; have HT5 := Lib.hid ((HWT.out.of_block (w' := W.drewN _) rfl).of_block (hB5.block _ HWT.out.lt)); obtain ⟨⟨rc0, rc1, rc2, rc3, rc4, rc5⟩, _⟩ := HT5.out; have HB5 := Lib.hid (HWB.out.trans (drN (Below.refl _ W) _ |>.trans (hB5.mono HWB.out.size))); clear hB5 hT5) | fail)
          go_quiet (fail)
          go_wp2_with fail
          go_roundw
          case rel => exact ⟨1, by omega, by go_num, HB.out.trans (drN (HB5.out.mono hsz) _)⟩
          case measure => simp [intOf]; omega
        · obtain ⟨k, rfl⟩ : ∃ j, k = j + 1 := ⟨k - 1, by omega⟩
          obtain ⟨t', ht'⟩ : ∃ t', ts[k]? = some t' := ⟨_, List.getElem?_eq_getElem (by omega)⟩
          obtain ⟨c0', c1', c2', c3', c4', c5'⟩ := HTr.out k t' ht'
          have hlt' := p2 t' (by omega) (by simpa using ht')
          have hd2 : decide (tp ≤ t'.pos) = false := by simp; exact hlt'
          have hd2i : decide ((tp : Int) ≤ (t'.pos : Int)) = false := by simp; exact hlt'
          have hkl : k ≤ 1000 := by omega
          have hW5 : (wr.alloc (.cells #[.int .i64 uk, .string us, .int .i64 dk, .int .i64 di, .string ds, .int .i64 (tp : Int)] 30)).cell? ⟨g, k * 6 + 5, none⟩ = some (.int .i64 (t'.pos : Int)) := (((Below.refl wr.heap.size wr).alloc (Nat.le_refl _) _).cell (p := ⟨g, k * 6 + 5, none⟩) hgr).trans c5'
          go_wp2_with fail
          have HWT := Lib.hid (TB6.new wr (.int .i64 uk) (.string us) (.int .i64 dk) (.int .i64 di) (.string ds) (.int .i64 (tp : Int)) 30); have HWB := Lib.hid ((Below.refl wr.heap.size wr).alloc (Nat.le_refl _) (.cells #[.int .i64 uk, .string us, .int .i64 dk, .int .i64 di, .string ds, .int .i64 (tp : Int)] 30))
          generalize wr.alloc (.cells #[.int .i64 uk, .string us, .int .i64 dk, .int .i64 di, .string ds, .int .i64 (tp : Int)] 30) = W at *
          have HAW := Lib.hid (HAr.out.below HWB.out)
          obtain ⟨⟨rc0, rc1, rc2, rc3, rc4, rc5⟩, _⟩ := HWT.out
          clear c0 c1 c2 c3 c4 c5
          have hgW : g < W.heap.size := by have := HWB.out.size; omega
          go_quiet (fail)
          clear hd0 hd1 hd1n
          have hL : ts.length - (k + 1) = b.length + 1 := by omega
          have hLi : (ts.length : Int) - ((k : Int) + 1) = (b.length : Int) + 1 := by omega
          clear hlen p4
          go_wp2_with (first | (go_at_call 15; refine (lex_ok HS2.out _ (HAW.out.below (below_drewN _))).mono ?_; rintro e w5 ⟨g5, cap5, rfl, hg51, hg52, hT5, hB5⟩; clear rc0 rc1 rc2 rc3 rc4 rc5; obtain ⟨b0, b1, b2, b3, b4, b5⟩ := hT5 0 _ rfl; simp only [Nat.zero_mul, Nat.zero_add] at b0 b1 b2 b3 b4 b5; have HT5 := Lib.hid ((HWT.out.of_block (w' := W.drewN _) rfl).of_block (hB5.block _ HWT.out.lt)); obtain ⟨⟨rc0, rc1, rc2, rc3, rc4, rc5⟩, _⟩ := HT5.out; have HB5 := Lib.hid (HWB.out.trans (drN (Below.refl _ W) _ |>.trans (hB5.mono HWB.out.size))); clear hB5 hT5) | fail)
          go_quiet (fail)
          go_wp2_with fail
          go_roundw
          case rel => exact ⟨k + 1 + 1, by omega, by go_num, HB.out.trans (drN (HB5.out.mono hsz) _)⟩
          case measure => simp [intOf]; omega
      · go_wp2_with fail
        go_ret
        exact ⟨rfl, HB2.out.trans (HB.out.mono HB2.out.size)⟩
end Go.Proofs.YtnpgjlhnlakgpaaDoor

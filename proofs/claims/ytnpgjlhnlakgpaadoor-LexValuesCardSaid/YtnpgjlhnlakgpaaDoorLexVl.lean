/- LexValues: the walk of the law. -/
import Derived.Test.YtnpgjlhnlakgpaaDoorLexG7
import Derived.Test.YtnpgjlhnlakgpaaDoorLexAg
import Derived.Deep.RegionHeld3
namespace Go.Proofs.YtnpgjlhnlakgpaaDoor
open Go.RowKit

set_option maxRecDepth 100000 in
set_option maxHeartbeats 8000000 in
theorem values_bad (k i : Int) (s v : ByteArray) (w : World) (hA : Asc w) (hP : Pow w) (hr : rightD ⟨k, i, s⟩ = false) :
    Calls Tryd.prog 7 #[.agg #[.int .i64 k, .int .i64 i, .string s], .string v] w fun e w' => e = .returned (.bool true) ∧ Below w.heap.size w w' := by
  have HR := Lib.hid hr
  obtain ⟨hB, hz, X⟩ := boxes1 w #[.int .i64 k, .int .i64 i, .string s] 28
  have HC : Hid (∀ W, Below (w.alloc (.cells #[.int .i64 k, .int .i64 i, .string s] 28)).heap.size (w.alloc (.cells #[.int .i64 k, .int .i64 i, .string s] 28)) W → W.cell? ⟨w.heap.size, 0, none⟩ = some (.int .i64 k) ∧ W.cell? ⟨w.heap.size, 1, none⟩ = some (.int .i64 i) ∧ W.cell? ⟨w.heap.size, 2, none⟩ = some (.string s)) := by
    intro W hW
    rw [hW.cell (p := ⟨w.heap.size, 0, none⟩) (by simp), hW.cell (p := ⟨w.heap.size, 1, none⟩) (by simp), hW.cell (p := ⟨w.heap.size, 2, none⟩) (by simp), X, X, X]
    exact ⟨rfl, rfl, rfl⟩
  have HK1 : Hid (Below (w.alloc (.cells #[.int .i64 k, .int .i64 i, .string s] 28)).heap.size (w.alloc (.cells #[.int .i64 k, .int .i64 i, .string s] 28)) (w.alloc (.cells #[.int .i64 k, .int .i64 i, .string s] 28))) := Below.refl _ _
  have HA1 := Lib.hid (hA.below hB)
  have HP1 := Lib.hid (hP.below hB)
  have HFin : Hid (∀ W, Below (w.alloc (.cells #[.int .i64 k, .int .i64 i, .string s] 28)).heap.size (w.alloc (.cells #[.int .i64 k, .int .i64 i, .string s] 28)) W → Below w.heap.size w W) := fun W h => hB.trans (h.mono (by simp))
  clear hA hP hB hz X
  clear hr
  go_enter Tryd.func7, Tryd.ntmps7
  go_wp2_with (first | (go_at_call 22; refine (refright_any _ _ _ _).mono ?_; rintro e w2 ⟨rfl, hb⟩; rw [HR.out]; have HK2 := Lib.hid (HK1.out.trans (hb.mono HK1.out.size)); have HA2 := Lib.hid (HA1.out.below hb); have HP2 := Lib.hid (HP1.out.below hb); obtain ⟨c0, c1, c2⟩ := HC.out _ HK2.out; have nl := World.block_lt_of_cell? _ _ c0; clear hb) | fail)
  go_ret
  exact ⟨rfl, HFin.out _ HK2.out⟩

set_option maxRecDepth 100000 in
set_option maxHeartbeats 8000000 in
theorem values_word (k i : Int) (s v : ByteArray) (w : World) (hA : Asc w) (hP : Pow w) (i0 : -9223372036854775808 ≤ i) (i1 : i ≤ 9223372036854775807) (hr : rightD ⟨k, i, s⟩ = true) (hk : k ≤ 1) :
    Calls Tryd.prog 7 #[.agg #[.int .i64 k, .int .i64 i, .string s], .string v] w fun e w' => e = .returned (.bool true) ∧ Below w.heap.size w w' := by
  have HR := Lib.hid hr
  have hlx := lex_word hr hk
  obtain ⟨S, hS⟩ : ∃ S, bs (printF ⟨k, i, s⟩) = S := ⟨_, rfl⟩
  have hlx2 : lexF S.data.toList = .inr [⟨2, S, Dt.zero, 0⟩, endT (printF ⟨k, i, s⟩).length] := by rw [← hS]; exact hlx
  have HX := Lib.hid (fun W h => lex_ok hlx2 W h)
  obtain ⟨hB, hz, X⟩ := boxes1 w #[.int .i64 k, .int .i64 i, .string s] 28
  have HC : Hid (∀ W, Below (w.alloc (.cells #[.int .i64 k, .int .i64 i, .string s] 28)).heap.size (w.alloc (.cells #[.int .i64 k, .int .i64 i, .string s] 28)) W → W.cell? ⟨w.heap.size, 0, none⟩ = some (.int .i64 k) ∧ W.cell? ⟨w.heap.size, 1, none⟩ = some (.int .i64 i) ∧ W.cell? ⟨w.heap.size, 2, none⟩ = some (.string s)) := by
    intro W hW
    rw [hW.cell (p := ⟨w.heap.size, 0, none⟩) (by simp), hW.cell (p := ⟨w.heap.size, 1, none⟩) (by simp), hW.cell (p := ⟨w.heap.size, 2, none⟩) (by simp), X, X, X]
    exact ⟨rfl, rfl, rfl⟩
  have HK1 : Hid (Below (w.alloc (.cells #[.int .i64 k, .int .i64 i, .string s] 28)).heap.size (w.alloc (.cells #[.int .i64 k, .int .i64 i, .string s] 28)) (w.alloc (.cells #[.int .i64 k, .int .i64 i, .string s] 28))) := Below.refl _ _
  have HA1 := Lib.hid (hA.below hB)
  have HP1 := Lib.hid (hP.below hB)
  have HFin : Hid (∀ W, Below (w.alloc (.cells #[.int .i64 k, .int .i64 i, .string s] 28)).heap.size (w.alloc (.cells #[.int .i64 k, .int .i64 i, .string s] 28)) W → Below w.heap.size w W) := fun W h => hB.trans (h.mono (by simp))
  clear hA hP hB hz X
  have hk2 : (k == 2) = false := by simp; omega
  have hk3 : (k == 3) = false := by simp; omega
  clear hr hlx hlx2
  go_enter Tryd.func7, Tryd.ntmps7
  go_wp2_with (first
    | (go_at_call 22; refine (refright_any _ _ _ _).mono ?_; rintro e w2 ⟨rfl, hb⟩; rw [HR.out]; have HK2 := Lib.hid (HK1.out.trans (hb.mono HK1.out.size)); have HA2 := Lib.hid (HA1.out.below hb); have HP2 := Lib.hid (HP1.out.below hb); obtain ⟨c0, c1, c2⟩ := HC.out _ HK2.out; have nl := World.block_lt_of_cell? _ _ c0; clear hb)
    | (go_at_call 23; refine (rprint_all ⟨k, i, s⟩ _ HP2.out i0 i1).mono ?_; rintro e w3 ⟨rfl, hb⟩; rw [hS]; have HK3 := Lib.hid (HK2.out.trans (hb.mono HK2.out.size)); have HA3 := Lib.hid (HA2.out.below hb); have HP3 := Lib.hid (HP2.out.below hb); obtain ⟨c0, c1, c2⟩ := HC.out _ HK3.out; have nl := World.block_lt_of_cell? _ _ c0; clear hb)
    | (go_at_call 15; refine (HX.out _ HA3.out).mono ?_; rintro e w4 ⟨g, cap, rfl, hg1, hg2, hT, hb⟩; obtain ⟨d0, d1, d2, d3, d4, d5⟩ := hT 0 _ rfl; simp only [Nat.zero_mul, Nat.zero_add] at d0 d1 d2 d3 d4 d5; clear hT; have HK4 := Lib.hid (HK3.out.trans (hb.mono HK3.out.size)); have HA4 := Lib.hid (HA3.out.below hb); have HP4 := Lib.hid (HP3.out.below hb); obtain ⟨c0, c1, c2⟩ := HC.out _ HK4.out; have nl := World.block_lt_of_cell? _ _ c0; clear hb)
    | fail)
  go_ret
  exact ⟨by simp, HFin.out _ HK4.out⟩

set_option maxRecDepth 100000 in
set_option maxHeartbeats 8000000 in
theorem values_neg (k i : Int) (s v : ByteArray) (w : World) (hA : Asc w) (hP : Pow w) (i0 : -9223372036854775808 ≤ i) (i1 : i ≤ 9223372036854775807) (hr : rightD ⟨k, i, s⟩ = true) (hk : k = 2 ∨ k = 3) (hn : i < 0) :
    Calls Tryd.prog 7 #[.agg #[.int .i64 k, .int .i64 i, .string s], .string v] w fun e w' => e = .returned (.bool true) ∧ Below w.heap.size w w' := by
  have HR := Lib.hid hr
  obtain ⟨n, hlx, hse⟩ := lex_neg hr i0 hk hn
  simp only at hlx hse
  subst hse
  obtain ⟨S, hS⟩ : ∃ S, bs (printF ⟨k, i, ⟨#[]⟩⟩) = S := ⟨_, rfl⟩
  obtain ⟨am, ham⟩ : ∃ am, amtV i.natAbs = am := ⟨_, rfl⟩
  rw [ham] at hlx
  have hlx2 : lexF S.data.toList = .inr [⟨4, ⟨#[45]⟩, Dt.zero, 0⟩, ⟨3, ⟨#[]⟩, ⟨k, am, ⟨#[]⟩⟩, 1⟩, endT n] := by rw [← hS]; exact hlx
  have HX := Lib.hid (fun W h => lex_ok hlx2 W h)
  have hneg2 : IntKind.i64.wrap (-i) = am := by
    rw [← ham, neg_wrap i0 hn, IntKind.wrap_i64]
    split <;> omega
  have hneg : wrap64 (-i) = am := by
    rw [← ham, neg_wrap i0 hn]
    unfold wrap64
    split <;> omega
  have hkb : (k == 2) = true ∨ ((k == 2) = false ∧ (k == 3) = true) := by
    rcases hk with rfl | rfl
    · left; rfl
    · right; exact ⟨rfl, rfl⟩
  have heq : eqD k am ⟨#[]⟩ k am ⟨#[]⟩ = true := eqD_iff.2 ⟨rfl, rfl, rfl⟩
  obtain ⟨hB, hz, X⟩ := boxes1 w #[.int .i64 k, .int .i64 i, .string ⟨#[]⟩] 28
  have HC : Hid (∀ W, Below (w.alloc (.cells #[.int .i64 k, .int .i64 i, .string ⟨#[]⟩] 28)).heap.size (w.alloc (.cells #[.int .i64 k, .int .i64 i, .string ⟨#[]⟩] 28)) W → W.cell? ⟨w.heap.size, 0, none⟩ = some (.int .i64 k) ∧ W.cell? ⟨w.heap.size, 1, none⟩ = some (.int .i64 i) ∧ W.cell? ⟨w.heap.size, 2, none⟩ = some (.string ⟨#[]⟩)) := by
    intro W hW
    rw [hW.cell (p := ⟨w.heap.size, 0, none⟩) (by simp), hW.cell (p := ⟨w.heap.size, 1, none⟩) (by simp), hW.cell (p := ⟨w.heap.size, 2, none⟩) (by simp), X, X, X]
    exact ⟨rfl, rfl, rfl⟩
  have HK1 : Hid (Below (w.alloc (.cells #[.int .i64 k, .int .i64 i, .string ⟨#[]⟩] 28)).heap.size (w.alloc (.cells #[.int .i64 k, .int .i64 i, .string ⟨#[]⟩] 28)) (w.alloc (.cells #[.int .i64 k, .int .i64 i, .string ⟨#[]⟩] 28))) := Below.refl _ _
  have HA1 := Lib.hid (hA.below hB)
  have HP1 := Lib.hid (hP.below hB)
  have HFin : Hid (∀ W, Below (w.alloc (.cells #[.int .i64 k, .int .i64 i, .string ⟨#[]⟩] 28)).heap.size (w.alloc (.cells #[.int .i64 k, .int .i64 i, .string ⟨#[]⟩] 28)) W → Below w.heap.size w W) := fun W h => hB.trans (h.mono (by simp))
  clear hA hP hB hz X
  clear hr hlx hlx2 ham hk
  rcases hkb with hk2 | ⟨hk2, hk3⟩
  all_goals
    go_enter Tryd.func7, Tryd.ntmps7
    go_wp2_with (first
      | (go_at_call 22; refine (refright_any _ _ _ _).mono ?_; rintro e w2 ⟨rfl, hb⟩; rw [HR.out]; have HK2 := Lib.hid (HK1.out.trans (hb.mono HK1.out.size)); have HA2 := Lib.hid (HA1.out.below hb); have HP2 := Lib.hid (HP1.out.below hb); obtain ⟨c0, c1, c2⟩ := HC.out _ HK2.out; have nl := World.block_lt_of_cell? _ _ c0; clear hb)
      | (go_at_call 23; refine (rprint_all ⟨k, i, ⟨#[]⟩⟩ _ HP2.out i0 i1).mono ?_; rintro e w3 ⟨rfl, hb⟩; rw [hS]; have HK3 := Lib.hid (HK2.out.trans (hb.mono HK2.out.size)); have HA3 := Lib.hid (HA2.out.below hb); have HP3 := Lib.hid (HP2.out.below hb); obtain ⟨c0, c1, c2⟩ := HC.out _ HK3.out; have nl := World.block_lt_of_cell? _ _ c0; clear hb)
      | (go_at_call 15; refine (HX.out _ HA3.out).mono ?_; rintro e w4 ⟨g, cap, rfl, hg1, hg2, hT, hb⟩; have HT4 := Lib.hid hT; obtain ⟨d0, d1, d2, d3, d4, d5⟩ := hT 0 _ rfl; obtain ⟨e0, e1, e2, e3, e4, e5⟩ := hT 1 _ rfl; obtain ⟨f0, f1, f2, f3, f4, f5⟩ := hT 2 _ rfl; simp only [Nat.zero_mul, Nat.zero_add, Nat.one_mul] at d0 d1 d2 d3 d4 d5 e0 e1 e2 e3 e4 e5; clear hT; have HK4 := Lib.hid (HK3.out.trans (hb.mono HK3.out.size)); have HA4 := Lib.hid (HA3.out.below hb); have HP4 := Lib.hid (HP3.out.below hb); obtain ⟨c0, c1, c2⟩ := HC.out _ HK4.out; have nl := World.block_lt_of_cell? _ _ c0; clear hb)
      | fail)
    have hB5 := (Below.refl w4.heap.size w4).alloc (Nat.le_refl _) (.cells #[.int .i64 k, .int .i64 am, .string ⟨#[]⟩] 28)
    have hT5 := HT4.out.below hB5 hg2
    have q : ∀ o, (w4.alloc (.cells #[.int .i64 k, .int .i64 am, .string ⟨#[]⟩] 28)).cell? ⟨w4.heap.size, o, none⟩ = (#[Value.int .i64 k, .int .i64 am, .string ⟨#[]⟩] : Array Value)[o]? := fun o => World.cell?_alloc_new _ _ _ _
    have q0 := q 0
    have q1 := q 1
    have q2 := q 2
    have HK5 := Lib.hid (HK4.out.trans (hB5.mono HK4.out.size))
    clear q hB5 d0 d1 d2 d3 d4 d5 e0 e1 e2 e3 e4 e5 f0 f1 f2 f3 f4 f5 c0 c1 c2
    obtain ⟨d0, d1, d2, d3, d4, d5⟩ := hT5 0 _ rfl
    obtain ⟨e0, e1, e2, e3, e4, e5⟩ := hT5 1 _ rfl
    obtain ⟨f0, f1, f2, f3, f4, f5⟩ := hT5 2 _ rfl
    simp only [Nat.zero_mul, Nat.zero_add, Nat.one_mul] at d0 d1 d2 d3 d4 d5 e0 e1 e2 e3 e4 e5
    clear hT5
    generalize w4.alloc (.cells #[.int .i64 k, .int .i64 am, .string ⟨#[]⟩] 28) = W at *
    go_quiet (fail)
    go_wp2_with fail
    go_ret
    exact ⟨by simp, HFin.out _ (drN HK5.out _)⟩

set_option maxRecDepth 100000 in
set_option maxHeartbeats 8000000 in
theorem values_val (k i : Int) (s v : ByteArray) (w : World) (hA : Asc w) (hP : Pow w) (i0 : -9223372036854775808 ≤ i) (i1 : i ≤ 9223372036854775807) (hv : v.size ≤ 140737488351232) (hr : rightD ⟨k, i, s⟩ = true) (hk : 2 ≤ k) (hn : ¬ ((k = 2 ∨ k = 3) ∧ i < 0)) :
    Calls Tryd.prog 7 #[.agg #[.int .i64 k, .int .i64 i, .string s], .string v] w fun e w' => e = .returned (.bool true) ∧ Below w.heap.size w w' := by
  have HR := Lib.hid hr
  have hlx := lex_value hr i1 hk hn
  obtain ⟨S, hS⟩ : ∃ S, bs (printF ⟨k, i, s⟩) = S := ⟨_, rfl⟩
  have hlx2 : lexF S.data.toList = .inr [⟨3, ⟨#[]⟩, ⟨k, i, s⟩, 0⟩, endT (printF ⟨k, i, s⟩).length] := by rw [← hS]; exact hlx
  have HX := Lib.hid (fun W h => lex_ok hlx2 W h)
  obtain ⟨hB, hz, X⟩ := boxes1 w #[.int .i64 k, .int .i64 i, .string s] 28
  have HC : Hid (∀ W, Below (w.alloc (.cells #[.int .i64 k, .int .i64 i, .string s] 28)).heap.size (w.alloc (.cells #[.int .i64 k, .int .i64 i, .string s] 28)) W → W.cell? ⟨w.heap.size, 0, none⟩ = some (.int .i64 k) ∧ W.cell? ⟨w.heap.size, 1, none⟩ = some (.int .i64 i) ∧ W.cell? ⟨w.heap.size, 2, none⟩ = some (.string s)) := by
    intro W hW
    rw [hW.cell (p := ⟨w.heap.size, 0, none⟩) (by simp), hW.cell (p := ⟨w.heap.size, 1, none⟩) (by simp), hW.cell (p := ⟨w.heap.size, 2, none⟩) (by simp), X, X, X]
    exact ⟨rfl, rfl, rfl⟩
  have HK1 : Hid (Below (w.alloc (.cells #[.int .i64 k, .int .i64 i, .string s] 28)).heap.size (w.alloc (.cells #[.int .i64 k, .int .i64 i, .string s] 28)) (w.alloc (.cells #[.int .i64 k, .int .i64 i, .string s] 28))) := Below.refl _ _
  have HA1 := Lib.hid (hA.below hB)
  have HP1 := Lib.hid (hP.below hB)
  have HFin : Hid (∀ W, Below (w.alloc (.cells #[.int .i64 k, .int .i64 i, .string s] 28)).heap.size (w.alloc (.cells #[.int .i64 k, .int .i64 i, .string s] 28)) W → Below w.heap.size w W) := fun W h => hB.trans (h.mono (by simp))
  clear hA hP hB hz X
  have hk1 : ¬ k ≤ 1 := by omega
  have heq : eqD k i s k i s = true := eqD_iff.2 ⟨rfl, rfl, rfl⟩
  obtain ⟨U, hUd⟩ : ∃ U : ByteArray, (⟨(v.data.toList.map upB).toArray⟩ : ByteArray) = U := ⟨_, rfl⟩
  obtain ⟨L, hLd⟩ : ∃ L : ByteArray, (⟨(v.data.toList.map loB).toArray⟩ : ByteArray) = L := ⟨_, rfl⟩
  have HU := Lib.hid (fun W => upper_any v W (by omega))
  have HL := Lib.hid (fun W => lower_any v W (by omega))
  rw [hUd] at HU
  rw [hLd] at HL
  have hLs : L.size ≤ 140737488351232 := by
    rw [← hLd]; show (v.data.toList.map loB).toArray.size ≤ _; simpa using hv
  have hLl : L.data.toList = v.data.toList.map loB := by rw [← hLd]
  have hUl : U.data.toList = v.data.toList.map upB := by rw [← hUd]
  have HNm := Lib.hid (fun W => rName_any L W hLs)
  have hkb : ((k == 2) = true ∧ decide (i < 0) = false) ∨ ((k == 2) = false ∧ (k == 3) = true ∧ decide (i < 0) = false) ∨ ((k == 2) = false ∧ (k == 3) = false) := by
    by_cases h2 : k = 2
    · left; exact ⟨by simp [h2], by simp; omega⟩
    · by_cases h3 : k = 3
      · right; left; exact ⟨by simp [h2], by simp [h3], by simp; omega⟩
      · right; right; exact ⟨by simp [h2], by simp [h3]⟩
  clear hlx hlx2 hn hr
  cases hnm : isNameF L.data.toList with
  | false =>
    rw [hnm] at HNm
    clear hUd hLd hUl hLl hnm
    rcases hkb with ⟨hk2, hi2⟩ | ⟨hk2, hk3, hi2⟩ | ⟨hk2, hk3⟩
    all_goals
      go_enter Tryd.func7, Tryd.ntmps7
      go_wp2_with (first
        | (go_at_call 22; refine (refright_any _ _ _ _).mono ?_; rintro e w2 ⟨rfl, hb⟩; rw [HR.out]; have HK2 := Lib.hid (HK1.out.trans (hb.mono HK1.out.size)); have HA2 := Lib.hid (HA1.out.below hb); have HP2 := Lib.hid (HP1.out.below hb); obtain ⟨c0, c1, c2⟩ := HC.out _ HK2.out; have nl := World.block_lt_of_cell? _ _ c0; clear hb)
        | (go_at_call 23; refine (rprint_all ⟨k, i, s⟩ _ HP2.out i0 i1).mono ?_; rintro e w3 ⟨rfl, hb⟩; rw [hS]; have HK3 := Lib.hid (HK2.out.trans (hb.mono HK2.out.size)); have HA3 := Lib.hid (HA2.out.below hb); have HP3 := Lib.hid (HP2.out.below hb); obtain ⟨c0, c1, c2⟩ := HC.out _ HK3.out; have nl := World.block_lt_of_cell? _ _ c0; clear hb)
        | (go_at_call 15; refine (HX.out _ HA3.out).mono ?_; rintro e w4 ⟨g, cap, rfl, hg1, hg2, hT, hb⟩; obtain ⟨d0, d1, d2, d3, d4, d5⟩ := hT 0 _ rfl; simp only [Nat.zero_mul, Nat.zero_add] at d0 d1 d2 d3 d4 d5; clear hT; have HK4 := Lib.hid (HK3.out.trans (hb.mono HK3.out.size)); have HA4 := Lib.hid (HA3.out.below hb); have HP4 := Lib.hid (HP3.out.below hb); obtain ⟨c0, c1, c2⟩ := HC.out _ HK4.out; have nl := World.block_lt_of_cell? _ _ c0; clear hb)
        | fail)
      go_quiet (fail)
      go_wp2_with (first
        | (go_at_call 25; refine (HL.out _).mono ?_; rintro e w5 ⟨rfl, hb⟩; have HK5 := Lib.hid (HK4.out.trans ((below_drewN _).trans (hb.mono (by simp [World.drewN])) |>.mono HK4.out.size)); clear hb)
        | (go_at_call 24; refine (HNm.out _).mono ?_; rintro e w6 ⟨rfl, hb⟩; have HK6 := Lib.hid (HK5.out.trans (hb.mono HK5.out.size)); clear hb)
        | fail)
      go_ret
      exact ⟨rfl, HFin.out _ HK6.out⟩
  | true =>
    rw [hnm] at HNm
    obtain ⟨hn1, hn2⟩ := lex_name (l := v.data.toList) (by rw [← hLl]; exact hnm)
    rw [hLd, ← hUl] at hn1
    rw [hLd, ← hLl] at hn2
    obtain ⟨nn, hnn⟩ : ∃ nn, v.data.toList.length = nn := ⟨_, rfl⟩
    rw [hnn] at hn1 hn2
    have HXU := Lib.hid (fun W h => lex_ok hn1 W h)
    have HXL := Lib.hid (fun W h => lex_ok hn2 W h)
    have hsm := fun (W : World) (g1 g2 c1 c2 : Nat) (h1 : g1 < W.heap.size) (h2 : g2 < W.heap.size) (h3 : TCells W g1 [⟨1, L, Dt.zero, 0⟩, endT nn]) (h4 : TCells W g2 [⟨1, L, Dt.zero, 0⟩, endT nn]) => same_any W g1 g2 c1 c2 _ _ true h1 h2 h3 h4 (SameTk.refl _) (fun _ => rfl) (by simp)
    simp only [List.length_cons, List.length_nil, Nat.zero_add, Nat.reduceAdd] at hsm
    have HSm := Lib.hid hsm
    clear hsm
    have HL1 := HL
    have HL2 := HL
    clear hUd hLd hUl hLl hnm hn1 hn2 hnn
    rcases hkb with ⟨hk2, hi2⟩ | ⟨hk2, hk3, hi2⟩ | ⟨hk2, hk3⟩
    all_goals
      go_enter Tryd.func7, Tryd.ntmps7
      go_wp2_with (first
        | (go_at_call 22; refine (refright_any _ _ _ _).mono ?_; rintro e w2 ⟨rfl, hb⟩; rw [HR.out]; have HK2 := Lib.hid (HK1.out.trans (hb.mono HK1.out.size)); have HA2 := Lib.hid (HA1.out.below hb); have HP2 := Lib.hid (HP1.out.below hb); obtain ⟨c0, c1, c2⟩ := HC.out _ HK2.out; have nl := World.block_lt_of_cell? _ _ c0; clear hb)
        | (go_at_call 23; refine (rprint_all ⟨k, i, s⟩ _ HP2.out i0 i1).mono ?_; rintro e w3 ⟨rfl, hb⟩; rw [hS]; have HK3 := Lib.hid (HK2.out.trans (hb.mono HK2.out.size)); have HA3 := Lib.hid (HA2.out.below hb); have HP3 := Lib.hid (HP2.out.below hb); obtain ⟨c0, c1, c2⟩ := HC.out _ HK3.out; have nl := World.block_lt_of_cell? _ _ c0; clear hb)
        | (go_at_call 15; refine (HX.out _ HA3.out).mono ?_; rintro e w4 ⟨g, cap, rfl, hg1, hg2, hT, hb⟩; obtain ⟨d0, d1, d2, d3, d4, d5⟩ := hT 0 _ rfl; simp only [Nat.zero_mul, Nat.zero_add] at d0 d1 d2 d3 d4 d5; clear hT; have HK4 := Lib.hid (HK3.out.trans (hb.mono HK3.out.size)); have HA4 := Lib.hid (HA3.out.below hb); have HP4 := Lib.hid (HP3.out.below hb); obtain ⟨c0, c1, c2⟩ := HC.out _ HK4.out; have nl := World.block_lt_of_cell? _ _ c0; clear hb)
        | fail)
      go_quiet (fail)
      go_wp2_with (first
        | (go_at_call 25; refine (HL1.out _).mono ?_; clear HL1; rintro e w5 ⟨rfl, hb⟩; have HK5 := Lib.hid (HK4.out.trans ((below_drewN _).trans (hb.mono (by simp [World.drewN])) |>.mono HK4.out.size)); have HA5 := Lib.hid ((HA4.out.below (below_drewN _)).below hb); clear hb)
        | (go_at_call 24; refine (HNm.out _).mono ?_; rintro e w6 ⟨rfl, hb⟩; have HK6 := Lib.hid (HK5.out.trans (hb.mono HK5.out.size)); have HA6 := Lib.hid (HA5.out.below hb); clear hb)
        | (go_at_call 20; refine (HU.out _).mono ?_; rintro e w7 ⟨rfl, hb⟩; have HK7 := Lib.hid (HK6.out.trans (hb.mono HK6.out.size)); have HA7 := Lib.hid (HA6.out.below hb); clear hb)
        | (go_at_call_of 15 (Value.string U); refine (HXU.out _ HA7.out).mono ?_; rintro e w8 ⟨ga, ca, rfl, hga1, hga2, hT, hb⟩; have HT8 := Lib.hid hT; have HK8 := Lib.hid (HK7.out.trans (hb.mono HK7.out.size)); have HA8 := Lib.hid (HA7.out.below hb); clear hb hT)
        | (go_at_call 25; refine (HL2.out _).mono ?_; clear HL2; rintro e w9 ⟨rfl, hb⟩; have HK9 := Lib.hid (HK8.out.trans (hb.mono HK8.out.size)); have HA9 := Lib.hid (HA8.out.below hb); have HT9 := Lib.hid (HT8.out.below hb hga2); have hga9 := Nat.lt_of_lt_of_le hga2 hb.size; clear hb)
        | (go_at_call_of 15 (Value.string L); refine (HXL.out _ HA9.out).mono ?_; rintro e w10 ⟨gb, cb, rfl, hgb1, hgb2, hT, hb⟩; have HT10 := Lib.hid hT; have HK10 := Lib.hid (HK9.out.trans (hb.mono HK9.out.size)); have HA10 := Lib.hid (HA9.out.below hb); have HTa := Lib.hid (HT9.out.below hb hga9); have hga10 := Nat.lt_of_lt_of_le hga9 hb.size; clear hb hT)
        | fail)
      obtain ⟨d0, d1, d2, d3, d4, d5⟩ := HTa.out 0 _ rfl
      simp only [Nat.zero_mul, Nat.zero_add] at d0 d1 d2 d3 d4 d5
      have HBr : Hid (∀ W, Below w10.heap.size w10 W → W.cell? ⟨ga, 0, none⟩ = some (.int .i64 1) ∧ W.cell? ⟨ga, 1, none⟩ = some (.string L)) := by
        intro W hW
        rw [hW.cell (p := ⟨ga, 0, none⟩) hga10, hW.cell (p := ⟨ga, 1, none⟩) hga10]
        exact ⟨d0, d1⟩
      go_region_held3 (fun w' => Below w10.heap.size w10 w' ∧ ∀ b o, b < w10.heap.size → w'.cell? ⟨b, o, none⟩ = w10.cell? ⟨b, o, none⟩) ((clear HL HSm; first | (with_reducible exact held_drew) | (with_reducible exact held_below ‹_› ‹_›) | (refine held_of ?_; repeat' (first | (with_reducible exact (‹KwB w10 _›).b) | (with_reducible refine Below.drew ?_) | (with_reducible exact Below.refl _ _)))))
        (first
          | (go_at_call 25; (with_reducible refine (HL.out _).mono ?_); rintro e w11 ⟨rfl, hb11⟩; have hKw := KwB.mk (held_below ‹_› hb11).1)
          | (go_at_call 17; (with_reducible refine (HSm.out _ _ _ _ _ (Nat.lt_of_lt_of_le hga10 (KwB.mk (by assumption : _ ∧ _).1).b.size) (Nat.lt_of_lt_of_le hgb2 (KwB.mk (by assumption : _ ∧ _).1).b.size) (HTa.out.below (KwB.mk (by assumption : _ ∧ _).1).b hga10) (HT10.out.below (KwB.mk (by assumption : _ ∧ _).1).b hgb2)).mono ?_); rintro e w12 ⟨rfl, hb12⟩; have hKw := KwB.mk (held_below ‹_› hb12).1))
      go_wp2_with fail
      go_ret
      exact ⟨by simp, HFin.out _ (by repeat' (first | exact HK10.out.trans (hKw.b.mono HK10.out.size) | refine Below.drew ?_))⟩

theorem values_walk (k i : Int) (s v : ByteArray) (w : World) (hA : Asc w) (hP : Pow w) (i0 : -9223372036854775808 ≤ i) (i1 : i ≤ 9223372036854775807) (hv : v.size ≤ 140737488351232) :
    Calls Tryd.prog 7 #[.agg #[.int .i64 k, .int .i64 i, .string s], .string v] w fun e w' => e = .returned (.bool true) ∧ Below w.heap.size w w' := by
  cases hr : rightD ⟨k, i, s⟩ with
  | false => exact values_bad k i s v w hA hP hr
  | true =>
    by_cases hk : k ≤ 1
    · exact values_word k i s v w hA hP i0 i1 hr hk
    · by_cases hn : (k = 2 ∨ k = 3) ∧ i < 0
      · exact values_neg k i s v w hA hP i0 i1 hr hn.1 hn.2
      · exact values_val k i s v w hA hP i0 i1 hv hr (by omega) hn
end Go.Proofs.YtnpgjlhnlakgpaaDoor

/- DatumApplies: both sides, at any arguments; the walk of the law. The walk of DatumApplies: it answers true. -/
import Derived.Test.YtidejjjedpdbeaaDoorRefPlain
import Derived.Test.YtidejjjedpdbeaaDoorOpenDS
import Derived.Test.YtidejjjedpdbeaaDoorG09
import Derived.Test.YtidejjjedpdbeaaDoorG07
namespace Go.Proofs.YtidejjjedpdbeaaDoor
open Go.RowKit

/-- One of the two Apply answers this, in every world from here on. -/
def Answers (f : Nat) (op : Int) (v : Value) (w : World) (T : Dt) (te : Int) : Prop :=
  ∀ W, Below w.heap.size w W → Calls Tryd.prog f #[.int .i64 op, v] W fun e w' => e = .returned (.tuple #[T.v, .int .i64 te]) ∧ Below W.heap.size W w'
def Both (op : Int) (v : Value) (w : World) : Prop := ∃ (T : Dt) (te : Int), Answers 9 op v w T te ∧ Answers 10 op v w T te
theorem Both.of {op : Int} {v : Value} {w : World} (R : Dt × Int) (h1 : Answers 9 op v w R.1 R.2) (h2 : Answers 10 op v w R.1 R.2) : Both op v w := ⟨R.1, R.2, h1, h2⟩

theorem dn1 (d : Dt) : dnth [d] 0 = d := rfl
theorem all1 {d : Dt} (h : rightD d = true) : ∀ j, j < [d].length → rightD (dnth [d] j) = true := fun j hj => by
  obtain rfl : j = 0 := by simpa using hj
  exact h
theorem all2 {d d' : Dt} (h : rightD d = true) (h' : rightD d' = true) : ∀ j, j < [d, d'].length → rightD (dnth [d, d'] j) = true := fun j hj => by
  have : j = 0 ∨ j = 1 := by simp at hj; omega
  rcases this with rfl | rfl
  · exact h
  · exact h'
theorem only_of (ds : List Dt) : ds.all (onlyF 2 3) = ds.all (isOf [2, 3]) := by
  induction ds with
  | nil => rfl
  | cons d l ih => simp only [List.all_cons, ih, onlyF_two]

set_option maxHeartbeats 2000000 in
theorem both_one (op : Int) (hop : op = 1 ∨ op = 2 ∨ op = 15 ∨ op = 18 ∨ op = 19 ∨ op = 20) (k i : Int) (s : ByteArray) (b o cap : Nat) (w : World) (hbk : b < w.heap.size) (hc : DCells w b o [⟨k, i, s⟩]) (hT : Tabs w) (hr : rightD ⟨k, i, s⟩ = true) (hi : In64 i) :
    Both op (.slice (some ⟨b, o, none⟩) 1 cap) w := by
  have ha : ∀ x, (hx : x = op) → manyF op = ([⟨k, i, s⟩] : List Dt).length := fun x _ => by
    rcases hop with rfl | rfl | rfl | rfl | rfl | rfl <;> rfl
  have hm := ha op rfl
  have hb : ∀ W, Below w.heap.size w W → b < W.heap.size := fun W h => Nat.lt_of_lt_of_le hbk h.size
  have hcc : ∀ W, Below w.heap.size w W → DCells W b o [⟨k, i, s⟩] := fun W h => hc.below h hbk
  have i1 : i < 9223372036854775808 := by have := hi.2; omega
  -- arithmetic at one value
  have ari : ∀ (r : Dt × Bool), (op = 1 ∨ op = 19 ∨ op = 20) → (Answers 9 op (.slice (some ⟨b, o, none⟩) 1 cap) w (numA [⟨k, i, s⟩] r).1 (numA [⟨k, i, s⟩] r).2) →
      (([⟨k, i, s⟩] : List Dt).all (isOf [2, 3]) = true → ([⟨k, i, s⟩] : List Dt).any (fun d => d.k == 0) = false → ∀ W, Below w.heap.size w W → Calls Tryd.prog 36 #[.int .i64 op, .slice (some ⟨b, o, none⟩) 1 cap] W fun e w' => e = .returned (.tuple #[(numA [⟨k, i, s⟩] r).1.v, .int .i64 (numA [⟨k, i, s⟩] r).2]) ∧ Below W.heap.size W w') →
      Both op (.slice (some ⟨b, o, none⟩) 1 cap) w := fun r hop2 h1 h2 => by
    refine Both.of _ h1 fun W hW => ?_
    cases hall : ([⟨k, i, s⟩] : List Dt).all (isOf [2, 3])
    · rw [num_type _ _ hall]
      exact refapply_type op [⟨k, i, s⟩] b o cap W (by simp) hm (by simp) (hb W hW) (hcc W hW) (all1 hr) (by omega) (by rw [only_of]; exact hall)
    · cases hany : ([⟨k, i, s⟩] : List Dt).any (fun d => d.k == 0)
      · exact refapply_ar op [⟨k, i, s⟩] b o cap W (by simp) hm (by simp) (hb W hW) (hcc W hW) (all1 hr) (by omega) (by rw [only_of]; exact hall) _ _ _ _ (fun W2 hW2 => h2 hall hany W2 (hW.trans (hW2.mono hW.size)))
      · rw [num_null _ _ hall hany]
        exact refapply_ar op [⟨k, i, s⟩] b o cap W (by simp) hm (by simp) (hb W hW) (hcc W hW) (all1 hr) (by omega) (by rw [only_of]; exact hall) _ _ _ _ (fun W2 hW2 => refar_null1 op k i s b o cap W2 (hb W2 (hW.trans (hW2.mono hW.size))) (hcc W2 (hW.trans (hW2.mono hW.size))) hr hany)
  have one : ∀ {p : Dt → Bool}, ([⟨k, i, s⟩] : List Dt).all p = true → p ⟨k, i, s⟩ = true := fun h => by simpa using h
  have non : ([⟨k, i, s⟩] : List Dt).any (fun d => d.k == 0) = false → (k == 0) = false := fun h => by simpa using h
  rcases hop with rfl | rfl | rfl | rfl | rfl | rfl
  · refine ari (negR ⟨k, i, s⟩) (.inl rfl) (fun W hW => apply_neg ⟨k, i, s⟩ b o cap W (hb W hW) (hcc W hW) (hT.below hW) hr hi.1 i1) fun hall hany W hW => ?_
    rw [← eq_neg hr (one hall) (non hany) hi]
    exact refar_neg k i s b o cap W (hb W hW) (hcc W hW) hr hany hi
  · refine Both.of (notR ⟨k, i, s⟩) (fun W hW => apply_not ⟨k, i, s⟩ b o cap W (hb W hW) (hcc W hW) (hT.below hW) hr) fun W hW => ?_
    exact refapply_logic 2 [⟨k, i, s⟩] b o cap W (by simp) hm (by simp) (hb W hW) (hcc W hW) (all1 hr) (.inl rfl) _ _ _ _ (fun W2 hW2 => reflogic_not ⟨k, i, s⟩ b o cap W2 (hb W2 (hW.trans (hW2.mono hW.size))) (hcc W2 (hW.trans (hW2.mono hW.size))))
  · refine Both.of (nullR ⟨k, i, s⟩) (fun W hW => apply_isnull ⟨k, i, s⟩ b o cap W (hb W hW) (hcc W hW) (hT.below hW) hr) fun W hW => ?_
    exact refapply_null 15 [⟨k, i, s⟩] b o cap W (by simp) hm (by simp) (hb W hW) (hcc W hW) (all1 hr) k i s rfl rfl
  · refine Both.of (lenR ⟨k, i, s⟩) (fun W hW => apply_len ⟨k, i, s⟩ b o cap W (hb W hW) (hcc W hW) (hT.below hW) hr) fun W hW => ?_
    exact refapply_len 18 [⟨k, i, s⟩] b o cap W (by simp) hm (by simp) (hb W hW) (hcc W hW) (all1 hr) k i s rfl rfl
  · refine ari (absR ⟨k, i, s⟩) (.inr (.inl rfl)) (fun W hW => apply_abs ⟨k, i, s⟩ b o cap W (hb W hW) (hcc W hW) (hT.below hW) hr hi.1 i1) fun hall hany W hW => ?_
    by_cases hneg : i < 0
    · rw [eq_absneg hneg, ← eq_neg hr (one hall) (non hany) hi]
      exact refar_absneg k i s b o cap W (hb W hW) (hcc W hW) hr hany hi hneg
    · rw [← eq_abs (one hall) (non hany) hneg]
      exact refar_abs k i s b o cap W (hb W hW) (hcc W hW) hr hany hneg
  · refine ari (asDecR ⟨k, i, s⟩) (.inr (.inr rfl)) (fun W hW => apply_dec ⟨k, i, s⟩ b o cap W (hb W hW) (hcc W hW) (hT.below hW) hr hi.1 i1) fun hall hany W hW => ?_
    rw [← eq_dec hr (one hall) (non hany) hi]
    exact refar_dec k i s b o cap W (hb W hW) (hcc W hW) hr hany hi

set_option maxHeartbeats 2000000 in
theorem both_two (op : Int) (h3 : 3 ≤ op) (h14 : op ≤ 14) (ak ai : Int) (sa : ByteArray) (bk bi : Int) (sb : ByteArray) (b o cap : Nat) (w : World) (hbk : b < w.heap.size) (hc : DCells w b o [⟨ak, ai, sa⟩, ⟨bk, bi, sb⟩]) (hT : Tabs w)
    (hr : rightD ⟨ak, ai, sa⟩ = true) (hr' : rightD ⟨bk, bi, sb⟩ = true) (hi : In64 ai) (hj : In64 bi) : Both op (.slice (some ⟨b, o, none⟩) 2 cap) w := by
  have hm : manyF op = ([⟨ak, ai, sa⟩, ⟨bk, bi, sb⟩] : List Dt).length := by unfold manyF; rw [if_pos ⟨h3, h14⟩]; rfl
  have hb : ∀ W, Below w.heap.size w W → b < W.heap.size := fun W h => Nat.lt_of_lt_of_le hbk h.size
  have hcc : ∀ W, Below w.heap.size w W → DCells W b o [⟨ak, ai, sa⟩, ⟨bk, bi, sb⟩] := fun W h => hc.below h hbk
  have i1 : ai < 9223372036854775808 := by have := hi.2; omega
  have j1 : bi < 9223372036854775808 := by have := hj.2; omega
  by_cases hop : op = 3 ∨ op = 4 ∨ op = 5 ∨ op = 6
  · have h1 : Answers 9 op (.slice (some ⟨b, o, none⟩) 2 cap) w (numA [⟨ak, ai, sa⟩, ⟨bk, bi, sb⟩] (numR op ⟨ak, ai, sa⟩ ⟨bk, bi, sb⟩)).1 (numA [⟨ak, ai, sa⟩, ⟨bk, bi, sb⟩] (numR op ⟨ak, ai, sa⟩ ⟨bk, bi, sb⟩)).2 := fun W hW => by
      rcases hop with rfl | rfl | rfl | rfl
      · exact apply_add ⟨ak, ai, sa⟩ ⟨bk, bi, sb⟩ b o cap W (hb W hW) (hcc W hW) (hT.below hW) hr hr' hi.1 i1 hj.1 j1
      · exact apply_sub ⟨ak, ai, sa⟩ ⟨bk, bi, sb⟩ b o cap W (hb W hW) (hcc W hW) (hT.below hW) hr hr' hi.1 i1 hj.1 j1
      · exact apply_mul ⟨ak, ai, sa⟩ ⟨bk, bi, sb⟩ b o cap W (hb W hW) (hcc W hW) (hT.below hW) hr hr' hi.1 i1 hj.1 j1
      · exact apply_div ⟨ak, ai, sa⟩ ⟨bk, bi, sb⟩ b o cap W (hb W hW) (hcc W hW) (hT.below hW) hr hr' hi.1 i1 hj.1 j1
    refine Both.of _ h1 fun W hW => ?_
    have hop7 : op = 1 ∨ op = 19 ∨ op = 20 ∨ op = 3 ∨ op = 4 ∨ op = 5 ∨ op = 6 := by omega
    cases hall : ([⟨ak, ai, sa⟩, ⟨bk, bi, sb⟩] : List Dt).all (isOf [2, 3])
    · rw [num_type _ _ hall]
      exact refapply_type op [⟨ak, ai, sa⟩, ⟨bk, bi, sb⟩] b o cap W (by simp) hm (by simp) (hb W hW) (hcc W hW) (all2 hr hr') hop7 (by rw [only_of]; exact hall)
    · refine refapply_ar op [⟨ak, ai, sa⟩, ⟨bk, bi, sb⟩] b o cap W (by simp) hm (by simp) (hb W hW) (hcc W hW) (all2 hr hr') hop7 (by rw [only_of]; exact hall) _ _ _ _ (fun W2 hW2 => ?_)
      have hW3 := hW.trans (hW2.mono hW.size)
      cases hany : ([⟨ak, ai, sa⟩, ⟨bk, bi, sb⟩] : List Dt).any (fun d => d.k == 0)
      · obtain ⟨ha1, ha2⟩ := both_all hall
        obtain ⟨hn1, hn2⟩ := both_any hany
        obtain ⟨hk1, rfl⟩ := right_num hr ha1 hn1
        obtain ⟨hk2, rfl⟩ := right_num hr' ha2 hn2
        rw [num_some _ _ hall hany]
        by_cases hd : ak = 3 ∨ bk = 3
        · have hkk : ((ak == 2) && (bk == 2)) = false := by
            rcases hd with rfl | rfl
            · rfl
            · rw [Bool.and_eq_false_iff]; exact .inr rfl
          obtain ⟨ha3, ha4⟩ := asDec_ok (s := ⟨#[]⟩) hk1 hi
          obtain ⟨hb3, hb4⟩ := asDec_ok (s := ⟨#[]⟩) hk2 hj
          by_cases hg : In64 (numZ ak ai) ∧ In64 (numZ bk bi)
          · have hR : numR op ⟨ak, ai, ⟨#[]⟩⟩ ⟨bk, bi, ⟨#[]⟩⟩ = arith 3 op (numZ ak ai) (numZ bk bi) 10000 := by
              unfold numR
              rw [if_pos hd, if_pos ⟨by rw [ha3]; exact decide_eq_true hg.1, by rw [hb3]; exact decide_eq_true hg.2⟩, ha4 hg.1, hb4 hg.2]
            rw [hR, ← eq_arith 3 op _ _ 10000 hop (by decide)]
            exact refar_good op ak ai ⟨#[]⟩ bk bi ⟨#[]⟩ b o cap W2 (hb W2 hW3) (hcc W2 hW3) hr hr' hany hop hi hj _ _ rfl rfl hkk hg.1 hg.2
          · have hR : numR op ⟨ak, ai, ⟨#[]⟩⟩ ⟨bk, bi, ⟨#[]⟩⟩ = (Dt.zero, false) := by
              unfold numR
              rw [if_pos hd, if_neg (fun h => hg ⟨by have := h.1; rw [ha3] at this; exact of_decide_eq_true this, by have := h.2; rw [hb3] at this; exact of_decide_eq_true this⟩)]
            rw [hR]
            exact refar_bad op ak ai ⟨#[]⟩ bk bi ⟨#[]⟩ b o cap W2 (hb W2 hW3) (hcc W2 hW3) hr hr' hany hop hi hj _ _ rfl rfl hkk hg
        · obtain rfl : ak = 2 := by omega
          obtain rfl : bk = 2 := by omega
          have hR : numR op ⟨2, ai, ⟨#[]⟩⟩ ⟨2, bi, ⟨#[]⟩⟩ = arith 2 op ai bi 1 := if_neg hd
          rw [hR, ← eq_arith 2 op _ _ 1 hop (by decide)]
          exact refar_int op ai ⟨#[]⟩ bi ⟨#[]⟩ b o cap W2 (hb W2 hW3) (hcc W2 hW3) hr hr' hany hop hi hj
      · rw [num_null _ _ hall hany]
        exact refar_null2 op ak ai sa bk bi sb b o cap W2 (hb W2 hW3) (hcc W2 hW3) hr hr' hany
  · by_cases h12 : op ≤ 12
    · have h7 : 7 ≤ op := by omega
      refine Both.of (cmpR op ⟨ak, ai, sa⟩ ⟨bk, bi, sb⟩) (fun W hW => apply_cmp op ⟨ak, ai, sa⟩ ⟨bk, bi, sb⟩ b o cap W (hb W hW) (hcc W hW) (hT.below hW) hr hr' h7 h12 hi.1 hi.2 hj.1 hj.2) fun W hW => ?_
      refine refapply_cmp op [⟨ak, ai, sa⟩, ⟨bk, bi, sb⟩] b o cap W (by simp) hm (by simp) (hb W hW) (hcc W hW) (all2 hr hr') h7 h12 _ _ _ _ (fun W2 hW2 => ?_)
      have hW3 := hW.trans (hW2.mono hW.size)
      cases hany : ([⟨ak, ai, sa⟩, ⟨bk, bi, sb⟩] : List Dt).any (fun d => d.k == 0)
      · cases hall : ([⟨ak, ai, sa⟩, ⟨bk, bi, sb⟩] : List Dt).all (isOf [2, 3])
        · cases hne : (ak != bk)
          · have hR : cmpR op ⟨ak, ai, sa⟩ ⟨bk, bi, sb⟩ = (truthD (cmpOp op (dco ak ai sa bk bi sb)), 0) := by
              unfold cmpR comparedF ordD
              rw [if_neg (fun h => h.2.2 (by simpa using hne)), if_neg (by rw [hany]; decide), if_neg (by rw [hall]; decide)]
            rw [hR]
            exact refcomp_same op ak ai sa bk bi sb b o cap W2 (hb W2 hW3) (hcc W2 hW3) hany hall hne h7 h12
          · have hR : cmpR op ⟨ak, ai, sa⟩ ⟨bk, bi, sb⟩ = (Dt.zero, 5) := by
              unfold cmpR
              rw [if_pos ⟨hall, hany, by simpa using hne⟩]
            rw [hR]
            exact refcomp_type op ak ai sa bk bi sb b o cap W2 (hb W2 hW3) (hcc W2 hW3) hany hall hne
        · obtain ⟨ha1, ha2⟩ := both_all hall
          obtain ⟨hn1, hn2⟩ := both_any hany
          obtain ⟨hk1, rfl⟩ := right_num hr ha1 hn1
          obtain ⟨hk2, rfl⟩ := right_num hr' ha2 hn2
          have hR : cmpR op ⟨ak, ai, ⟨#[]⟩⟩ ⟨bk, bi, ⟨#[]⟩⟩ = (truthD (cmpOp op (cmpZ (numZ ak ai) (numZ bk bi))), 0) := by
            unfold cmpR comparedF ordD
            rw [if_neg (fun h => by rw [hall] at h; exact absurd h.1 (by decide)), if_neg (by rw [hany]; decide), if_pos hall, ord_num hk1 hk2]
          rw [hR]
          exact refcomp_num op ak ai ⟨#[]⟩ bk bi ⟨#[]⟩ b o cap W2 (hb W2 hW3) (hcc W2 hW3) hany hall h7 h12 hi hj
      · have hR : cmpR op ⟨ak, ai, sa⟩ ⟨bk, bi, sb⟩ = (Dt.zero, 0) := by
          unfold cmpR comparedF
          rw [if_neg (fun h => by rw [hany] at h; exact absurd h.2.1 (by decide)), if_pos hany]
        rw [hR]
        exact refcomp_null op ak ai sa bk bi sb b o cap W2 (hb W2 hW3) (hcc W2 hW3) hany
    · have h2 : op = 13 ∨ op = 14 := by omega
      rcases h2 with rfl | rfl
      · refine Both.of (andorR 0 ⟨ak, ai, sa⟩ ⟨bk, bi, sb⟩) (fun W hW => apply_and ⟨ak, ai, sa⟩ ⟨bk, bi, sb⟩ b o cap W (hb W hW) (hcc W hW) (hT.below hW) hr hr') fun W hW => ?_
        exact refapply_logic 13 [⟨ak, ai, sa⟩, ⟨bk, bi, sb⟩] b o cap W (by simp) hm (by simp) (hb W hW) (hcc W hW) (all2 hr hr') (.inr (.inl rfl)) _ _ _ _ (fun W2 hW2 => reflogic_and ⟨ak, ai, sa⟩ ⟨bk, bi, sb⟩ b o cap W2 (hb W2 (hW.trans (hW2.mono hW.size))) (hcc W2 (hW.trans (hW2.mono hW.size))) hr hr')
      · refine Both.of (andorR 1 ⟨ak, ai, sa⟩ ⟨bk, bi, sb⟩) (fun W hW => apply_or ⟨ak, ai, sa⟩ ⟨bk, bi, sb⟩ b o cap W (hb W hW) (hcc W hW) (hT.below hW) hr hr') fun W hW => ?_
        exact refapply_logic 14 [⟨ak, ai, sa⟩, ⟨bk, bi, sb⟩] b o cap W (by simp) hm (by simp) (hb W hW) (hcc W hW) (all2 hr hr') (.inr (.inr rfl)) _ _ _ _ (fun W2 hW2 => reflogic_or ⟨ak, ai, sa⟩ ⟨bk, bi, sb⟩ b o cap W2 (hb W2 (hW.trans (hW2.mono hW.size))) (hcc W2 (hW.trans (hW2.mono hW.size))) hr hr')
end Go.Proofs.YtidejjjedpdbeaaDoor
namespace Go.Proofs.YtidejjjedpdbeaaDoor
open Go.RowKit

theorem dat_below {w W : World} {v : Value} {ds : List Dt} (h : DatS w v ds) (hb : Below w.heap.size w W) : DatS W v ds := by
  obtain ⟨p, cap, rfl, h1, h2, h3, h4⟩ := h
  refine ⟨p, cap, rfl, h1, h2, ?_, h4⟩
  rcases h3 with h3 | ⟨b, o, rfl, hbk, hc⟩
  · exact .inl h3
  · exact .inr ⟨b, o, rfl, Nat.lt_of_lt_of_le hbk hb.size, hc.below hb hbk⟩
theorem dat_bad {ds : List Dt} (h : ¬ ∀ j, j < ds.length → rightD (dnth ds j) = true) : ∃ j, j < ds.length ∧ rightD (dnth ds j) = false := by
  simpa using h
theorem both_any_args (op : Int) (v : Value) (ds : List Dt) (w : World) (hS : DatS w v ds) (hn : ds.length ≤ 5) (hT : Tabs w) : Both op v w := by
  have hS0 := hS
  obtain ⟨p, cap, rfl, h1, h2, h3, h4⟩ := hS
  by_cases hm : manyF op = 0 ∨ ((ds.length : Nat) : Int) ≠ manyF op
  · exact Both.of (Dt.zero, 1) (fun W _ => apply_count op p ds.length cap W hm) fun W _ => refapply_count op p ds.length cap W hm
  · have hm0 : manyF op ≠ 0 := fun h => hm (.inl h)
    have hm1 : manyF op = ((ds.length : Nat) : Int) := Classical.byContradiction fun h => hm (.inr fun e => h e.symm)
    have hl : 0 < ds.length := by
      rcases Nat.eq_zero_or_pos ds.length with h | h
      · rw [h] at hm1; exact absurd hm1 hm0
      · exact h
    have hds : ds ≠ [] := fun h => by rw [h] at hl; simp at hl
    obtain ⟨b, o, rfl, hbk, hc⟩ := h3.resolve_left hds
    have hb : ∀ W, Below w.heap.size w W → b < W.heap.size := fun W h => Nat.lt_of_lt_of_le hbk h.size
    by_cases hr : ∀ j, j < ds.length → rightD (dnth ds j) = true
    · have hcase : ((3 ≤ op ∧ op ≤ 14) ∧ ds.length = 2) ∨ ((op = 1 ∨ op = 2 ∨ op = 15 ∨ op = 18 ∨ op = 19 ∨ op = 20) ∧ ds.length = 1) := by
        unfold manyF at hm0 hm1
        by_cases c1 : 3 ≤ op ∧ op ≤ 14
        · rw [if_pos c1] at hm1; exact .inl ⟨c1, by omega⟩
        · rw [if_neg c1] at hm0 hm1
          by_cases c2 : op = 1 ∨ op = 2 ∨ op = 15 ∨ (18 ≤ op ∧ op ≤ 20)
          · rw [if_pos c2] at hm1; exact .inr ⟨by omega, by omega⟩
          · rw [if_neg c2] at hm0; exact absurd rfl hm0
      rcases hcase with ⟨⟨c1, c2⟩, hl2⟩ | ⟨c1, hl1⟩
      · match ds, hl2 with
        | [⟨ak, ai, sa⟩, ⟨bk, bi, sb⟩], _ =>
          exact both_two op c1 c2 ak ai sa bk bi sb b o cap w hbk hc hT (hr 0 (by simp)) (hr 1 (by simp)) (h4 ⟨ak, ai, sa⟩ (by simp)) (h4 ⟨bk, bi, sb⟩ (by simp))
      · match ds, hl1 with
        | [⟨k, i, s⟩], _ => exact both_one op c1 k i s b o cap w hbk hc hT (hr 0 (by simp)) (h4 ⟨k, i, s⟩ (by simp))
    · exact Both.of (Dt.zero, 1) (fun W hW => apply_bad op ds b o cap W (by omega) hm1 hl (hb W hW) (hc.below hW hbk) (hT.below hW) (dat_bad hr)) fun W hW => refapply_bad op ds b o cap W (by omega) hm1 hl (hb W hW) (hc.below hW hbk) (dat_bad hr)

theorem eqD_refl (k i : Int) (s : ByteArray) : eqD k i s k i s = true := eqD_iff.2 ⟨rfl, rfl, rfl⟩

set_option maxHeartbeats 1000000 in
theorem applies_short (op : Int) (p : Option Addr) (n cap : Nat) (hn : n ≤ 5) (w : World) (h : Both op (.slice p n cap) w) :
    Calls Tryd.prog 3 #[.int .i64 op, .slice p n cap] w fun e w' => e = .returned (.bool true) ∧ Below w.heap.size w w' := by
  obtain ⟨⟨tk, ti, ts⟩, te, h1, h2⟩ := h
  have H1 := Lib.hid (h1 w (Below.refl _ _))
  have H2 := Lib.hid h2
  have he := eqD_refl tk ti ts
  have hni : ¬ ((5 : Int) < (n : Int)) := by omega
  clear h1 h2
  go_enter Tryd.func3, Tryd.ntmps3
  go_wp2_with fail
  refine H1.out.mono ?_
  rintro e w1 ⟨rfl, hb1⟩
  have HB1 := Lib.hid hb1
  have KB := Lib.hid (Bx.new w1 (.int .i64 tk) (.int .i64 ti) (.string ts) 24)
  have HB2 := Lib.hid (hb1.alloc hb1.size (.cells #[.int .i64 tk, .int .i64 ti, .string ts] 24))
  clear hb1
  go_wp2_with fail
  refine (H2.out _ HB2.out).mono ?_
  rintro e w2 ⟨rfl, hb2⟩
  obtain ⟨a0, a1, a2, -, -, -, al⟩ := KB.out.below hb2
  have HB3 := Lib.hid (HB2.out.trans (hb2.mono HB2.out.size))
  clear hb2
  have hw1 : w1.heap.size < w2.heap.size := al
  go_wp2_with fail
  go_ret
  exact ⟨rfl, HB3.out.alloc HB3.out.size _⟩

set_option maxHeartbeats 1000000 in
theorem applies_long (op : Int) (p : Option Addr) (n cap : Nat) (hn : 5 < n) (hcap : n ≤ cap) (hm : cap ≤ 9223372036854775807) (w : World) (h : Both op (.slice p 5 cap) w) :
    Calls Tryd.prog 3 #[.int .i64 op, .slice p n cap] w fun e w' => e = .returned (.bool true) ∧ Below w.heap.size w w' := by
  obtain ⟨⟨tk, ti, ts⟩, te, h1, h2⟩ := h
  have H1 := Lib.hid (h1 w (Below.refl _ _))
  have H2 := Lib.hid h2
  have he := eqD_refl tk ti ts
  have hni : (5 : Int) < (n : Int) := by omega
  have hci : (5 : Int) ≤ (cap : Int) := by omega
  have hcn : 5 ≤ cap := by omega
  clear h1 h2
  go_enter Tryd.func3, Tryd.ntmps3
  go_wp2_with fail
  refine H1.out.mono ?_
  rintro e w1 ⟨rfl, hb1⟩
  have HB1 := Lib.hid hb1
  have KB := Lib.hid (Bx.new w1 (.int .i64 tk) (.int .i64 ti) (.string ts) 24)
  have HB2 := Lib.hid (hb1.alloc hb1.size (.cells #[.int .i64 tk, .int .i64 ti, .string ts] 24))
  clear hb1
  go_wp2_with fail
  refine (H2.out _ HB2.out).mono ?_
  rintro e w2 ⟨rfl, hb2⟩
  obtain ⟨a0, a1, a2, -, -, -, al⟩ := KB.out.below hb2
  have HB3 := Lib.hid (HB2.out.trans (hb2.mono HB2.out.size))
  clear hb2
  have hw1 : w1.heap.size < w2.heap.size := al
  go_wp2_with fail
  go_ret
  exact ⟨rfl, HB3.out.alloc HB3.out.size _⟩

theorem dcells_take {w : World} {b o : Nat} {ds : List Dt} (h : DCells w b o ds) (m : Nat) : DCells w b o (ds.take m) := fun j hj => by
  have hj2 : j < ds.length ∧ j < m := by rw [List.length_take] at hj; omega
  have he : dnth (ds.take m) j = dnth ds j := by
    unfold dnth
    rw [List.getD_eq_getElem?_getD, List.getD_eq_getElem?_getD, List.getElem?_take_of_lt hj2.2]
  rw [he]
  exact h j hj2.1
theorem dat_take {w : World} {p : Option Addr} {cap : Nat} {ds : List Dt} (h : DatS w (.slice p ds.length cap) ds) (h5 : 5 < ds.length) : DatS w (.slice p 5 cap) (ds.take 5) := by
  obtain ⟨p', cap', he, h1, h2, h3, h4⟩ := h
  cases he
  have hl : (ds.take 5).length = 5 := by rw [List.length_take]; omega
  refine ⟨p, cap, by rw [hl], by omega, h2, ?_, fun d hd => h4 d (List.mem_of_mem_take hd)⟩
  rcases h3 with h3 | ⟨b, o, rfl, hbk, hc⟩
  · rw [h3] at h5; simp at h5
  · exact .inr ⟨b, o, rfl, hbk, dcells_take hc 5⟩
theorem applies_walk (op : Int) (v : Value) (ds : List Dt) (w : World) (hS : DatS w v ds) (hT : Tabs w) :
    Calls Tryd.prog 3 #[.int .i64 op, v] w fun e w' => e = .returned (.bool true) ∧ Below w.heap.size w w' := by
  obtain ⟨p, cap, rfl, h1, h2, -⟩ := id hS
  by_cases h5 : ds.length ≤ 5
  · exact applies_short op p ds.length cap h5 w (both_any_args op _ ds w hS h5 hT)
  · exact applies_long op p ds.length cap (by omega) h1 h2 w (both_any_args op _ (ds.take 5) w (dat_take hS (by omega)) (by rw [List.length_take]; omega) hT)
end Go.Proofs.YtidejjjedpdbeaaDoor

/- The iterator over whole frames. The log's Scan: a loop over the iterator. -/
import Derived.RangeFuncNested
import Derived.RangeFuncBound
import Derived.RangeFuncCalls
import Derived.RangeFuncLeaves
import Derived.RangeFuncBox
import Derived.Shelf.Abstract
import Derived.Shelf.RegionOpen
import Derived.WalkKit
import Derived.OwnWalkIn
import Derived.TacticsInMore
import Derived.LoopNIn
import Derived.LoopIn
import Derived.WalkMore
import Derived.Sort.CutIn
import Derived.Test.YtnpgjlhnlakgpaaGreatDoorG08
namespace Go.Proofs.YtnpgjlhnlakgpaaGreatDoor
open Go.RowKit Go.Shelf Go.Maps

attribute [local go_sem] Oper.semAt_some

/-- The rounds that the iterator makes: where each frame ends, and its record. -/
def scanP : Nat → Nat → List UInt8 → List (Nat × List UInt8)
  | 0, _, _ => []
  | f + 1, k, s => match oneN s with
    | none => []
    | some r => (k + (12 + r.length), r) :: scanP f (k + (12 + r.length)) (s.drop (12 + r.length))
theorem scanP_fuel : ∀ (f g k : Nat) (s : List UInt8), s.length < f → s.length < g → scanP f k s = scanP g k s
  | 0, _, _, _, h, _ => by omega
  | _, 0, _, _, _, h => by omega
  | f + 1, g + 1, k, s, h1, h2 => by
    simp only [scanP]
    cases h : oneN s with
    | none => rfl
    | some r =>
      have := oneN_len h
      simp only
      rw [scanP_fuel f g _ (s.drop (12 + r.length)) (by rw [List.length_drop]; omega) (by rw [List.length_drop]; omega)]
def scanQ (k : Nat) (s : List UInt8) : List (Nat × List UInt8) := scanP (s.length + 1) k s
theorem scanQ_none {k : Nat} {s : List UInt8} (h : oneN s = none) : scanQ k s = [] := by simp [scanQ, scanP, h]
theorem scanQ_some {k : Nat} {s r : List UInt8} (h : oneN s = some r) : scanQ k s = (k + (12 + r.length), r) :: scanQ (k + (12 + r.length)) (s.drop (12 + r.length)) := by
  have := oneN_len h
  have e := scanP_fuel s.length ((s.drop (12 + r.length)).length + 1) (k + (12 + r.length)) (s.drop (12 + r.length)) (by rw [List.length_drop]; omega) (by omega)
  unfold scanQ
  rw [← e, scanP, h]
theorem scanQ_scan : ∀ (f k : Nat) (s : List UInt8), (scanP f k s).map (·.2) = (scanN f s).1 ∧ ((scanP f k s).foldl (fun _ x => x.1) k) = k + (scanN f s).2
  | 0, k, s => by simp [scanP, scanN]
  | f + 1, k, s => by
    simp only [scanP, scanN]
    cases oneN s with
    | none => simp
    | some r =>
      obtain ⟨h1, h2⟩ := scanQ_scan f (k + (12 + r.length)) (s.drop (12 + r.length))
      simp only [List.map_cons, List.foldl_cons]
      exact ⟨by rw [h1], by rw [h2]; omega⟩
theorem below_grown {W W' : World} (h : Below W.heap.size W W') : W.grownBy W' none :=
  ⟨h.os, h.tape, h.output, h.size, fun k hk _ => h.block k hk⟩

/-- What a round keeps: all that lies below n₀, and the box of the iterator's text. -/
def Kf (n₀ Bs : Nat) (A B : World) : Prop := Below n₀ A B ∧ ∀ v, A.cell? ⟨Bs, 0, none⟩ = some v → B.cell? ⟨Bs, 0, none⟩ = some v

set_option maxRecDepth 100000 in
set_option maxHeartbeats 8000000 in
theorem frames_in (l Bs n₀ n : Nat) (hn : 1 ≤ n) (s : ByteArray) (hs : s.size ≤ 8000000000000) (J Jx : List (Nat × List UInt8) → World → Prop)
    (hJ : ∀ p W W', J p W → Below W.heap.size W W' → J p W')
    (hY : ∀ pre x W, J pre W → pre.length < s.size → YieldAt Fence.wide (n - 1) Tryz.prog l #[.int .i64 (x.1 : Int), .string (bs x.2)] W fun e W' =>
      (e = .returned (.bool true) ∧ J (pre ++ [x]) W' ∧ Kf n₀ Bs W W') ∨ (e = .returned (.bool false) ∧ Jx (pre ++ [x]) W'))
    (W : World) (hb : Bs < W.heap.size) (hBs : W.cell? ⟨Bs, 0, none⟩ = some (.string s)) (h0 : J [] W) :
    CallsIn Fence.wide n Tryz.prog 74 #[.func (.yield l) #[] #[], .pointer (some ⟨Bs, 0, none⟩)] W fun e W' => (∃ v, e = .returned v) ∧
      ((∃ ys, ys = scanQ 0 s.data.toList ∧ J ys W') ∨ (∃ pre, True ∧ Jx pre W')) := by
  have hls : s.data.toList.length = s.size := by simp
  obtain ⟨Z, hZ⟩ : ∃ Z, scanQ 0 s.data.toList = Z := ⟨_, rfl⟩
  rw [hZ]
  refine callsIn_of_wp Tryz.func74 rfl trivial ?_ rfl
  simp only [Tryz.ntmps74, List.size_toArray, List.length_cons, List.length_nil, Nat.reduceAdd, Nat.reduceSub, Array.replicate_succ, Array.replicate_zero, List.push_toArray, List.append_toArray, List.nil_append, List.cons_append]
  refine wpIn_wide.2 (wp_scope_straight ((wpIn_wide (n := n)).1 ?_))
  gi_wp2
  apply wpIn_label
  gi_wp2
  gi_loopw [3] (fun iv wr => ∃ (k : Nat) (pre : List (Nat × List UInt8)), k ≤ s.size ∧ pre.length ≤ k ∧ iv = .int .i64 (k : Int) ∧ J pre wr ∧ (W.heap.size ≤ wr.heap.size ∧ wr.cell? ⟨Bs, 0, none⟩ = some (.string s)) ∧ Hid (Z = pre ++ scanQ k (s.data.toList.drop k))) (fun iv _ => s.size - (intOf iv).toNat)
  case atStart => exact ⟨0, [], Nat.zero_le _, Nat.le_refl _, rfl, h0, ⟨Nat.le_refl _, hBs⟩, by show _ = _; rw [← hZ]; simp⟩
  case round =>
    obtain ⟨k, pre, hk, hpk, rfl, hJs, hBW, HQ⟩ := hrel
    clear hZ h0
    have hc := hBW.2
    have hbr : Bs < wr.heap.size := by have := hBW.1; omega
    have HJ := Lib.hid hJs
    have HBW := Lib.hid hBW
    clear hBW
    have hki : (k : Int) ≤ (s.size : Int) := by omega
    obtain ⟨A, hA⟩ : ∃ A, s.extract k s.size = A := ⟨_, rfl⟩
    have hAl : A.data.toList = s.data.toList.drop k := by
      rw [← hA, ByteArray.data_extract]; simp [List.take_of_length_le]
    have hAz : A.size = s.size - k := by
      have := congrArg List.length hAl
      rw [List.length_drop, hls] at this
      have h2 : A.data.toList.length = A.size := by simp
      omega
    obtain ⟨d, hd⟩ : ∃ d, s.data.toList.drop k = d := ⟨_, rfl⟩
    rw [hd] at hAl HQ
    have hdl : d.length = A.size := by rw [← hAl]; simp
    have hdr : ∀ m, s.data.toList.drop (k + m) = d.drop m := fun m => by rw [← hd, List.drop_drop]
    clear hd
    have HO : Hid (oneN d = if A.size < 8 ∨ sumN (d.take 4) ≠ getN (d.drop 4) ∨ 65536 < getN d ∨ A.size < 12 + getN d ∨ sumN ((d.drop 8).take (getN d)) ≠ getN (d.drop (8 + getN d)) then none else some ((d.drop 8).take (getN d))) := by
      show _ = _
      unfold oneN
      rw [hdl]
    have HN : Hid (oneN d = none → ∀ w', Below wr.heap.size wr w' → J Z w') := fun h w' hB => hJ _ _ _ (by rw [HQ.out, scanQ_none h]; simpa using HJ.out) hB
    have HHJ : Hid (∀ w', Below wr.heap.size wr w' → J pre w') := fun w' h => hJ _ _ _ HJ.out h
    have HAz := Lib.hid hAz
    clear hAz
    gi_wp2
    clear hA
    have hgn := GW.ne (Inv := fun W => Below wr.heap.size wr W) (Below.refl _ wr)
    by_cases h8 : A.size < 8
    · have h8i : (A.size : Int) < 8 := by omega
      have hd8 : decide ((A.size : Int) < 8) = true := decide_eq_true h8i
      have HE := Lib.hid (HN.out (by rw [HO.out, if_pos (.inl h8)]))
      refine wpIn_wide.2 ?_
      refine wp_region_grow (fun W => Below wr.heap.size wr W) (by kernel_rfl) (by kernel_rfl) (Below.refl _ _).drew ?_
      repeat (go_big_quiet_step (fail))
      refine wpQuiet_nil ?_
      intro w4 hw'
      obtain ⟨⟨wx, h4⟩, hw''⟩ := hw'
      subst hw''
      gi_wp2
      (try simp only [Exit.noGoto_normal])
      go_end0
      first | exact ⟨⟨_, rfl⟩, .inl ⟨_, rfl, HE.out _ h4⟩⟩ | exact ⟨⟨_, rfl⟩, .inl (HE.out _ h4)⟩
    · have h8i : ¬ (A.size : Int) < 8 := by omega
      have hd8 : decide ((A.size : Int) < 8) = false := decide_eq_false h8i
      have h4s : (4 : Int) ≤ (A.size : Int) := by omega
      obtain ⟨B0, hB0⟩ : ∃ B0, A.extract 0 4 = B0 := ⟨_, rfl⟩
      obtain ⟨B1, hB1⟩ : ∃ B1, A.extract 4 A.size = B1 := ⟨_, rfl⟩
      have hB0l : B0.data.toList = d.take 4 := by rw [← hB0, ByteArray.data_extract, ← hAl]; simp
      have hB1l : B1.data.toList = d.drop 4 := by rw [← hB1, ByteArray.data_extract, ← hAl]; simp [List.take_of_length_le]
      have hB0z : B0.size = 4 := by
        have := congrArg List.length hB0l
        rw [List.length_take, hdl] at this
        have h2 : B0.data.toList.length = B0.size := by simp
        omega
      have hB1z : 4 ≤ B1.size := by
        have := congrArg List.length hB1l
        rw [List.length_drop, hdl] at this
        have h2 : B1.data.toList.length = B1.size := by simp
        omega
      obtain ⟨n1, hn1⟩ : ∃ n1, sumN (d.take 4) = n1 := ⟨_, rfl⟩
      obtain ⟨g1, hg1⟩ : ∃ g1, getN (d.drop 4) = g1 := ⟨_, rfl⟩
      obtain ⟨N, hNe⟩ : ∃ N, getN d = N := ⟨_, rfl⟩
      have lN : N < 4294967296 := by rw [← hNe]; exact getN_lt _
      rw [hn1, hg1, hNe] at HO
      have S0 : Hid (∀ u : GW (fun W => Below wr.heap.size wr W), Calls Tryz.prog 16 #[.string B0] u.w fun e w' => e = .returned (.int .u32 (n1 : Int)) ∧ Below u.w.heap.size u.w w') := fun u => (sum_any B0 u.w (by omega)).mono fun e w' ⟨h1, h2⟩ => ⟨by rw [h1, hB0l, hn1], by rw [h2]; exact Below.refl _ _⟩
      have G1 : Hid (∀ u : GW (fun W => Below wr.heap.size wr W), Calls Tryz.prog 75 #[.string B1] u.w fun e w' => e = .returned (.int .u32 (g1 : Int)) ∧ Below u.w.heap.size u.w w') := fun u => (get_any B1 u.w (by omega)).mono fun e w' ⟨h1, h2⟩ => ⟨by rw [h1, hB1l, hg1], h2⟩
      have G0 : Hid (∀ W, Calls Tryz.prog 75 #[.string A] W fun e w' => e = .returned (.int .u32 (N : Int)) ∧ Below W.heap.size W w') := fun W => (get_any A W (by omega)).mono fun e w' ⟨h1, h2⟩ => ⟨by rw [h1, hAl, hNe], h2⟩
      clear hB0l hB1l hn1 hg1
      by_cases hq : n1 = g1
      · subst hq
        refine wpIn_wide.2 ?_
        refine wp_region_grow (fun W => Below wr.heap.size wr W) (by kernel_rfl) (by kernel_rfl) (Below.refl _ _).drew ?_
        repeat (go_big_quiet_step (first
          | (go_at_call 16; refine (S0.out _).mono ?_; rintro e w1 ⟨rfl, hb⟩; exact ⟨rfl, below_next _ hb⟩)
          | (go_at_call 75; refine (G1.out _).mono ?_; rintro e w1 ⟨rfl, hb⟩; exact ⟨rfl, below_next _ hb⟩)))
        refine wpQuiet_nil ?_
        intro w4 hw'
        obtain ⟨⟨wx, h4⟩, hw''⟩ := hw'
        subst hw''
        have HB := Lib.hid h4
        clear h4 S0 G1 hB0 hB1
        have hwN : IntKind.i64.wrap (N : Int) = (N : Int) := by rw [IntKind.wrap_i64]; omega
        by_cases h65 : 65536 < N
        · have h65i : (65536 : Int) < (N : Int) := by omega
          have HE := Lib.hid (HN.out (by rw [HO.out, if_pos (.inr (.inr (.inl h65)))]))
          have hdn : decide ((65536 : Int) < (N : Int)) = true := decide_eq_true h65i
          gi_wp2_with (first
            | (refine ⟨trivial, ?_⟩; gi_at_call 75; refine (callsIn_wide.2 (G0.out _)).mono ?_; rintro e w5 ⟨rfl, hb⟩; have HB := Lib.hid (HB.out.trans (hb.mono HB.out.size)); clear hb)
            | fail)
          refine ⟨trivial, ?_⟩
          gi_wp2
          (try simp only [Exit.noGoto_normal])
          go_end0
          first | exact ⟨⟨_, rfl⟩, .inl ⟨_, rfl, HE.out _ HB.out⟩⟩ | exact ⟨⟨_, rfl⟩, .inl (HE.out _ HB.out)⟩
        · have h65i : ¬ (65536 : Int) < (N : Int) := by omega
          have hdn : decide ((65536 : Int) < (N : Int)) = false := decide_eq_false h65i
          have hw12 : IntKind.i64.wrap (12 + (N : Int)) = 12 + (N : Int) := by rw [IntKind.wrap_i64]; omega
          by_cases h12 : A.size < 12 + N
          · have h12i : (A.size : Int) < 12 + (N : Int) := by omega
            have hd12 : decide ((A.size : Int) < 12 + (N : Int)) = true := decide_eq_true h12i
            have HE := Lib.hid (HN.out (by rw [HO.out, if_pos (.inr (.inr (.inr (.inl h12))))]))
            gi_wp2_with (first
              | (refine ⟨trivial, ?_⟩; gi_at_call 75; refine (callsIn_wide.2 (G0.out _)).mono ?_; rintro e w5 ⟨rfl, hb⟩; have HB := Lib.hid (HB.out.trans (hb.mono HB.out.size)); clear hb)
              | fail)
            (try simp only [Exit.noGoto_normal])
            go_end0
            first | exact ⟨⟨_, rfl⟩, .inl ⟨_, rfl, HE.out _ HB.out⟩⟩ | exact ⟨⟨_, rfl⟩, .inl (HE.out _ HB.out)⟩
          · have h12i : ¬ (A.size : Int) < 12 + (N : Int) := by omega
            have hd12 : decide ((A.size : Int) < 12 + (N : Int)) = false := decide_eq_false h12i
            have h8w : IntKind.i64.wrap (8 + (N : Int)) = 8 + (N : Int) := by rw [IntKind.wrap_i64]; omega
            have b1 : (8 : Int) ≤ 8 + (N : Int) := by omega
            have b2 : 8 + (N : Int) ≤ (A.size : Int) := by omega
            have n8 : (8 + (N : Int)).toNat = 8 + N := by omega
            obtain ⟨R, hR0⟩ : ∃ R, A.extract 8 (8 + N) = R := ⟨_, rfl⟩
            obtain ⟨B2, hB2⟩ : ∃ B2, A.extract (8 + N) A.size = B2 := ⟨_, rfl⟩
            have hRl : R.data.toList = (d.drop 8).take N := by rw [← hR0, ← hAl]; exact ext_at A 8 N
            have hB2l : B2.data.toList = d.drop (8 + N) := by rw [← hB2, ByteArray.data_extract, ← hAl]; simp [List.take_of_length_le]
            have hRz : R.size = N := by
              have := congrArg List.length hRl
              rw [List.length_take, List.length_drop, hdl] at this
              have h2 : R.data.toList.length = R.size := by simp
              omega
            have hB2z : 4 ≤ B2.size := by
              have := congrArg List.length hB2l
              rw [List.length_drop, hdl] at this
              have h2 : B2.data.toList.length = B2.size := by simp
              omega
            obtain ⟨n2, hn2⟩ : ∃ n2, sumN ((d.drop 8).take N) = n2 := ⟨_, rfl⟩
            obtain ⟨g2, hg2⟩ : ∃ g2, getN (d.drop (8 + N)) = g2 := ⟨_, rfl⟩
            rw [hn2, hg2] at HO
            gi_upto_region 6 with (first
              | (refine ⟨trivial, ?_⟩; gi_at_call 75; refine (callsIn_wide.2 (G0.out _)).mono ?_; rintro e w5 ⟨rfl, hb⟩; have HB := Lib.hid (HB.out.trans (hb.mono HB.out.size)); clear hb)
              | fail)
            have S2 : Hid (∀ u : GW (fun W => Below w5.heap.size w5 W), Calls Tryz.prog 16 #[.string R] u.w fun e w' => e = .returned (.int .u32 (n2 : Int)) ∧ Below u.w.heap.size u.w w') := fun u => (sum_any R u.w (by omega)).mono fun e w' ⟨h1, h2⟩ => ⟨by rw [h1, hRl, hn2], by rw [h2]; exact Below.refl _ _⟩
            have G2 : Hid (∀ u : GW (fun W => Below w5.heap.size w5 W), Calls Tryz.prog 75 #[.string B2] u.w fun e w' => e = .returned (.int .u32 (g2 : Int)) ∧ Below u.w.heap.size u.w w') := fun u => (get_any B2 u.w (by omega)).mono fun e w' ⟨h1, h2⟩ => ⟨by rw [h1, hB2l, hg2], h2⟩
            have HRl := Lib.hid hRl
            clear hB2l hn2 hg2 hRl hgn
            have hgn := GW.ne (Inv := fun W => Below w5.heap.size w5 W) (Below.refl _ w5)
            by_cases hq2 : n2 = g2
            · subst hq2
              have hone : oneN d = some ((d.drop 8).take N) := by
                rw [HO.out, if_neg]
                rintro (h | h | h | h | h)
                · exact h8 h
                · exact h rfl
                · exact h65 h
                · exact h12 h
                · exact h rfl
              have HX := Lib.hid (scanQ_some (k := k) hone)
              have hRN : ((d.drop 8).take N).length = N := by rw [← HRl.out]; have h2 : R.data.toList.length = R.size := by simp
                                                              omega
              rw [hRN, ← HRl.out] at HX
              clear hone hRN
              refine wpIn_wide.2 ?_
              refine wp_region_grow (fun W => Below w5.heap.size w5 W) (by kernel_rfl) (by kernel_rfl) (Below.refl _ _).drew ?_
              repeat (go_big_quiet_step (first
                | (go_at_call 16; refine (S2.out _).mono ?_; rintro e w1 ⟨rfl, hb⟩; exact ⟨rfl, below_next _ hb⟩)
                | (go_at_call 75; refine (G2.out _).mono ?_; rintro e w1 ⟨rfl, hb⟩; exact ⟨rfl, below_next _ hb⟩)))
              refine wpQuiet_nil ?_
              intro w6 hw'
              obtain ⟨⟨wx, h6⟩, hw''⟩ := hw'
              subst hw''
              have HB6 := Lib.hid (HB.out.trans (h6.mono HB.out.size))
              clear h6 S2 G2
              have hww : IntKind.i64.wrap ((k : Int) + (12 + (N : Int))) = (k : Int) + (12 + (N : Int)) := by rw [IntKind.wrap_i64]; have := HAz.out; omega
              have hkc : ((k + (12 + N) : Nat) : Int) = (k : Int) + (12 + (N : Int)) := by omega
              obtain ⟨fn, tmps, assign, body, hy, hRd⟩ := hY pre (k + (12 + N), R.data.toList) w6 (HHJ.out _ HB6.out) (by have := HAz.out; omega)
              dsimp only at hy
              rw [hkc, bs_data] at hy
              gi_wp2
              refine hRd.mono ?_
              rintro e W3 (⟨rfl, hJ3, hk3⟩ | ⟨rfl, hJx3⟩)
              · gi_wp2
                go_roundw
                case rel =>
                  refine ⟨k + (12 + N), pre ++ [(k + (12 + N), R.data.toList)], by have := HAz.out; omega, by simp; omega, by go_num, hJ3, ⟨by have h1 := HBW.out.1; have h2 := HB6.out.size; have h3 := hk3.1.size; omega, hk3.2 _ ((HB6.out.cell (p := ⟨Bs, 0, none⟩) hbr).trans HBW.out.2)⟩, ?_⟩
                  show _ = _
                  rw [HQ.out, HX.out, hdr]
                  simp
                case measure => have := HAz.out; simp [intOf]; omega
              · gi_wp2
                (try simp only [Exit.noGoto_ret])
                refine bodyPost_ret (results_none rfl _ _ _) rfl ?_
                exact ⟨⟨_, rfl⟩, .inr ⟨_, trivial, hJx3⟩⟩
            · have hne3 : ¬ (n2 : Int) = (g2 : Int) := by omega
              have hne4 : ((n2 : Int) != (g2 : Int)) = true := by simp; omega
              have HE := Lib.hid (HN.out (by rw [HO.out, if_pos (.inr (.inr (.inr (.inr hq2))))]))
              refine wpIn_wide.2 ?_
              refine wp_region_grow (fun W => Below w5.heap.size w5 W) (by kernel_rfl) (by kernel_rfl) (Below.refl _ _).drew ?_
              repeat (go_big_quiet_step (first
                | (go_at_call 16; refine (S2.out _).mono ?_; rintro e w1 ⟨rfl, hb⟩; exact ⟨rfl, below_next _ hb⟩)
                | (go_at_call 75; refine (G2.out _).mono ?_; rintro e w1 ⟨rfl, hb⟩; exact ⟨rfl, below_next _ hb⟩)))
              refine wpQuiet_nil ?_
              intro w6 hw'
              obtain ⟨⟨wx, h6⟩, hw''⟩ := hw'
              subst hw''
              have HB6 := Lib.hid (HB.out.trans (h6.mono HB.out.size))
              gi_wp2
              (try simp only [Exit.noGoto_normal])
              go_end0
              first | exact ⟨⟨_, rfl⟩, .inl ⟨_, rfl, HE.out _ HB6.out⟩⟩ | exact ⟨⟨_, rfl⟩, .inl (HE.out _ HB6.out)⟩
      · have hne1 : ¬ (n1 : Int) = (g1 : Int) := by omega
        have hne2 : ((n1 : Int) != (g1 : Int)) = true := by simp; omega
        have HE := Lib.hid (HN.out (by rw [HO.out, if_pos (.inr (.inl hq))]))
        refine wpIn_wide.2 ?_
        refine wp_region_grow (fun W => Below wr.heap.size wr W) (by kernel_rfl) (by kernel_rfl) (Below.refl _ _).drew ?_
        repeat (go_big_quiet_step (first
          | (go_at_call 16; refine (S0.out _).mono ?_; rintro e w1 ⟨rfl, hb⟩; exact ⟨rfl, below_next _ hb⟩)
          | (go_at_call 75; refine (G1.out _).mono ?_; rintro e w1 ⟨rfl, hb⟩; exact ⟨rfl, below_next _ hb⟩)))
        refine wpQuiet_nil ?_
        intro w4 hw'
        obtain ⟨⟨wx, h4⟩, hw''⟩ := hw'
        subst hw''
        have HB := Lib.hid h4
        clear h4 S0 G1 hB0 hB1
        gi_wp2
        (try simp only [Exit.noGoto_normal])
        go_end0
        first | exact ⟨⟨_, rfl⟩, .inl ⟨_, rfl, HE.out _ HB.out⟩⟩ | exact ⟨⟨_, rfl⟩, .inl (HE.out _ HB.out)⟩
end Go.Proofs.YtnpgjlhnlakgpaaGreatDoor
namespace Go.Proofs.YtnpgjlhnlakgpaaGreatDoor
open Go.RowKit Go.Shelf Go.Maps

attribute [local go_sem] Oper.semAt_some

theorem frames_any (s : ByteArray) (w : World) : Calls Tryz.prog 44 #[.string s] w fun e w' => e = .returned (.func (.func 74) #[] #[.pointer (some ⟨w.heap.size, 0, none⟩)]) ∧ w' = w.alloc (.cells #[.string s] 9) := by
  go_enter Tryz.func44, Tryz.ntmps44
  go_wp2_with fail
  go_ret
  exact ⟨rfl, rfl⟩
theorem frames_stops (Bs n₀ n : Nat) (hn : 1 ≤ n) (s : ByteArray) (hs : s.size ≤ 8000000000000) (w : World) (hb : Bs < w.heap.size) (hBs : w.cell? ⟨Bs, 0, none⟩ = some (.string s)) :
    SeqStopsK Fence.wide n Tryz.prog 74 #[.pointer (some ⟨Bs, 0, none⟩)] (fun x : Nat × List UInt8 => #[Value.int .i64 (x.1 : Int), Value.string (bs x.2)]) (Kf n₀ Bs) (fun ys => ys = scanQ 0 s.data.toList) (fun _ => True) s.size w := fun l J Jx W hW hJ _ hY h0 =>
  frames_in l Bs n₀ n hn s hs J Jx (fun p A B h hB => hJ p A B none h (below_grown hB) (fun r e => by cases e)) hY W (Nat.lt_of_lt_of_le hb hW.size) ((hW.cell (p := ⟨Bs, 0, none⟩) (by show Bs < _; omega)).trans hBs) h0
theorem kf_t {n₀ Bs : Nat} {A B C : World} (h : Kf n₀ Bs A B) (k : Kf n₀ Bs B C) : Kf n₀ Bs A C := ⟨h.1.trans k.1, fun v e => k.2 v (h.2 v e)⟩
theorem kf_b {n₀ Bs : Nat} {w : World} (hn : n₀ ≤ w.heap.size) (hb : Bs < w.heap.size) (W : World) (l : Nat) (o o' : Obj) (hl : w.heap.size ≤ l) (h : W.heap[l]? = some o) (h1 : o.isCells = false) (h2 : o.isWalk = false) : Kf n₀ Bs W (W.putObj l o') :=
  ⟨belowK_b hn W l o o' hl h h1 h2, fun v e => by rw [← e]; exact (belowK_b (Nat.le_refl _) W l o o' hl h h1 h2).cell (p := ⟨Bs, 0, none⟩) hb⟩
theorem row_mono {W : World} {b b' : Nat} {e : TypeId} {size : Nat} {v : Value} {k : Nat} {xs : List Value} (h : W.ownsRow b e size v k xs) (hle : b' ≤ b) : W.ownsRow b' e size v k xs :=
  ⟨h.1, h.2.imp id (fun ⟨g, cap, cur, e1, hb, r⟩ => ⟨g, cap, cur, e1, Nat.le_trans hle hb, r⟩)⟩
/-- Where the last frame of these ends. -/
def lastE (l : List (Nat × List UInt8)) : Nat := l.foldl (fun _ x => x.1) 0
theorem lastE_snoc (l : List (Nat × List UInt8)) (x : Nat × List UInt8) : lastE (l ++ [x]) = x.1 := by simp [lastE]
theorem scanQ_F (s : List UInt8) : (scanQ 0 s).map (·.2) = (scanF s).1 ∧ lastE (scanQ 0 s) = (scanF s).2 := by
  have := scanQ_scan (s.length + 1) 0 s
  rw [Nat.zero_add] at this
  exact this
theorem boxc {W W' : World} {B : Nat} {t : TypeId} {v : Value} (h : Boxed W B t v) (hB : Below W.heap.size W W') : W'.cell? ⟨B, 0, none⟩ = some v := (hB.cell (p := ⟨B, 0, none⟩) h.lt).trans h.cell

set_option maxRecDepth 100000 in
set_option maxHeartbeats 4000000 in
theorem scan_any (s : ByteArray) (w : World) (hs : s.size ≤ 8000000000000) : Calls Tryz.prog 15 #[.string s] w fun e w' => ∃ v, e = .returned (.tuple #[v, .int .i64 ((scanF s.data.toList).2 : Int)]) ∧ SL w w' v (scanF s.data.toList).1 := by
  obtain ⟨hZ1, hZ2⟩ := scanQ_F s.data.toList
  rw [← hZ1, ← hZ2]
  clear hZ1 hZ2
  obtain ⟨i0, hi0, hz0, hz1, hz2⟩ := info_parts strcell
  refine (callsIn_wide (n := 5)).1 ?_
  refine callsIn_of_wp_marks Tryz.func15 rfl trivial ?_ rfl
  simp only [Tryz.ntmps15, List.size_toArray, List.length_cons, List.length_nil, Nat.reduceAdd, Nat.reduceSub, Array.replicate_succ, Array.replicate_zero, List.push_toArray, List.append_toArray, List.nil_append, List.cons_append]
  gi_wp2_with (first
    | (refine ⟨trivial, ?_⟩; gi_at_call 44; refine (callsIn_wide.2 (frames_any s _)).mono ?_; rintro e w' ⟨rfl, rfl⟩)
    | fail)
  have bO := Boxed.new w 55 (.slice none 0 0)
  have bE := Boxed.new (w.alloc (.cells #[.slice none 0 0] 55)) 3 (.int .i64 0)
  have bN := Boxed.new ((w.alloc (.cells #[.slice none 0 0] 55)).alloc (.cells #[.int .i64 0] 3)) 9 (.string s)
  simp only [World.size_alloc] at bE bN
  have hB0 : Below w.heap.size w (((w.alloc (.cells #[.slice none 0 0] 55)).alloc (.cells #[.int .i64 0] 3)).alloc (.cells #[.string s] 9)) := (((Below.refl _ w).alloc (Nat.le_refl _) _).alloc (by simp) _).alloc (by simp; omega) _
  refine wpIn_rangeFunc_ownG rfl (by decide) (gf := 74) (lb := #[.pointer (some ⟨w.heap.size + 1 + 1, 0, none⟩)]) rfl trivial (enters_of Tryz.func74 (by kernel_rfl) rfl)
    (frames_stops (w.heap.size + 1 + 1) w.heap.size (5 - 1) (by decide) s hs _ (by simp) bN.cell) kf_t (kf_b (by simp; omega) (by simp)) (Below.refl _ _) (fun _ => rfl)
    (fun pre W => (∃ v, Boxed W w.heap.size 55 v ∧ W.ownsRow (w.heap.size + 3) 9 1 v pre.length (recVals (pre.map (·.2))) ∧ True) ∧ (Boxed W (w.heap.size + 1) 3 (.int .i64 (lastE pre : Int)) ∧ (Boxed W (w.heap.size + 1 + 1) 9 (.string s) ∧ Below w.heap.size w W)))
    (fun _ _ _ => False)
    (OwnFrom.and (Own.from (holdsRow_own (w.heap.size + 3) w.heap.size 55 9 1 (fun pre : List (Nat × List UInt8) => pre.length) (fun pre => recVals (pre.map (·.2))) (fun _ _ => True)) _) (OwnFrom.and (Own.from (boxed_own (w.heap.size + 1) 3 (fun pre => .int .i64 (lastE pre : Int))) _) (OwnFrom.and (Own.from (boxed_own (w.heap.size + 1 + 1) 9 (fun _ => .string s)) _) (ownFrom_below (Nat.le_refl _) (by simp; omega)))))
    (fun _ _ _ _ _ hs _ _ => hs)
    ⟨⟨_, (bO.alloc _).alloc _, World.ownsRow_nil _ _ _ _, trivial⟩, bE.alloc _, bN, hB0⟩
    (fun x => { tmps := #[.string s, undef, .slice none 0 0, .int .i64 0, .pointer (some ⟨w.heap.size, 0, none⟩), .pointer (some ⟨w.heap.size + 1, 0, none⟩), .int .i64 (x.1 : Int), .string (bs x.2), .string s, .func (.func 74) #[] #[.pointer (some ⟨w.heap.size + 1 + 1, 0, none⟩)], .int .i64 (x.1 : Int), .string (bs x.2), undef, undef, undef, undef, undef, undef, undef], defers := [] }) ?assign ?body ?done ?stop
  case assign =>
    intro l x W K hK
    gi_wp2
    exact hK
  case body =>
    rintro l pre x W ⟨⟨v, hv, hrow, -⟩, hE, hS, hB⟩ hlt
    have hSl := hS.lt
    have hc := hv.cell
    gi_wp2_with (gi_at_builtin; refine wpListIn_append_own _ rfl _ _ 55 rfl (w.heap.size + 3) 9 i0 (.string ⟨#[]⟩) 1 16 Tryz.underlying55 hi0 hz0 hz1 hz2 rfl (by decide) _ _ _ rfl (hrow.alloc _) ⟨W.heap.size, 0, none⟩ 1 1 [.string (bs x.2)] rfl rfl (cell_one_new _ _ _) (by simp [Value.oneCell']) (by unfold maxLen; omega) (by omega) (by simp; omega) ?_; intro v' w1 hown' hgrow _; obtain ⟨g', cap', rfl⟩ := ownsRow_succ hown'; obtain ⟨hv1, hv2, -, hk2, hb2⟩ := hv.appended (by decide) (row_mono hrow (Nat.le_add_right _ 3)) hB.size (Nat.le_refl _) (row_mono hown' (Nat.le_add_right _ 3)) hgrow; have hc1 := hv1.cell; have hf1 := hv1.frozen; have hE1 := (hE.alloc (.cells #[.string (bs x.2)] 9)).kept hgrow (hE.not_row (by decide) hrow); have he1 := hE1.cell; have he2 := hE1.frozen; have hS1 := (hS.alloc (.cells #[.string (bs x.2)] 9)).kept hgrow (fun e => by have := (hrow.lt _ e.symm).1; omega))
    refine ⟨(hk2.trans (KeepsOthers.setCell _ _ _)).from _, ⟨hb2.setCell (p := ⟨w.heap.size + 1, 0, none⟩) (by simp) _, ?_⟩, ⟨_, hv2.other (by omega) _, ?_, trivial⟩, by rw [lastE_snoc]; exact (hE1.other (by omega) _).set _, (hS1.other (by omega) _).other (by omega) _, (hB.trans hb2).setCell (p := ⟨w.heap.size + 1, 0, none⟩) (by simp) _⟩
    · intro u hu
      rw [hS.cell] at hu
      rw [← hu]
      exact ((hS1.other (by omega) _).other (by omega) _).cell
    · have h1 := hown'.kept (grownBy_setCell' w1 w.heap.size (.slice (some ⟨g', 0, none⟩) (pre.length + 1) cap')) (.inr (hv1.not_row (by decide) hown').symm)
      have h2 := h1.kept (grownBy_setCell' _ (w.heap.size + 1) (.int .i64 (x.1 : Int))) (.inr (fun e => by have := (h1.lt _ e).1; omega))
      simpa [recVals] using h2
  case done =>
    rintro D ys W hD rfl ⟨⟨v, hv, hrow, -⟩, hE, hS, hB⟩ hK
    have hgn := GW.ne (Inv := fun A => Below W.heap.size W A) (Below.refl _ W)
    have g1 : ∀ u : GW (fun A => Below W.heap.size W A), u.w.cell? ⟨w.heap.size, 0, none⟩ = some v := fun u => boxc hv u.h
    have g2 : ∀ u : GW (fun A => Below W.heap.size W A), u.w.cell? ⟨w.heap.size + 1, 0, none⟩ = some (.int .i64 (lastE (scanQ 0 s.data.toList) : Int)) := fun u => boxc hE u.h
    have HL := Lib.hid (show (List.map (fun x => x.2) (scanQ 0 s.data.toList)).length = (scanQ 0 s.data.toList).length from List.length_map ..)
    obtain ⟨E, hEe⟩ : ∃ E, lastE (scanQ 0 s.data.toList) = E := ⟨_, rfl⟩
    rw [hEe] at g2
    have HEe := Lib.hid hEe
    clear hEe
    gi_upto_region 8 with fail
    refine wpIn_wide.2 ?_
    refine wp_region_grow (fun A => Below W.heap.size W A) (by kernel_rfl) (by kernel_rfl) (Below.refl _ _).drew ?_
    repeat (go_big_quiet_step (fail))
    refine wpQuiet_nil ?_
    intro w4 hw'
    obtain ⟨⟨wx, h4⟩, hw''⟩ := hw'
    subst hw''
    have hK4 : w4.heap[D]? = some (.deferred (some [])) := (h4.block D (Array.getElem?_eq_some_iff.1 hK).1).trans hK
    gi_wp2
    refine ⟨by simp, .inl ⟨_, _, rfl, run_takeDeferred hK4, ?_⟩⟩
    have hr4 := hrow.kept (below_grown h4) (by
      cases hv : v.ownBlock with
      | none => exact .inl rfl
      | some k => exact .inr (by simp : some k ≠ none))
    refine ⟨.tuple #[v, .int .i64 (E : Int)], by simp [results, Tryz.results15, go_sem], v, by rw [HEe.out], ?_, ?_⟩
    · exact (hB.trans (h4.mono hB.size)).trans (belowK_b (w := w) (Nat.le_refl _) w4 D _ _ (by simp at hD; omega) hK4 rfl rfl)
    · have h5 := ownsRow_putObj hr4 (.deferred none) hK4 rfl
      rw [HL.out]
      exact row_mono h5 (Nat.le_add_right _ 3)
  case stop =>
    rintro D c pre W _ _ h _
    exact h.elim
end Go.Proofs.YtnpgjlhnlakgpaaGreatDoor

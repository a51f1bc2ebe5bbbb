/- The document's one and Scan. -/
import Derived.Test.YtnpgjlhnlakgpaaDoorWalT
import Derived.Deep.RegionHeld3
import Derived.BigQuiet
import Derived.Test.YtnpgjlhnlakgpaaDoorKeep
import Derived.Laws.OwnMore
namespace Go.Proofs.YtnpgjlhnlakgpaaDoor
open Go.RowKit

theorem cmp_four {l : List UInt8} (hl : 4 ≤ l.length) {n : Nat} (hn : n < 4294967296) : (fourN n = l.take 4) ↔ n = getN l := by
  obtain ⟨a, b, c, d, r, rfl⟩ : ∃ a b c d r, l = a :: b :: c :: d :: r := by
    match l, hl with
    | a :: b :: c :: d :: r, _ => exact ⟨a, b, c, d, r, rfl⟩
  have h := four_get (a := a) (b := b) (c := c) (d := d) r
  show fourN n = [a, b, c, d] ↔ _
  rw [← h]
  constructor
  · exact four_inj hn (getN_lt _)
  · rintro rfl; rfl
/-- The number of the first k bytes. -/
def getK (l : List UInt8) : Nat → Nat
  | 0 => 0
  | k + 1 => 256 * getK l k + (l.getD k 0).toNat
theorem getK_four (l : List UInt8) : getK l 4 = getN l := by simp only [getK, getN]; omega
theorem getK_lt (l : List UInt8) : ∀ k, k ≤ 4 → getK l k < 4294967296 ∧ (k ≤ 3 → getK l k < 16777216)
  | 0, _ => by simp [getK]
  | 1, _ => by have := (l.getD 0 0).toNat_lt; simp only [getK]; omega
  | 2, _ => by have := (l.getD 0 0).toNat_lt; have := (l.getD 1 0).toNat_lt; simp only [getK]; omega
  | 3, _ => by have := (l.getD 0 0).toNat_lt; have := (l.getD 1 0).toNat_lt; have := (l.getD 2 0).toNat_lt; simp only [getK]; omega
  | 4, _ => by have := (l.getD 0 0).toNat_lt; have := (l.getD 1 0).toNat_lt; have := (l.getD 2 0).toNat_lt; have := (l.getD 3 0).toNat_lt; simp only [getK]; omega
theorem getD_at {s : ByteArray} {k : Nat} (h : k < s.size) : s.data.toList.getD k 0 = s[k] := by
  rw [List.getD_eq_getElem?_getD, List.getElem?_eq_getElem (by simpa using h)]
  show s.data.toList[k] = s.data[k]
  simp
theorem ext_at (s : ByteArray) (i n : Nat) : (s.extract i (i + n)).data.toList = (s.data.toList.drop i).take n := by
  rw [ByteArray.data_extract]; simp
/-- What one tells. -/
def oneE (o : Option (List UInt8)) : Ending := match o with
  | none => .returned (.tuple #[.string ⟨#[]⟩, .int .i64 0, .bool false])
  | some r => .returned (.tuple #[.string (bs r), .int .i64 ((12 + r.length : Nat) : Int), .bool true])

set_option maxRecDepth 100000 in
set_option maxHeartbeats 8000000 in
theorem rone_any (s : ByteArray) (w : World) (hs : s.size ≤ 140737488351232) : Calls Tryd.prog 62 #[.string s] w fun e w' => e = oneE (oneN s.data.toList) ∧ Below w.heap.size w w' := by
  have hls : s.data.toList.length = s.size := by simp
  obtain ⟨N, hN⟩ : ∃ N, getN s.data.toList = N := ⟨_, rfl⟩
  have hNl : N < 4294967296 := by rw [← hN]; exact getN_lt _
  have HO : Hid (oneN s.data.toList = if s.size < 8 ∨ sumN (s.data.toList.take 4) ≠ getN (s.data.toList.drop 4) ∨ 65536 < N ∨ s.size < 12 + N ∨ sumN ((s.data.toList.drop 8).take N) ≠ getN (s.data.toList.drop (8 + N)) then none else some ((s.data.toList.drop 8).take N)) := by
    show _ = _
    unfold oneN
    rw [hls, hN]
  by_cases h8 : s.size < 8
  · have h8i : (s.size : Int) < 8 := by omega
    have HE : Hid (oneN s.data.toList = none) := by show _ = _; rw [HO.out, if_pos (.inl h8)]
    go_enter Tryd.func62, Tryd.ntmps62
    go_wp2_with fail
    go_quiet (fail)
    go_wp2_with fail
    refine bodyPost_ret (v := .tuple #[.string ⟨#[]⟩, .int .i64 0, .bool false]) (by simp [results, Tryd.results62, go_sem]) rfl ⟨by rw [HE.out]; rfl, drN' (Below.refl _ _) _⟩
  · have h8i : ¬ (s.size : Int) < 8 := by omega
    have h4s : (4 : Int) ≤ (s.size : Int) := by omega
    have h8s : (8 : Int) ≤ (s.size : Int) := by omega
    obtain ⟨A, hA⟩ : ∃ A, s.extract 0 4 = A := ⟨_, rfl⟩
    obtain ⟨B, hB⟩ : ∃ B, s.extract 4 8 = B := ⟨_, rfl⟩
    have hAl : A.data.toList = s.data.toList.take 4 := by rw [← hA, ByteArray.data_extract]; simp
    have hBl : B.data.toList = (s.data.toList.drop 4).take 4 := by rw [← hB]; exact ext_at s 4 4
    obtain ⟨n1, hn1⟩ : ∃ n1, sumN (s.data.toList.take 4) = n1 := ⟨_, rfl⟩
    have l1 : n1 < 4294967296 := by rw [← hn1]; exact sumN_lt _
    obtain ⟨C, hC⟩ : ∃ C, bs (fourN n1) = C := ⟨_, rfl⟩
    have hAz : A.size = 4 := by
      have := congrArg List.length hAl
      rw [List.length_take, hls] at this
      have h2 : A.data.toList.length = A.size := by simp
      omega
    have S1 : Hid (∀ u : GW (fun W => Below w.heap.size w W), Calls Tryd.prog 32 #[.string A] u.w fun e w' => e = .returned (.int .u32 (n1 : Int)) ∧ Below u.w.heap.size u.w w') := fun u => (rsum_any A u.w (by omega)).mono fun e w' ⟨h1, h2⟩ => ⟨by rw [h1, hAl, hn1], by rw [h2]; exact Below.refl _ _⟩
    have P1 : Hid (∀ u : GW (fun W => Below w.heap.size w W), Calls Tryd.prog 60 #[.int .u32 (n1 : Int)] u.w fun e w' => e = .returned (.string C) ∧ Below u.w.heap.size u.w w') := fun u => by rw [← hC]; exact four_any n1 l1 u.w
    have hgn := GW.ne (Inv := fun W => Below w.heap.size w W) (Below.refl _ w)
    have hd8 : decide ((s.size : Int) < 8) = false := by simp; omega
    have hd8n : decide (s.size < 8) = false := by simp; omega
    have hcmp : (C.toList == B.toList) = decide (n1 = getN (s.data.toList.drop 4)) := by
      rw [ByteArray.toList_eq, ByteArray.toList_eq, hBl, ← hC, Bool.eq_iff_iff, beq_iff_eq, decide_eq_true_eq]
      exact cmp_four (by rw [List.length_drop, hls]; omega) l1
    rw [hn1] at HO
    clear hC hAl hBl hn1
    cases hq : decide (n1 = getN (s.data.toList.drop 4)) with
    | false =>
      have HE : Hid (oneN s.data.toList = none) := by show _ = _; rw [HO.out, if_pos (.inr (.inl (by simpa using hq)))]
      rw [hq] at hcmp
      clear hq
      go_enter Tryd.func62, Tryd.ntmps62
      go_wp2_with fail
      refine wp_region_grow (fun W => Below w.heap.size w W) (by kernel_rfl) (by kernel_rfl) (Below.refl _ _).drew ?_
      repeat (go_big_quiet_step (first
        | (go_at_call 32; refine (S1.out _).mono ?_; rintro e w1 ⟨rfl, hb⟩; exact ⟨rfl, below_next _ hb⟩)
        | (go_at_call 60; refine (P1.out _).mono ?_; rintro e w1 ⟨rfl, hb⟩; exact ⟨rfl, below_next _ hb⟩)))
      refine wpQuiet_nil ?_
      intro w4 hw'
      obtain ⟨⟨wx, h4⟩, hw''⟩ := hw'
      subst hw''
      go_wp2_with fail
      refine bodyPost_ret (v := .tuple #[.string ⟨#[]⟩, .int .i64 0, .bool false]) (by simp [results, Tryd.results62, go_sem]) rfl ⟨by rw [HE.out]; rfl, h4⟩
    | true =>
      have hcut : Hid (¬ (s.size < 8 ∨ n1 ≠ getN (s.data.toList.drop 4))) := by
        show ¬ _
        have := of_decide_eq_true hq
        omega
      rw [hq] at hcmp
      clear hq
      go_enter Tryd.func62, Tryd.ntmps62
      go_wp2_with fail
      refine wp_region_grow (fun W => Below w.heap.size w W) (by kernel_rfl) (by kernel_rfl) (Below.refl _ _).drew ?_
      repeat (go_big_quiet_step (first
        | (go_at_call 32; refine (S1.out _).mono ?_; rintro e w1 ⟨rfl, hb⟩; exact ⟨rfl, below_next _ hb⟩)
        | (go_at_call 60; refine (P1.out _).mono ?_; rintro e w1 ⟨rfl, hb⟩; exact ⟨rfl, below_next _ hb⟩)))
      refine wpQuiet_nil ?_
      intro w4 hw'
      obtain ⟨⟨wx, h4⟩, hw''⟩ := hw'
      subst hw''
      have H4 := Lib.hid h4
      clear h4 hgn S1 P1 hcmp hA hB
      go_wp2_with fail
      go_loopw [6, 5] (fun iv nv wr => ∃ k : Nat, k ≤ 4 ∧ iv = .int .i64 (k : Int) ∧ nv = .int .i64 (getK s.data.toList k : Int) ∧ wr = w4) (fun iv _ _ => 4 - (intOf iv).toNat)
      case atStart => exact ⟨0, by omega, rfl, rfl, rfl⟩
      case round =>
        obtain ⟨k, hk, rfl, rfl, rfl⟩ := hrel
        by_cases hlt : k < 4
        · have hlti : (k : Int) < 4 := by omega
          have hki : (k : Int) < (s.size : Int) := by omega
          have hkl : k < s.size := by omega
          have hg : Hid (getK s.data.toList (k + 1) = 256 * getK s.data.toList k + s[k].toNat) := by show _ = _; simp only [getK]; rw [getD_at hkl]
          have hgl := (getK_lt s.data.toList k (by omega)).1
          obtain ⟨g, hge⟩ : ∃ g, getK s.data.toList k = g := ⟨_, rfl⟩
          obtain ⟨c, hc⟩ : ∃ c, s[k] = c := ⟨_, rfl⟩
          have hcl := c.toNat_lt
          rw [hge, hc] at hg
          rw [hge] at hgl ⊢
          clear hge
          have hm : IntKind.i64.wrap (256 * (g : Int)) = 256 * (g : Int) := by rw [IntKind.wrap_i64]; omega
          have hw2 : IntKind.i64.wrap (256 * (g : Int) + (c.toNat : Int)) = 256 * (g : Int) + (c.toNat : Int) := by rw [IntKind.wrap_i64]; omega
          go_wp2_with fail
          go_roundw
          case rel => exact ⟨k + 1, by omega, by go_num, by rw [hg.out]; push_cast; rfl, trivial⟩
          case measure => simp [intOf]; omega
        · obtain rfl : k = 4 := by omega
          have hlti : ¬ ((4 : Nat) : Int) < 4 := by omega
          rw [getK_four, hN]
          by_cases h65 : 65536 < N
          · have h65i : (65536 : Int) < (N : Int) := by omega
            have HE : Hid (oneN s.data.toList = none) := by show _ = _; rw [HO.out, if_pos (.inr (.inr (.inl h65)))]
            have hdn : decide ((65536 : Int) < (N : Int)) = true := decide_eq_true h65i
            have hdn2 : decide (65536 < N) = true := decide_eq_true h65
            go_wp2_with fail
            go_quiet (fail)
            go_wp2_with fail
            refine bodyPost_ret (v := .tuple #[.string ⟨#[]⟩, .int .i64 0, .bool false]) (by simp [results, Tryd.results62, go_sem]) rfl ⟨by rw [HE.out]; rfl, drN' H4.out _⟩
          · have h65i : ¬ (65536 : Int) < (N : Int) := by omega
            have hdn : decide ((65536 : Int) < (N : Int)) = false := by simp; omega
            have hdn2 : decide (65536 < N) = false := by simp; omega
            by_cases h12 : s.size < 12 + N
            · have h12i : (s.size : Int) - 12 < (N : Int) := by omega
              have hsw : IntKind.i64.wrap ((s.size : Int) - 12) = (s.size : Int) - 12 := by rw [IntKind.wrap_i64]; omega
              have hd12 : decide ((s.size : Int) - 12 < (N : Int)) = true := decide_eq_true h12i
              have HE : Hid (oneN s.data.toList = none) := by show _ = _; rw [HO.out, if_pos (.inr (.inr (.inr (.inl h12))))]
              go_wp2_with fail
              go_quiet (fail)
              go_wp2_with fail
              refine bodyPost_ret (v := .tuple #[.string ⟨#[]⟩, .int .i64 0, .bool false]) (by simp [results, Tryd.results62, go_sem]) rfl ⟨by rw [HE.out]; rfl, drN' H4.out _⟩
            · have h12i : ¬ (s.size : Int) - 12 < (N : Int) := by omega
              have hsw : IntKind.i64.wrap ((s.size : Int) - 12) = (s.size : Int) - 12 := by rw [IntKind.wrap_i64]; omega
              have hd12 : decide ((s.size : Int) - 12 < (N : Int)) = false := decide_eq_false h12i
              have h8w : IntKind.i64.wrap (8 + (N : Int)) = 8 + (N : Int) := by rw [IntKind.wrap_i64]; omega
              have h12w : IntKind.i64.wrap (12 + (N : Int)) = 12 + (N : Int) := by rw [IntKind.wrap_i64]; omega
              have b1 : (8 : Int) ≤ 8 + (N : Int) := by omega
              have b2 : 8 + (N : Int) ≤ (s.size : Int) := by omega
              have b3 : 8 + (N : Int) ≤ 12 + (N : Int) := by omega
              have b4 : 12 + (N : Int) ≤ (s.size : Int) := by omega
              have n8 : (8 + (N : Int)).toNat = 8 + N := by omega
              have n12 : (12 + (N : Int)).toNat = 12 + N := by omega
              obtain ⟨A2, hA2⟩ : ∃ A2, s.extract 8 (8 + N) = A2 := ⟨_, rfl⟩
              obtain ⟨B2, hB2⟩ : ∃ B2, s.extract (8 + N) (12 + N) = B2 := ⟨_, rfl⟩
              have hA2l : A2.data.toList = (s.data.toList.drop 8).take N := by rw [← hA2]; exact ext_at s 8 N
              have hB2l : B2.data.toList = (s.data.toList.drop (8 + N)).take 4 := by rw [← hB2, show 12 + N = (8 + N) + 4 by omega]; exact ext_at s (8 + N) 4
              obtain ⟨n2, hn2⟩ : ∃ n2, sumN ((s.data.toList.drop 8).take N) = n2 := ⟨_, rfl⟩
              have l2 : n2 < 4294967296 := by rw [← hn2]; exact sumN_lt _
              obtain ⟨C2, hC2⟩ : ∃ C2, bs (fourN n2) = C2 := ⟨_, rfl⟩
              have hA2z : A2.size = N := by
                have := congrArg List.length hA2l
                rw [List.length_take, List.length_drop, hls] at this
                have h2 : A2.data.toList.length = A2.size := by simp
                omega
              have S2 : Hid (∀ u : GW (fun W => Below wr.heap.size wr W), Calls Tryd.prog 32 #[.string A2] u.w fun e w' => e = .returned (.int .u32 (n2 : Int)) ∧ Below u.w.heap.size u.w w') := fun u => (rsum_any A2 u.w (by omega)).mono fun e w' ⟨h1, h2⟩ => ⟨by rw [h1, hA2l, hn2], by rw [h2]; exact Below.refl _ _⟩
              have P2 : Hid (∀ u : GW (fun W => Below wr.heap.size wr W), Calls Tryd.prog 60 #[.int .u32 (n2 : Int)] u.w fun e w' => e = .returned (.string C2) ∧ Below u.w.heap.size u.w w') := fun u => by rw [← hC2]; exact four_any n2 l2 u.w
              have hgn := GW.ne (Inv := fun W => Below wr.heap.size wr W) (Below.refl _ wr)
              have hcmp : (C2.toList == B2.toList) = decide (n2 = getN (s.data.toList.drop (8 + N))) := by
                rw [ByteArray.toList_eq, ByteArray.toList_eq, hB2l, ← hC2, Bool.eq_iff_iff, beq_iff_eq, decide_eq_true_eq]
                exact cmp_four (by rw [List.length_drop, hls]; omega) l2
              have HR := Lib.hid (show bs ((s.data.toList.drop 8).take N) = A2 by rw [← hA2l]; rfl)
              rw [hn2] at HO
              clear hC2 hA2l hB2l hn2
              cases hq : decide (n2 = getN (s.data.toList.drop (8 + N))) with
              | false =>
                have HE : Hid (oneN s.data.toList = none) := by show _ = _; rw [HO.out, if_pos (.inr (.inr (.inr (.inr (by simpa using hq)))))]
                rw [hq] at hcmp
                clear hq
                go_wp2_with fail
                refine wp_region_grow (fun W => Below wr.heap.size wr W) (by kernel_rfl) (by kernel_rfl) (Below.refl _ _).drew ?_
                repeat (go_big_quiet_step (first
                  | (go_at_call 32; refine (S2.out _).mono ?_; rintro e w1 ⟨rfl, hb⟩; exact ⟨rfl, below_next _ hb⟩)
                  | (go_at_call 60; refine (P2.out _).mono ?_; rintro e w1 ⟨rfl, hb⟩; exact ⟨rfl, below_next _ hb⟩)))
                refine wpQuiet_nil ?_
                intro w5 hw'
                obtain ⟨⟨wx, h5⟩, hw''⟩ := hw'
                subst hw''
                have H5 := Lib.hid (H4.out.trans (h5.mono H4.out.size))
                go_wp2_with fail
                refine bodyPost_ret (v := .tuple #[.string ⟨#[]⟩, .int .i64 0, .bool false]) (by simp [results, Tryd.results62, go_sem]) rfl ⟨by rw [HE.out]; rfl, H5.out⟩
              | true =>
                have HE : Hid (oneN s.data.toList = some ((s.data.toList.drop 8).take N)) := by
                  show _ = _
                  have h1 := of_decide_eq_true hq
                  have h2 := hcut.out
                  rw [HO.out, if_neg]
                  rintro (h | h | h | h | h)
                  · exact h2 (.inl h)
                  · exact h2 (.inr h)
                  · exact h65 h
                  · exact h12 h
                  · exact h h1
                rw [hq] at hcmp
                clear hq
                go_wp2_with fail
                refine wp_region_grow (fun W => Below wr.heap.size wr W) (by kernel_rfl) (by kernel_rfl) (Below.refl _ _).drew ?_
                repeat (go_big_quiet_step (first
                  | (go_at_call 32; refine (S2.out _).mono ?_; rintro e w1 ⟨rfl, hb⟩; exact ⟨rfl, below_next _ hb⟩)
                  | (go_at_call 60; refine (P2.out _).mono ?_; rintro e w1 ⟨rfl, hb⟩; exact ⟨rfl, below_next _ hb⟩)))
                refine wpQuiet_nil ?_
                intro w5 hw'
                obtain ⟨⟨wx, h5⟩, hw''⟩ := hw'
                subst hw''
                have H5 := Lib.hid (H4.out.trans (h5.mono H4.out.size))
                go_wp2_with fail
                refine bodyPost_ret (v := .tuple #[.string A2, .int .i64 (12 + (N : Int)), .bool true]) (by simp [results, Tryd.results62, go_sem]) rfl ⟨by
                  rw [HE.out]
                  show _ = Ending.returned (.tuple #[.string (bs ((s.data.toList.drop 8).take N)), .int .i64 ((12 + ((s.data.toList.drop 8).take N).length : Nat) : Int), .bool true])
                  rw [HR.out, List.length_take, List.length_drop, hls, Nat.min_eq_left (by omega)]
                  push_cast
                  rfl, H5.out⟩
end Go.Proofs.YtnpgjlhnlakgpaaDoor

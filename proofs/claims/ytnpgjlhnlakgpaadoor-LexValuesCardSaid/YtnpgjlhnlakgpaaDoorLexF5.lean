/- Contracts of the lexer's is and name, and of lex.Word. -/
import Derived.Test.YtnpgjlhnlakgpaaDoorLexF2
import Derived.Test.YtnpgjlhnlakgpaaDoorLexF4
import Derived.Test.YtnpgjlhnlakgpaaDoorLexA
namespace Go.Proofs.YtnpgjlhnlakgpaaDoor
open Go.RowKit Go.Maps Go.ChangeMaps Go.WideMaps

theorem is_any {w : World} {b m i : Nat} {s : ByteArray} (h : LX w b m s i) (hm : WM w m) (x : ByteArray) (hx : x.size ≤ maxLen) :
    Calls Tryd.prog 110 #[.pointer (some ⟨b, 0, none⟩), .string x] w fun e w' => e = .returned (.bool (isWord x.data.toList)) ∧ Below w.heap.size w w' := by
  have c2 := h.c2
  have hb := h.lt
  obtain ⟨n, D, hown, hhas⟩ := hm
  have HK := Lib.hid (keyS hx)
  have HO := Lib.hid hown
  have HH := Lib.hid (hhas x.data.toList)
  clear h hown hhas
  go_enter Tryd.func110, Tryd.ntmps110
  go_wp2_with (first | (at_lookup; refine wpList_lookup_own_unit _ rfl _ _ 84 rfl 9 94 lawS Tryd.underlying84 (zeroU _) m n _ rfl HO.out _ _ rfl HK.out ?_; rw [HH.out]) | fail)
  go_ret
  exact ⟨rfl, (Below.refl _ _).alloc (Nat.le_refl _) _⟩
theorem Word_any (w : World) (hA : Asc w) (x : ByteArray) (hx : x.size ≤ maxLen) :
    Calls Tryd.prog 18 #[.string x] w fun e w' => e = .returned (.bool (isWord x.data.toList)) ∧ Below w.heap.size w w' := by
  have HK := Lib.hid (keyS hx)
  have HA := Lib.hid hA
  clear hA
  go_enter Tryd.func18, Tryd.ntmps18
  go_wp2_with (first
    | (go_at_call 49; refine (words_any _ HA.out).mono ?_; rintro e w1 ⟨rfl, ⟨n, D, hown, hhas⟩, hB⟩; have HO := Lib.hid hown; have HH := Lib.hid (hhas x.data.toList); have HB := Lib.hid hB; clear hown hhas hB)
    | (at_lookup; refine wpList_lookup_own_unit _ rfl _ _ 84 rfl 9 94 lawS Tryd.underlying84 (zeroU _) (w.heap.size + 1) n _ rfl HO.out _ _ rfl HK.out ?_; rw [HH.out])
    | fail)
  go_ret
  exact ⟨rfl, HB.out.alloc HB.out.size _⟩

/-- What a token's function leaves. -/
def TokPost (b m : Nat) (s : ByteArray) (i : Nat) (r : Rs) (w : World) (e : Ending) (w' : World) : Prop :=
  K1 b w w' ∧ match r with
    | .ok k x d n => e = .returned (.tuple #[(⟨k, x, d, i⟩ : Tk).v, .int .i64 0, .int .i64 0]) ∧ LX w' b m s (i + n)
    | .bad er o => ∃ (x0 : Int) (x1 : ByteArray) (x2 x3 : Int) (x4 : ByteArray) (x5 : Int), e = .returned (.tuple #[.agg #[.int .i64 x0, .string x1, .int .i64 x2, .int .i64 x3, .string x4, .int .i64 x5], .int .i64 er, .int .i64 ((i + o : Nat) : Int)])
theorem upper_eq : ∀ c : UInt8, Lib.upperB c = upB c := byte_all (by decide +kernel)
theorem lower_eq : ∀ c : UInt8, Lib.lowerB c = loB c := byte_all (by decide +kernel)
theorem nm_ascii : ∀ c : UInt8, isNm c = true → c.toNat < 128 := byte_all (by decide +kernel)

/-- A token written into its block. -/
abbrev put6 (w : World) (n : Nat) (a0 a1 a2 a3 a4 a5 : Value) : World :=
  (((((w.setCell ⟨n, 0, none⟩ a0).setCell ⟨n, 1, none⟩ a1).setCell ⟨n, 2, none⟩ a2).setCell ⟨n, 3, none⟩ a3).setCell ⟨n, 4, none⟩ a4).setCell ⟨n, 5, none⟩ a5
theorem K1.put6 {b : Nat} {w0 w : World} (h : K1 b w0 w) {j : Nat} (hj : w0.heap.size ≤ j) (a0 a1 a2 a3 a4 a5 : Value) : K1 b w0 (put6 w j a0 a1 a2 a3 a4 a5) :=
  (((((h.setNew hj 0 a0).setNew hj 1 a1).setNew hj 2 a2).setNew hj 3 a3).setNew hj 4 a4).setNew hj 5 a5
theorem LX.put6 {w : World} {b m i : Nat} {s : ByteArray} (h : LX w b m s i) {j : Nat} (hj : b ≠ j) (a0 a1 a2 a3 a4 a5 : Value) : LX (put6 w j a0 a1 a2 a3 a4 a5) b m s i :=
  (((((h.far hj 0 a0).far hj 1 a1).far hj 2 a2).far hj 3 a3).far hj 4 a4).far hj 5 a5
set_option maxRecDepth 100000 in
set_option maxHeartbeats 2000000 in
theorem name_any {w : World} {b m i : Nat} {s : ByteArray} (h : LX w b m s i) (hm : WM w m) (hne : m ≠ b) (hs : s.size ≤ 4000) (hi : i ≤ s.size) :
    Calls Tryd.prog 81 #[.pointer (some ⟨b, 0, none⟩)] w (TokPost b m s i (nameF (fromS s i)) w) := by
  have H := Lib.hid h
  have HM := Lib.hid hm
  have hb := h.lt
  obtain ⟨T, hT⟩ : ∃ T, (fromS s i).takeWhile isNm = T := ⟨_, rfl⟩
  obtain ⟨S, hS⟩ : ∃ S, bs T = S := ⟨_, rfl⟩
  have hw : ∀ W, LX W b m s i → Calls Tryd.prog 107 #[.pointer (some ⟨b, 0, none⟩), .func (.func 108) #[] #[]] W fun e w' => e = .returned (.string S) ∧ LX w' b m s (i + T.length) ∧ K1 b W w' := by
    intro W hW
    have := while_nm hW hs hi
    rw [hT, hS] at this
    exact this
  have HW := Lib.hid hw
  have hSz : S.size = T.length := by rw [← hS, bs_size]
  have HSl : Hid (S.data.toList = T) := by show _ = _; rw [← hS]; rfl
  have hall : ∀ c ∈ T, isNm c = true := by rw [← hT]; exact takeWhile_all isNm _
  have HAs : Hid (∀ (j : Nat) (b : UInt8), S.data.toList[j]? = some b → b.toNat < 128) := by
    intro j b hj
    rw [HSl.out] at hj
    exact nm_ascii b (hall b (List.mem_of_getElem? hj))
  have HN : Hid (nameF (fromS s i) = if 20 < T.length then .bad 2 0 else if isWord (T.map upB) then .ok 2 ⟨(T.map upB).toArray⟩ Dt.zero T.length else .ok 1 ⟨(T.map loB).toArray⟩ Dt.zero T.length) := by
    show _ = _
    rw [← hT]; rfl
  have hTl : T.length ≤ 4000 := by
    have := takeWhile_le isNm (fromS s i)
    rw [hT, from_len] at this; omega
  rw [HN.out]
  clear h hm hw hT hS hall HN
  have c1 := H.out.c1
  go_enter Tryd.func81, Tryd.ntmps81
  by_cases h20 : 20 < T.length
  · rw [if_pos h20]
    have h20i : (20 : Int) < (S.size : Int) := by omega
    go_wp2_with (first
      | (go_at_call 107; refine (HW.out _ (H.out.alloc _)).mono ?_; rintro e w1 ⟨rfl, hl1, hk1⟩; have HL1 := Lib.hid hl1; have HK1 := Lib.hid hk1; have HM1 := Lib.hid ((HM.out.below ((Below.refl _ _).alloc (Nat.le_refl _) _)).kept hk1 hne); obtain ⟨⟨tf0, tf1, tf2, tf3, tf4, tf5⟩, tc0, tc1, tc2, tc3, tc4, tc5⟩ := tok_kept hk1 hb; have tlt := World.block_lt_of_cell? w1 _ tc0; clear hl1 hk1)
      | fail)
    refine bodyPost_ret (v := .tuple #[(⟨0, ⟨#[]⟩, Dt.zero, 0⟩ : Tk).v, .int .i64 2, .int .i64 (i : Int)]) (by simp [results, Tryd.results81, go_sem, Dt.zero, tc0, tc1, tc2, tc3, tc4, tc5]) rfl ⟨HK1.out.ofAlloc.put6 (Nat.le_refl _) _ _ _ _ _ _, _, _, _, _, _, _, rfl⟩
  · rw [if_neg h20]
    have h20i : ¬ (20 : Int) < (S.size : Int) := by omega
    obtain ⟨U, hU⟩ : ∃ U : ByteArray, (⟨(T.map upB).toArray⟩ : ByteArray) = U := ⟨_, rfl⟩
    obtain ⟨L, hL⟩ : ∃ L : ByteArray, (⟨(T.map loB).toArray⟩ : ByteArray) = L := ⟨_, rfl⟩
    have HUp : Hid ((⟨(Lib.toUpperA S.data.toList).toArray⟩ : ByteArray) = U) := by
      show _ = _
      rw [← hU, HSl.out, Lib.toUpperA]; congr 3; funext c; exact upper_eq c
    have HLo : Hid ((⟨(Lib.toLowerA S.data.toList).toArray⟩ : ByteArray) = L) := by
      show _ = _
      rw [← hL, HSl.out, Lib.toLowerA]; congr 3; funext c; exact lower_eq c
    have HUs : Hid (U.size ≤ maxLen) := by
      show _ ≤ _
      rw [← hU]; show (T.map upB).toArray.size ≤ _; simp; unfold maxLen; omega
    rw [hU, hL]
    obtain ⟨wb, hwb⟩ : ∃ wb, isWord (T.map upB) = wb := ⟨_, rfl⟩
    have HIs : Hid (isWord U.data.toList = wb) := by show _ = _; rw [← hU]; exact hwb
    rw [hwb]
    clear hU hL hwb
    cases wb
    · rw [if_neg (by decide)]
      go_wp2_with (first
        | (go_at_call 107; refine (HW.out _ (H.out.alloc _)).mono ?_; rintro e w1 ⟨rfl, hl1, hk1⟩; have HL1 := Lib.hid hl1; have HK1 := Lib.hid hk1; have HM1 := Lib.hid ((HM.out.below ((Below.refl _ _).alloc (Nat.le_refl _) _)).kept hk1 hne); obtain ⟨⟨tf0, tf1, tf2, tf3, tf4, tf5⟩, tc0, tc1, tc2, tc3, tc4, tc5⟩ := tok_kept hk1 hb; have tlt := World.block_lt_of_cell? w1 _ tc0; clear hl1 hk1)
        | (go_at_call 109; refine (Tryd.strings_ToUpper_ascii _ _ (by omega) HAs.out).mono ?_; rintro e w2 ⟨rfl, hB2⟩; rw [HUp.out]; have HL2 := Lib.hid (HL1.out.below hB2); have HK2 := Lib.hid (HK1.out.step hB2); have HM2 := Lib.hid (HM1.out.below hB2); clear tf0 tf1 tf2 tf3 tf4 tf5 tc0 tc1 tc2 tc3 tc4 tc5 tlt hB2)
        | (go_at_call 110; refine (is_any HL2.out HM2.out _ HUs.out).mono ?_; rintro e w3 ⟨rfl, hB3⟩; rw [HIs.out]; have HL3 := Lib.hid (HL2.out.below hB3); have HK3 := Lib.hid (HK2.out.step hB3); obtain ⟨⟨tf0, tf1, tf2, tf3, tf4, tf5⟩, tc0, tc1, tc2, tc3, tc4, tc5⟩ := tok_kept HK3.out hb; have tlt := World.block_lt_of_cell? w3 _ tc0; clear hB3)
        | (go_at_call 111; refine (Tryd.strings_ToLower_ascii _ _ (by omega) HAs.out).mono ?_; rintro e w4 ⟨rfl, hB4⟩; rw [HLo.out]; have HL4 := Lib.hid (HL3.out.below hB4); have HK4 := Lib.hid (HK3.out.step hB4); obtain ⟨⟨tf0, tf1, tf2, tf3, tf4, tf5⟩, tc0, tc1, tc2, tc3, tc4, tc5⟩ := tok_kept HK4.out hb; have tlt := World.block_lt_of_cell? w4 _ tc0; clear hB4)
        | fail)
      refine bodyPost_ret (v := .tuple #[(⟨1, L, Dt.zero, i⟩ : Tk).v, .int .i64 0, .int .i64 0]) (by simp [results, Tryd.results81, go_sem, Dt.zero, tc0, tc1, tc2, tc3, tc4, tc5]) rfl ⟨HK4.out.ofAlloc.put6 (Nat.le_refl _) _ _ _ _ _ _, rfl, HL4.out.put6 (by omega) _ _ _ _ _ _⟩
    · rw [if_pos rfl]
      go_wp2_with (first
        | (go_at_call 107; refine (HW.out _ (H.out.alloc _)).mono ?_; rintro e w1 ⟨rfl, hl1, hk1⟩; have HL1 := Lib.hid hl1; have HK1 := Lib.hid hk1; have HM1 := Lib.hid ((HM.out.below ((Below.refl _ _).alloc (Nat.le_refl _) _)).kept hk1 hne); obtain ⟨⟨tf0, tf1, tf2, tf3, tf4, tf5⟩, tc0, tc1, tc2, tc3, tc4, tc5⟩ := tok_kept hk1 hb; have tlt := World.block_lt_of_cell? w1 _ tc0; clear hl1 hk1)
        | (go_at_call 109; refine (Tryd.strings_ToUpper_ascii _ _ (by omega) HAs.out).mono ?_; rintro e w2 ⟨rfl, hB2⟩; rw [HUp.out]; have HL2 := Lib.hid (HL1.out.below hB2); have HK2 := Lib.hid (HK1.out.step hB2); have HM2 := Lib.hid (HM1.out.below hB2); clear tf0 tf1 tf2 tf3 tf4 tf5 tc0 tc1 tc2 tc3 tc4 tc5 tlt hB2)
        | (go_at_call 110; refine (is_any HL2.out HM2.out _ HUs.out).mono ?_; rintro e w3 ⟨rfl, hB3⟩; rw [HIs.out]; have HL3 := Lib.hid (HL2.out.below hB3); have HK3 := Lib.hid (HK2.out.step hB3); obtain ⟨⟨tf0, tf1, tf2, tf3, tf4, tf5⟩, tc0, tc1, tc2, tc3, tc4, tc5⟩ := tok_kept HK3.out hb; have tlt := World.block_lt_of_cell? w3 _ tc0; clear hB3)
        | fail)
      refine bodyPost_ret (v := .tuple #[(⟨2, U, Dt.zero, i⟩ : Tk).v, .int .i64 0, .int .i64 0]) (by simp [results, Tryd.results81, go_sem, Dt.zero, tc0, tc1, tc2, tc3, tc4, tc5]) rfl ⟨HK3.out.ofAlloc.put6 (Nat.le_refl _) _ _ _ _ _ _, rfl, HL3.out.put6 (by omega) _ _ _ _ _ _⟩
end Go.Proofs.YtnpgjlhnlakgpaaDoor

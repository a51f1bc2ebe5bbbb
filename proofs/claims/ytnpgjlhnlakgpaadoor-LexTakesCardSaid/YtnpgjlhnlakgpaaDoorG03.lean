/- Contracts of the lexer's is and name, and of lex.Word. A token's block in memory. -/
import Derived.Test.YtnpgjlhnlakgpaaDoorG02
import Derived.Test.YtnpgjlhnlakgpaaDoorLexF4
import Derived.Test.YtnpgjlhnlakgpaaDoorLexA
namespace Go.Proofs.YtnpgjlhnlakgpaaDoor
open Go.RowKit Go.Maps Go.ChangeMaps Go.WideMaps

theorem is_any {w : World} {b m i : Nat} {s : ByteArray} (h : LX w b m s i) (hm : WM w m) (x : ByteArray) (hx : x.size ≤ maxLen) :
    Calls Tryd.prog 110 #[.pointer (some ⟨b, 0, none⟩), .string x] w fun e w' => e = .returned (.bool (isWord x.data.toList)) ∧ Below w.heap.size w w' := by
  have c2 := h.c2
  have hb := h.lt
  obtain ⟨n, D, hown, hhas⟩ := hm
  have HK := Lib.hid (keyS hx)
  have HO := Lib.hid hown
  have HH := Lib.hid (hhas x.data.toList)
  clear h hown hhas
  go_enter Tryd.func110, Tryd.ntmps110
  go_wp2_with (first | (at_lookup; refine wpList_lookup_own_unit _ rfl _ _ 84 rfl 9 94 lawS Tryd.underlying84 (zeroU _) m n _ rfl HO.out _ _ rfl HK.out ?_; rw [HH.out]) | fail)
  go_ret
  exact ⟨rfl, (Below.refl _ _).alloc (Nat.le_refl _) _⟩
theorem Word_any (w : World) (hA : Asc w) (x : ByteArray) (hx : x.size ≤ maxLen) :
    Calls Tryd.prog 18 #[.string x] w fun e w' => e = .returned (.bool (isWord x.data.toList)) ∧ Below w.heap.size w w' := by
  have HK := Lib.hid (keyS hx)
  have HA := Lib.hid hA
  clear hA
  go_enter Tryd.func18, Tryd.ntmps18
  go_wp2_with (first
    | (go_at_call 49; refine (words_any _ HA.out).mono ?_; rintro e w1 ⟨rfl, ⟨n, D, hown, hhas⟩, hB⟩; have HO := Lib.hid hown; have HH := Lib.hid (hhas x.data.toList); have HB := Lib.hid hB; clear hown hhas hB)
    | (at_lookup; refine wpList_lookup_own_unit _ rfl _ _ 84 rfl 9 94 lawS Tryd.underlying84 (zeroU _) (w.heap.size + 1) n _ rfl HO.out _ _ rfl HK.out ?_; rw [HH.out])
    | fail)
  go_ret
  exact ⟨rfl, HB.out.alloc HB.out.size _⟩

/-- What a token's function leaves. -/
def TokPost (b m : Nat) (s : ByteArray) (i : Nat) (r : Rs) (w : World) (e : Ending) (w' : World) : Prop :=
  K1 b w w' ∧ match r with
    | .ok k x d n => e = .returned (.tuple #[(⟨k, x, d, i⟩ : Tk).v, .int .i64 0, .int .i64 0]) ∧ LX w' b m s (i + n)
    | .bad er o => ∃ (x0 : Int) (x1 : ByteArray) (x2 x3 : Int) (x4 : ByteArray) (x5 : Int), e = .returned (.tuple #[.agg #[.int .i64 x0, .string x1, .int .i64 x2, .int .i64 x3, .string x4, .int .i64 x5], .int .i64 er, .int .i64 ((i + o : Nat) : Int)])
theorem upper_eq : ∀ c : UInt8, Lib.upperB c = upB c := byte_all (by decide +kernel)
theorem lower_eq : ∀ c : UInt8, Lib.lowerB c = loB c := byte_all (by decide +kernel)
theorem nm_ascii : ∀ c : UInt8, isNm c = true → c.toNat < 128 := byte_all (by decide +kernel)

/-- A token written into its block. -/
abbrev put6 (w : World) (n : Nat) (a0 a1 a2 a3 a4 a5 : Value) : World :=
  (((((w.setCell ⟨n, 0, none⟩ a0).setCell ⟨n, 1, none⟩ a1).setCell ⟨n, 2, none⟩ a2).setCell ⟨n, 3, none⟩ a3).setCell ⟨n, 4, none⟩ a4).setCell ⟨n, 5, none⟩ a5
theorem K1.put6 {b : Nat} {w0 w : World} (h : K1 b w0 w) {j : Nat} (hj : w0.heap.size ≤ j) (a0 a1 a2 a3 a4 a5 : Value) : K1 b w0 (put6 w j a0 a1 a2 a3 a4 a5) :=
  (((((h.setNew hj 0 a0).setNew hj 1 a1).setNew hj 2 a2).setNew hj 3 a3).setNew hj 4 a4).setNew hj 5 a5
theorem LX.put6 {w : World} {b m i : Nat} {s : ByteArray} (h : LX w b m s i) {j : Nat} (hj : b ≠ j) (a0 a1 a2 a3 a4 a5 : Value) : LX (put6 w j a0 a1 a2 a3 a4 a5) b m s i :=
  (((((h.far hj 0 a0).far hj 1 a1).far hj 2 a2).far hj 3 a3).far hj 4 a4).far hj 5 a5
set_option maxRecDepth 100000 in
set_option maxHeartbeats 2000000 in
theorem name_any {w : World} {b m i : Nat} {s : ByteArray} (h : LX w b m s i) (hm : WM w m) (hne : m ≠ b) (hs : s.size ≤ 4000) (hi : i ≤ s.size) :
    Calls Tryd.prog 81 #[.pointer (some ⟨b, 0, none⟩)] w (TokPost b m s i (nameF (fromS s i)) w) := by
  have H := Lib.hid h
  have HM := Lib.hid hm
  have hb := h.lt
  obtain ⟨T, hT⟩ : ∃ T, (fromS s i).takeWhile isNm = T := ⟨_, rfl⟩
  obtain ⟨S, hS⟩ : ∃ S, bs T = S := ⟨_, rfl⟩
  have hw : ∀ W, LX W b m s i → Calls Tryd.prog 107 #[.pointer (some ⟨b, 0, none⟩), .func (.func 108) #[] #[]] W fun e w' => e = .returned (.string S) ∧ LX w' b m s (i + T.length) ∧ K1 b W w' := by
    intro W hW
    have := while_nm hW hs hi
    rw [hT, hS] at this
    exact this
  have HW := Lib.hid hw
  have hSz : S.size = T.length := by rw [← hS, bs_size]
  have HSl : Hid (S.data.toList = T) := by show _ = _; rw [← hS]; rfl
  have hall : ∀ c ∈ T, isNm c = true := by rw [← hT]; exact takeWhile_all isNm _
  have HAs : Hid (∀ (j : Nat) (b : UInt8), S.data.toList[j]? = some b → b.toNat < 128) := by
    intro j b hj
    rw [HSl.out] at hj
    exact nm_ascii b (hall b (List.mem_of_getElem? hj))
  have HN : Hid (nameF (fromS s i) = if 20 < T.length then .bad 2 0 else if isWord (T.map upB) then .ok 2 ⟨(T.map upB).toArray⟩ Dt.zero T.length else .ok 1 ⟨(T.map loB).toArray⟩ Dt.zero T.length) := by
    show _ = _
    rw [← hT]; rfl
  have hTl : T.length ≤ 4000 := by
    have := takeWhile_le isNm (fromS s i)
    rw [hT, from_len] at this; omega
  rw [HN.out]
  clear h hm hw hT hS hall HN
  have c1 := H.out.c1
  go_enter Tryd.func81, Tryd.ntmps81
  by_cases h20 : 20 < T.length
  · rw [if_pos h20]
    have h20i : (20 : Int) < (S.size : Int) := by omega
    go_wp2_with (first
      | (go_at_call 107; refine (HW.out _ (H.out.alloc _)).mono ?_; rintro e w1 ⟨rfl, hl1, hk1⟩; have HL1 := Lib.hid hl1; have HK1 := Lib.hid hk1; have HM1 := Lib.hid ((HM.out.below ((Below.refl _ _).alloc (Nat.le_refl _) _)).kept hk1 hne); obtain ⟨⟨tf0, tf1, tf2, tf3, tf4, tf5⟩, tc0, tc1, tc2, tc3, tc4, tc5⟩ := tok_kept hk1 hb; have tlt := World.block_lt_of_cell? w1 _ tc0; clear hl1 hk1)
      | fail)
    refine bodyPost_ret (v := .tuple #[(⟨0, ⟨#[]⟩, Dt.zero, 0⟩ : Tk).v, .int .i64 2, .int .i64 (i : Int)]) (by simp [results, Tryd.results81, go_sem, Dt.zero, tc0, tc1, tc2, tc3, tc4, tc5]) rfl ⟨HK1.out.ofAlloc.put6 (Nat.le_refl _) _ _ _ _ _ _, _, _, _, _, _, _, rfl⟩
  · rw [if_neg h20]
    have h20i : ¬ (20 : Int) < (S.size : Int) := by omega
    obtain ⟨U, hU⟩ : ∃ U : ByteArray, (⟨(T.map upB).toArray⟩ : ByteArray) = U := ⟨_, rfl⟩
    obtain ⟨L, hL⟩ : ∃ L : ByteArray, (⟨(T.map loB).toArray⟩ : ByteArray) = L := ⟨_, rfl⟩
    have HUp : Hid ((⟨(Lib.toUpperA S.data.toList).toArray⟩ : ByteArray) = U) := by
      show _ = _
      rw [← hU, HSl.out, Lib.toUpperA]; congr 3; funext c; exact upper_eq c
    have HLo : Hid ((⟨(Lib.toLowerA S.data.toList).toArray⟩ : ByteArray) = L) := by
      show _ = _
      rw [← hL, HSl.out, Lib.toLowerA]; congr 3; funext c; exact lower_eq c
    have HUs : Hid (U.size ≤ maxLen) := by
      show _ ≤ _
      rw [← hU]; show (T.map upB).toArray.size ≤ _; simp; unfold maxLen; omega
    rw [hU, hL]
    obtain ⟨wb, hwb⟩ : ∃ wb, isWord (T.map upB) = wb := ⟨_, rfl⟩
    have HIs : Hid (isWord U.data.toList = wb) := by show _ = _; rw [← hU]; exact hwb
    rw [hwb]
    clear hU hL hwb
    cases wb
    · rw [if_neg (by decide)]
      go_wp2_with (first
        | (go_at_call 107; refine (HW.out _ (H.out.alloc _)).mono ?_; rintro e w1 ⟨rfl, hl1, hk1⟩; have HL1 := Lib.hid hl1; have HK1 := Lib.hid hk1; have HM1 := Lib.hid ((HM.out.below ((Below.refl _ _).alloc (Nat.le_refl _) _)).kept hk1 hne); obtain ⟨⟨tf0, tf1, tf2, tf3, tf4, tf5⟩, tc0, tc1, tc2, tc3, tc4, tc5⟩ := tok_kept hk1 hb; have tlt := World.block_lt_of_cell? w1 _ tc0; clear hl1 hk1)
        | (go_at_call 109; refine (Tryd.strings_ToUpper_ascii _ _ (by omega) HAs.out).mono ?_; rintro e w2 ⟨rfl, hB2⟩; rw [HUp.out]; have HL2 := Lib.hid (HL1.out.below hB2); have HK2 := Lib.hid (HK1.out.step hB2); have HM2 := Lib.hid (HM1.out.below hB2); clear tf0 tf1 tf2 tf3 tf4 tf5 tc0 tc1 tc2 tc3 tc4 tc5 tlt hB2)
        | (go_at_call 110; refine (is_any HL2.out HM2.out _ HUs.out).mono ?_; rintro e w3 ⟨rfl, hB3⟩; rw [HIs.out]; have HL3 := Lib.hid (HL2.out.below hB3); have HK3 := Lib.hid (HK2.out.step hB3); obtain ⟨⟨tf0, tf1, tf2, tf3, tf4, tf5⟩, tc0, tc1, tc2, tc3, tc4, tc5⟩ := tok_kept HK3.out hb; have tlt := World.block_lt_of_cell? w3 _ tc0; clear hB3)
        | (go_at_call 111; refine (Tryd.strings_ToLower_ascii _ _ (by omega) HAs.out).mono ?_; rintro e w4 ⟨rfl, hB4⟩; rw [HLo.out]; have HL4 := Lib.hid (HL3.out.below hB4); have HK4 := Lib.hid (HK3.out.step hB4); obtain ⟨⟨tf0, tf1, tf2, tf3, tf4, tf5⟩, tc0, tc1, tc2, tc3, tc4, tc5⟩ := tok_kept HK4.out hb; have tlt := World.block_lt_of_cell? w4 _ tc0; clear hB4)
        | fail)
      refine bodyPost_ret (v := .tuple #[(⟨1, L, Dt.zero, i⟩ : Tk).v, .int .i64 0, .int .i64 0]) (by simp [results, Tryd.results81, go_sem, Dt.zero, tc0, tc1, tc2, tc3, tc4, tc5]) rfl ⟨HK4.out.ofAlloc.put6 (Nat.le_refl _) _ _ _ _ _ _, rfl, HL4.out.put6 (by omega) _ _ _ _ _ _⟩
    · rw [if_pos rfl]
      go_wp2_with (first
        | (go_at_call 107; refine (HW.out _ (H.out.alloc _)).mono ?_; rintro e w1 ⟨rfl, hl1, hk1⟩; have HL1 := Lib.hid hl1; have HK1 := Lib.hid hk1; have HM1 := Lib.hid ((HM.out.below ((Below.refl _ _).alloc (Nat.le_refl _) _)).kept hk1 hne); obtain ⟨⟨tf0, tf1, tf2, tf3, tf4, tf5⟩, tc0, tc1, tc2, tc3, tc4, tc5⟩ := tok_kept hk1 hb; have tlt := World.block_lt_of_cell? w1 _ tc0; clear hl1 hk1)
        | (go_at_call 109; refine (Tryd.strings_ToUpper_ascii _ _ (by omega) HAs.out).mono ?_; rintro e w2 ⟨rfl, hB2⟩; rw [HUp.out]; have HL2 := Lib.hid (HL1.out.below hB2); have HK2 := Lib.hid (HK1.out.step hB2); have HM2 := Lib.hid (HM1.out.below hB2); clear tf0 tf1 tf2 tf3 tf4 tf5 tc0 tc1 tc2 tc3 tc4 tc5 tlt hB2)
        | (go_at_call 110; refine (is_any HL2.out HM2.out _ HUs.out).mono ?_; rintro e w3 ⟨rfl, hB3⟩; rw [HIs.out]; have HL3 := Lib.hid (HL2.out.below hB3); have HK3 := Lib.hid (HK2.out.step hB3); obtain ⟨⟨tf0, tf1, tf2, tf3, tf4, tf5⟩, tc0, tc1, tc2, tc3, tc4, tc5⟩ := tok_kept HK3.out hb; have tlt := World.block_lt_of_cell? w3 _ tc0; clear hB3)
        | fail)
      refine bodyPost_ret (v := .tuple #[(⟨2, U, Dt.zero, i⟩ : Tk).v, .int .i64 0, .int .i64 0]) (by simp [results, Tryd.results81, go_sem, Dt.zero, tc0, tc1, tc2, tc3, tc4, tc5]) rfl ⟨HK3.out.ofAlloc.put6 (Nat.le_refl _) _ _ _ _ _ _, rfl, HL3.out.put6 (by omega) _ _ _ _ _ _⟩
end Go.Proofs.YtnpgjlhnlakgpaaDoor
namespace Go.Proofs.YtnpgjlhnlakgpaaDoor
open Go.RowKit

/-- A block of six cells that can be written. -/
structure TB6 (w : World) (n : Nat) (x0 x1 x2 x3 x4 x5 : Value) : Prop where
  c : w.cell? ⟨n, 0, none⟩ = some x0 ∧ w.cell? ⟨n, 1, none⟩ = some x1 ∧ w.cell? ⟨n, 2, none⟩ = some x2 ∧ w.cell? ⟨n, 3, none⟩ = some x3 ∧ w.cell? ⟨n, 4, none⟩ = some x4 ∧ w.cell? ⟨n, 5, none⟩ = some x5
  f : w.frozen? ⟨n, 0, none⟩ = false ∧ w.frozen? ⟨n, 1, none⟩ = false ∧ w.frozen? ⟨n, 2, none⟩ = false ∧ w.frozen? ⟨n, 3, none⟩ = false ∧ w.frozen? ⟨n, 4, none⟩ = false ∧ w.frozen? ⟨n, 5, none⟩ = false
theorem TB6.lt {w : World} {n : Nat} {x0 x1 x2 x3 x4 x5 : Value} (h : TB6 w n x0 x1 x2 x3 x4 x5) : n < w.heap.size := World.block_lt_of_cell? w _ h.c.1
theorem TB6.of_block {w w' : World} {n : Nat} {x0 x1 x2 x3 x4 x5 : Value} (h : TB6 w n x0 x1 x2 x3 x4 x5) (h1 : w'.heap[n]? = w.heap[n]?) : TB6 w' n x0 x1 x2 x3 x4 x5 := by
  have hc : ∀ o, w'.cell? ⟨n, o, none⟩ = w.cell? ⟨n, o, none⟩ := fun o => World.cell?_of_block (w := w) h1
  have hf : ∀ o, w'.frozen? ⟨n, o, none⟩ = w.frozen? ⟨n, o, none⟩ := fun o => World.frozen?_of_block (w := w) h1
  obtain ⟨⟨a0, a1, a2, a3, a4, a5⟩, b0, b1, b2, b3, b4, b5⟩ := h
  exact ⟨⟨by rw [hc]; exact a0, by rw [hc]; exact a1, by rw [hc]; exact a2, by rw [hc]; exact a3, by rw [hc]; exact a4, by rw [hc]; exact a5⟩, by rw [hf]; exact b0, by rw [hf]; exact b1, by rw [hf]; exact b2, by rw [hf]; exact b3, by rw [hf]; exact b4, by rw [hf]; exact b5⟩
theorem TB6.kept {w w' : World} {b n : Nat} {x0 x1 x2 x3 x4 x5 : Value} (h : TB6 w n x0 x1 x2 x3 x4 x5) (hk : K1 b w w') (hn : n ≠ b) : TB6 w' n x0 x1 x2 x3 x4 x5 := h.of_block (hk.block n h.lt hn)
theorem TB6.new (w : World) (x0 x1 x2 x3 x4 x5 : Value) (t : TypeId) : TB6 (w.alloc (.cells #[x0, x1, x2, x3, x4, x5] t)) w.heap.size x0 x1 x2 x3 x4 x5 := by
  have hc : ∀ o, (w.alloc (.cells #[x0, x1, x2, x3, x4, x5] t)).cell? ⟨w.heap.size, o, none⟩ = (#[x0, x1, x2, x3, x4, x5] : Array Value)[o]? := fun o => World.cell?_alloc_new _ _ _ _
  have hf : ∀ o, (w.alloc (.cells #[x0, x1, x2, x3, x4, x5] t)).frozen? ⟨w.heap.size, o, none⟩ = false := fun o => World.frozen?_alloc_new ..
  exact ⟨⟨hc 0, hc 1, hc 2, hc 3, hc 4, hc 5⟩, hf 0, hf 1, hf 2, hf 3, hf 4, hf 5⟩
theorem TB6.alloc {w : World} {n : Nat} {x0 x1 x2 x3 x4 x5 : Value} (h : TB6 w n x0 x1 x2 x3 x4 x5) (o : Obj) : TB6 (w.alloc o) n x0 x1 x2 x3 x4 x5 := h.of_block (Below.heap_alloc w o n h.lt)
theorem TB6.far {w : World} {n : Nat} {x0 x1 x2 x3 x4 x5 : Value} (h : TB6 w n x0 x1 x2 x3 x4 x5) {j : Nat} (hj : n ≠ j) (o : Nat) (u : Value) : TB6 (w.setCell ⟨j, o, none⟩ u) n x0 x1 x2 x3 x4 x5 := h.of_block (Below.heap_setCell _ _ _ _ hj)
theorem cell_far {w : World} {n i j : Nat} {u v : Value} (hij : i ≠ j) (h : w.cell? ⟨n, j, none⟩ = some v) : (w.setCell ⟨n, i, none⟩ u).cell? ⟨n, j, none⟩ = some v := by
  have hne : (⟨n, i, none⟩ : Addr) ≠ ⟨n, j, none⟩ := fun e => hij (Addr.mk.inj e).2.1
  rw [World.cell?_setCell_other (h := hne)]; exact h
theorem cell_own {w : World} {n i : Nat} {u v : Value} (h : w.cell? ⟨n, i, none⟩ = some v) : (w.setCell ⟨n, i, none⟩ u).cell? ⟨n, i, none⟩ = some u := World.cell?_setCell_same _ _ _ h
theorem froz_far {w : World} {n i j : Nat} {u : Value} {x : Bool} (h : w.frozen? ⟨n, j, none⟩ = x) : (w.setCell ⟨n, i, none⟩ u).frozen? ⟨n, j, none⟩ = x := by rw [World.frozen?_setCell]; exact h
theorem TB6.set0 {w : World} {n : Nat} {x0 x1 x2 x3 x4 x5 : Value} (h : TB6 w n x0 x1 x2 x3 x4 x5) (y : Value) : TB6 (w.setCell ⟨n, 0, none⟩ y) n y x1 x2 x3 x4 x5 := by
  obtain ⟨⟨a0, a1, a2, a3, a4, a5⟩, b0, b1, b2, b3, b4, b5⟩ := h
  exact ⟨⟨cell_own a0, cell_far (by decide) a1, cell_far (by decide) a2, cell_far (by decide) a3, cell_far (by decide) a4, cell_far (by decide) a5⟩, froz_far b0, froz_far b1, froz_far b2, froz_far b3, froz_far b4, froz_far b5⟩
theorem TB6.set1 {w : World} {n : Nat} {x0 x1 x2 x3 x4 x5 : Value} (h : TB6 w n x0 x1 x2 x3 x4 x5) (y : Value) : TB6 (w.setCell ⟨n, 1, none⟩ y) n x0 y x2 x3 x4 x5 := by
  obtain ⟨⟨a0, a1, a2, a3, a4, a5⟩, b0, b1, b2, b3, b4, b5⟩ := h
  exact ⟨⟨cell_far (by decide) a0, cell_own a1, cell_far (by decide) a2, cell_far (by decide) a3, cell_far (by decide) a4, cell_far (by decide) a5⟩, froz_far b0, froz_far b1, froz_far b2, froz_far b3, froz_far b4, froz_far b5⟩
theorem TB6.set2 {w : World} {n : Nat} {x0 x1 x2 x3 x4 x5 : Value} (h : TB6 w n x0 x1 x2 x3 x4 x5) (y : Value) : TB6 (w.setCell ⟨n, 2, none⟩ y) n x0 x1 y x3 x4 x5 := by
  obtain ⟨⟨a0, a1, a2, a3, a4, a5⟩, b0, b1, b2, b3, b4, b5⟩ := h
  exact ⟨⟨cell_far (by decide) a0, cell_far (by decide) a1, cell_own a2, cell_far (by decide) a3, cell_far (by decide) a4, cell_far (by decide) a5⟩, froz_far b0, froz_far b1, froz_far b2, froz_far b3, froz_far b4, froz_far b5⟩
theorem TB6.set3 {w : World} {n : Nat} {x0 x1 x2 x3 x4 x5 : Value} (h : TB6 w n x0 x1 x2 x3 x4 x5) (y : Value) : TB6 (w.setCell ⟨n, 3, none⟩ y) n x0 x1 x2 y x4 x5 := by
  obtain ⟨⟨a0, a1, a2, a3, a4, a5⟩, b0, b1, b2, b3, b4, b5⟩ := h
  exact ⟨⟨cell_far (by decide) a0, cell_far (by decide) a1, cell_far (by decide) a2, cell_own a3, cell_far (by decide) a4, cell_far (by decide) a5⟩, froz_far b0, froz_far b1, froz_far b2, froz_far b3, froz_far b4, froz_far b5⟩
theorem TB6.set4 {w : World} {n : Nat} {x0 x1 x2 x3 x4 x5 : Value} (h : TB6 w n x0 x1 x2 x3 x4 x5) (y : Value) : TB6 (w.setCell ⟨n, 4, none⟩ y) n x0 x1 x2 x3 y x5 := by
  obtain ⟨⟨a0, a1, a2, a3, a4, a5⟩, b0, b1, b2, b3, b4, b5⟩ := h
  exact ⟨⟨cell_far (by decide) a0, cell_far (by decide) a1, cell_far (by decide) a2, cell_far (by decide) a3, cell_own a4, cell_far (by decide) a5⟩, froz_far b0, froz_far b1, froz_far b2, froz_far b3, froz_far b4, froz_far b5⟩
theorem TB6.set5 {w : World} {n : Nat} {x0 x1 x2 x3 x4 x5 : Value} (h : TB6 w n x0 x1 x2 x3 x4 x5) (y : Value) : TB6 (w.setCell ⟨n, 5, none⟩ y) n x0 x1 x2 x3 x4 y := by
  obtain ⟨⟨a0, a1, a2, a3, a4, a5⟩, b0, b1, b2, b3, b4, b5⟩ := h
  exact ⟨⟨cell_far (by decide) a0, cell_far (by decide) a1, cell_far (by decide) a2, cell_far (by decide) a3, cell_far (by decide) a4, cell_own a5⟩, froz_far b0, froz_far b1, froz_far b2, froz_far b3, froz_far b4, froz_far b5⟩
theorem TB6.put {w : World} {n : Nat} {x0 x1 x2 x3 x4 x5 : Value} (h : TB6 w n x0 x1 x2 x3 x4 x5) (y0 y1 y2 y3 y4 y5 : Value) : TB6 (put6 w n y0 y1 y2 y3 y4 y5) n y0 y1 y2 y3 y4 y5 :=
  (((((h.set0 y0).set1 y1).set2 y2).set3 y3).set4 y4).set5 y5
end Go.Proofs.YtnpgjlhnlakgpaaDoor

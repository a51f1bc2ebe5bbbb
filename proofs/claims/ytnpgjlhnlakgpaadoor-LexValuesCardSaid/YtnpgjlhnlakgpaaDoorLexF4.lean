/- Contracts of the lexer's words: the set of the words, whether a text is one. -/
import Derived.Test.YtnpgjlhnlakgpaaDoorLexF1
import Derived.Test.YtnpgjlhnlakgpaaDoorLexW
import Derived.Test.YtnpgjlhnlakgpaaDoorShelf
import Derived.Maps.AppendAt
import Derived.StringKeys
import Derived.Lib.AppendIntMem
namespace Go.Proofs.YtnpgjlhnlakgpaaDoor
open Go.RowKit Go.Maps Go.ChangeMaps Go.WideMaps

/-- The table of the ASCII blanks is as it is laid. -/
def Asc (w : World) : Prop := Go.Lib.TabIs Tryd.prog w "strings.asciiSpace" .u8 Go.Lib.asciiSpaceTab
theorem Asc.below {w w' : World} (h : Asc w) (hb : Below w.heap.size w w') : Asc w' := Go.Lib.tabBelow_of_tabIs h w' hb
theorem lawS : Keyed Tryd.prog 9 := string_keyed Tryd.underlying9
theorem zeroU (w : World) : (zeroValue 94).run Tryd.prog w = .ok (.agg #[]) w := by kernel_rfl
theorem keyS {s : ByteArray} (h : s.size ≤ maxLen) : keyOf Tryd.prog 9 (.string s) = some (.string s.data.toList) := keyOf_string_mk Tryd.underlying9 h
/-- A set of words, the first so many. -/
def WSet (w : World) (m k : Nat) : Prop := ∃ D : DataW Unit, w.ownsMap Tryd.prog 9 unitElem m k D ∧ IsMap D ∧ ∀ s, has D (.string s) = (wordL.take k).contains s
/-- The set of the words. -/
def WM (w : World) (m : Nat) : Prop := ∃ (n : Nat) (D : DataW Unit), w.ownsMap Tryd.prog 9 unitElem m n D ∧ ∀ s, has D (.string s) = isWord s
theorem WM.lt {w : World} {m : Nat} (h : WM w m) : m < w.heap.size := by obtain ⟨_, _, h, _⟩ := h; exact h.lt
theorem WM.of_block {w w' : World} {m : Nat} (h : WM w m) (h1 : w'.heap[m]? = w.heap[m]?) : WM w' m := by
  obtain ⟨n, D, ⟨es, clock, hb, r⟩, h2⟩ := h
  exact ⟨n, D, ⟨es, clock, by rw [h1]; exact hb, r⟩, h2⟩
theorem WM.kept {w w' : World} {m b : Nat} (h : WM w m) (hk : K1 b w w') (hb : m ≠ b) : WM w' m := h.of_block (hk.block m h.lt hb)
theorem WM.below {w w' : World} {m : Nat} (h : WM w m) (hB : Below w.heap.size w w') : WM w' m := h.of_block (hB.block m h.lt)
theorem words_ascii : ∀ (j : Nat) (b : UInt8), wordsT[j]? = some b → b.toNat < 128 := by
  intro j b h
  have hm := List.mem_of_getElem? h
  have : ∀ b ∈ wordsT, b.toNat < 128 := by decide +kernel
  exact this b hm
theorem words_fields : Lib.fields wordsT = wordL := by decide +kernel
theorem words_len : wordL.length = 50 := by decide +kernel
theorem fields_words (w : World) (h : Asc w) : Calls Tryd.prog 76 #[.string ⟨wordsT.toArray⟩] w fun e w' =>
      e = .returned (.slice (some ⟨w.heap.size, 0, none⟩) 50 50) ∧ w' = w.alloc (.cells (wordL.map fun l => Value.string ⟨l.toArray⟩).toArray 9) := by
  refine (Tryd.strings_Fields_laid ⟨wordsT.toArray⟩ w (by show wordsT.toArray.size < _; decide +kernel) (by simpa using words_ascii) h).mono ?_
  rintro e w' ⟨rfl, rfl⟩
  have e1 : Lib.fields (⟨wordsT.toArray⟩ : ByteArray).data.toList = wordL := words_fields
  rw [e1, words_len]
  exact ⟨rfl, rfl⟩
theorem word_cell (k : Nat) (hk : k < 50) : wordL[k]? = some (wordL.getD k []) ∧ (wordL.getD k []).length ≤ 20 := by
  have h := words_len
  rw [List.getD_eq_getElem?_getD, List.getElem?_eq_getElem (by omega)]
  exact ⟨rfl, (word_good _ (List.getElem_mem (by omega))).2.2⟩

theorem make_hint (n : Int) (w : World) : (Instr.makeMap 84 (some (.int .i64 n))).run Tryd.prog w = .ok (.map (some w.heap.size)) (w.alloc (.map #[] 0)) := by
  simp [Instr.makeMap, run_underlying Tryd.underlying84, asInt, asIntOf, Result.andThen]
theorem strE (s : List UInt8) : WideAt.IsKeyLit (.string s) := by simp [WideAt.IsKeyLit]
set_option maxRecDepth 100000 in
set_option maxHeartbeats 2000000 in
theorem words_any (w : World) (h : Asc w) : Calls Tryd.prog 49 #[] w fun e w' => e = .returned (.map (some (w.heap.size + 1))) ∧ WM w' (w.heap.size + 1) ∧ Below w.heap.size w w' := by
  have hmm := make_hint
  go_enter Tryd.func49, Tryd.ntmps49
  go_wp2_with (first | (go_at_call 76; refine (fields_words _ h).mono ?_; rintro e w' ⟨rfl, rfl⟩) | fail)
  have HA := Lib.hid h
  obtain ⟨W1, hW1⟩ : ∃ W1, w.alloc (.cells (wordL.map fun l => Value.string ⟨l.toArray⟩).toArray 9) = W1 := ⟨_, rfl⟩
  have hz : W1.heap.size = w.heap.size + 1 := by rw [← hW1]; simp
  have hB1 : Below w.heap.size w W1 := by rw [← hW1]; exact (Below.refl _ _).alloc (Nat.le_refl _) _
  have hcell : ∀ k, k < 50 → W1.cell? ⟨w.heap.size, k, none⟩ = some (.string ⟨(wordL.getD k []).toArray⟩) := by
    intro k hk
    rw [← hW1, World.cell?_alloc_new]
    rw [List.getElem?_toArray, List.getElem?_map, (word_cell k hk).1]
    rfl
  rw [hW1]
  clear hW1
  have HB1 := Lib.hid hB1
  have HC := Lib.hid hcell
  clear h hB1 hcell
  go_loopw [11] (fun iv wr => ∃ k : Nat, k ≤ 50 ∧ iv = .int .i64 k ∧ WSet wr (w.heap.size + 1) k ∧ Below (w.heap.size + 1) W1 wr) (fun iv _ => 50 - (intOf iv).toNat)
  case atStart =>
    refine ⟨0, by omega, rfl, ⟨.map [], ?_, ?_, fun s => rfl⟩, ?_⟩
    · have := World.ownsMap_made (H := Unit) W1 Tryd.prog 9 unitElem
      rwa [hz] at this
    · exact isMap_empty
    · exact (Below.refl _ _).alloc (by omega) _
  case round =>
    obtain ⟨k, hk, rfl, ⟨D, hown, hD, hhas⟩, hB⟩ := hrel
    have HOW := Lib.hid hown
    have HH := Lib.hid hhas
    have HB := Lib.hid hB
    have hs := hB.size
    have hcx : k < 50 → wr.cell? ⟨w.heap.size, k, none⟩ = some (.string ⟨(wordL.getD k []).toArray⟩) := fun h => (hB.cell (p := ⟨w.heap.size, k, none⟩) (by simp)).trans (HC.out k h)
    clear hown hhas hB
    by_cases hlt : k < 50
    · have hlti : (k : Int) < 50 := by omega
      replace hcx := hcx hlt
      obtain ⟨hx1, hx2⟩ := word_cell k hlt
      obtain ⟨x, hx⟩ : ∃ x, wordL.getD k [] = x := ⟨_, rfl⟩
      rw [hx] at hcx hx1 hx2
      have HK := Lib.hid (keyS (s := ⟨x.toArray⟩) (by show x.toArray.size ≤ maxLen; simp; unfold maxLen; omega))
      have HX := Lib.hid hx1
      clear hx hx1
      go_wp2_with (first
        | (at_mapUpdate; refine wpList_mapUpdate_own _ rfl _ _ _ 84 rfl 9 94 lawS Tryd.underlying84 (unitElem (H := Unit)) (w.heap.size + 1) k _ rfl HOW.out (by unfold maxLen; omega) _ _ _ rfl rfl HK.out _ [] unitElem_mk ?_; intro w1 hown1 hgrow1; have HO1 := Lib.hid hown1; have HG1 := Lib.hid hgrow1; clear hown1 hgrow1)
        | fail)
      go_roundw
      case rel =>
        refine ⟨k + 1, by omega, by go_num, ⟨_, HO1.out, hD.put _ _, ?_⟩, HB.out.grown HG1.out (by omega) (fun j hj => by cases hj; exact Nat.le_refl _)⟩
        intro s
        have htk : wordL.take (k + 1) = wordL.take k ++ [x] := by
          rw [List.take_add_one, HX.out]; rfl
        rw [htk]
        by_cases hsx : s = x
        · subst hsx
          have := has_put_same hD (strE s) (.agg [] : DataW Unit)
          rw [this]; simp
        · have := has_put_other (D := D) (k' := .string s) (k := .string x) (fun h => hsx (by injection h)) (.agg [] : DataW Unit)
          rw [this, HH.out]
          simp [hsx]
      case measure => simp [intOf]; omega
    · have hk50 : k = 50 := by omega
      subst hk50
      go_wp2_with fail
      go_ret
      refine ⟨rfl, ⟨50, D, HOW.out, fun s => ?_⟩, ?_⟩
      · rw [HH.out, List.take_of_length_le (by rw [words_len]; exact Nat.le_refl _)]; rfl
      · exact HB1.out.trans (HB.out.mono (by omega))
end Go.Proofs.YtnpgjlhnlakgpaaDoor

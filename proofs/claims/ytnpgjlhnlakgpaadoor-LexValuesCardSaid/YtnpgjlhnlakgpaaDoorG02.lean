/- Plain laws: the tokens of a value's literal; of a name in capitals. No program in sight. Plain laws: tokens shown one behind the other, blanks behind each, are the same tokens. No program in sight. -/
import Derived.Test.YtnpgjlhnlakgpaaDoorLexS
namespace Go.Proofs.YtnpgjlhnlakgpaaDoor

theorem empty_size {s : ByteArray} (h : s.toList.isEmpty = true) : s = ⟨#[]⟩ := by
  obtain ⟨⟨l⟩⟩ := s
  rw [ByteArray.toList_eq] at h
  simp at h
  rw [h]
/-- The kinds of a value that may be. -/
theorem right_cases {d : Dt} (h : rightD d = true) : (d.k = 0 ∧ d.i = 0 ∧ d.s = ⟨#[]⟩) ∨ (d.k = 1 ∧ (d.i = 0 ∨ d.i = 1) ∧ d.s = ⟨#[]⟩) ∨ ((d.k = 2 ∨ d.k = 3) ∧ d.s = ⟨#[]⟩) ∨ ((d.k = 4 ∨ d.k = 5) ∧ d.i = 0) := by
  obtain ⟨k, i, s⟩ := d
  simp only
  unfold rightD rightN at h
  simp only at h
  by_cases h4 : k = 4
  · rw [if_pos h4] at h
    simp only [Bool.and_eq_true, beq_iff_eq] at h
    exact .inr (.inr (.inr ⟨.inl h4, h.1⟩))
  · rw [if_neg h4] at h
    by_cases h0 : k = 0
    · rw [if_pos h0] at h
      simp only [Bool.and_eq_true, beq_iff_eq] at h
      exact .inl ⟨h0, h.1, empty_size h.2⟩
    · rw [if_neg h0] at h
      by_cases h1 : k = 1
      · rw [if_pos h1] at h
        simp only [Bool.and_eq_true, Bool.or_eq_true, beq_iff_eq] at h
        exact .inr (.inl ⟨h1, h.1, empty_size h.2⟩)
      · rw [if_neg h1] at h
        by_cases h2 : k = 2 ∨ k = 3
        · rw [if_pos h2] at h
          exact .inr (.inr (.inl ⟨h2, empty_size h⟩))
        · rw [if_neg h2] at h
          by_cases h5 : k = 5
          · rw [if_pos h5] at h
            simp only [Bool.and_eq_true, beq_iff_eq] at h
            exact .inr (.inr (.inr ⟨.inr h5, h.1⟩))
          · rw [if_neg h5] at h; cases h
theorem lex_value {d : Dt} (hr : rightD d = true) (hi : d.i ≤ 9223372036854775807) (hk : 2 ≤ d.k) (hn : ¬ ((d.k = 2 ∨ d.k = 3) ∧ d.i < 0)) :
    lexF (printF d) = .inr [⟨3, ⟨#[]⟩, d, 0⟩, endT (printF d).length] := by
  rcases right_cases hr with h | h | ⟨h, hs⟩ | ⟨h, h0⟩
  · omega
  · omega
  · obtain ⟨k, i, s⟩ := d
    simp only at h hs hi hn
    subst hs
    obtain ⟨h1, h2⟩ := print_num (k := k) (i := i) h (by omega) hi
    exact lexF_one h1 (by omega)
  · obtain ⟨k, i, s⟩ := d
    simp only at h h0
    subst h0
    rcases h with rfl | rfl
    · obtain ⟨h1, h2⟩ := print_text1 hr
      exact lexF_one h1 (by omega)
    · obtain ⟨h1, h2⟩ := print_bytes1 hr
      exact lexF_one h1 (by omega)
theorem lex_neg {d : Dt} (hr : rightD d = true) (hi : -9223372036854775808 ≤ d.i) (hk : d.k = 2 ∨ d.k = 3) (hn : d.i < 0) :
    ∃ n, lexF (printF d) = .inr [⟨4, ⟨#[45]⟩, Dt.zero, 0⟩, ⟨3, ⟨#[]⟩, ⟨d.k, amtV d.i.natAbs, ⟨#[]⟩⟩, 1⟩, endT n] ∧ d.s = ⟨#[]⟩ := by
  rcases right_cases hr with h | h | ⟨h, hs⟩ | ⟨h, h0⟩
  · omega
  · omega
  · obtain ⟨k, i, s⟩ := d
    simp only at h hs hi hn
    subst hs
    obtain ⟨sh, h1, h2, h3, h4⟩ := print_neg (k := k) (i := i) h hn hi
    rw [h1]
    exact ⟨_, lexF_minus h2 h3 (by omega), rfl⟩
  · omega
theorem lex_word {d : Dt} (hr : rightD d = true) (hk : d.k ≤ 1) :
    lexF (printF d) = .inr [⟨2, ⟨(printF d).toArray⟩, Dt.zero, 0⟩, endT (printF d).length] := by
  have hw : ∀ l : List UInt8, (l = [78, 85, 76, 76] ∨ l = [84, 82, 85, 69] ∨ l = [70, 65, 76, 83, 69]) → lexF l = .inr [⟨2, ⟨l.toArray⟩, Dt.zero, 0⟩, endT l.length] := by
    rintro l (rfl | rfl | rfl)
    all_goals exact lexF_one (print_word (by decide) (by decide) (by decide) (by decide) (by decide) (by decide +kernel)) (by decide)
  apply hw
  unfold printF
  rw [if_neg (by rw [hr]; decide)]
  rcases right_cases hr with ⟨h, _, _⟩ | ⟨h, _, _⟩ | ⟨h, hs⟩ | ⟨h, h0⟩
  · rw [if_neg (by omega), if_neg (by omega), if_neg (by omega), if_neg (by omega), if_neg (by omega)]; exact .inl rfl
  · rw [if_pos h]; split
    · exact .inr (.inl rfl)
    · exact .inr (.inr rfl)
  · omega
  · omega
theorem lex_name {l : List UInt8} (h : isNameF (l.map loB) = true) :
    lexF (l.map upB) = .inr [⟨1, ⟨(l.map loB).toArray⟩, Dt.zero, 0⟩, endT l.length] ∧ lexF (l.map loB) = .inr [⟨1, ⟨(l.map loB).toArray⟩, Dt.zero, 0⟩, endT l.length] := by
  obtain ⟨h1, h2⟩ := again_isName h
  have e : (l.map loB).map upB = l.map upB := by
    rw [List.map_map]
    apply List.map_congr_left
    intro c _
    exact up_lo c
  have hl : (l.map loB).length ≤ 20 := by
    simp only [isNameF, Bool.and_eq_true, decide_eq_true_eq] at h
    exact h.1.1.1.1.2
  rw [e, List.length_map] at h2
  have h3 := lexF_one h1 (by omega)
  rw [List.length_map] at h3
  exact ⟨h2, h3⟩
/-- The negative of a number, as the machine has it. -/
theorem neg_wrap {i : Int} (h0 : -9223372036854775808 ≤ i) (h1 : i < 0) : amtV i.natAbs = if i = -9223372036854775808 then -9223372036854775808 else -i := by
  unfold amtV
  by_cases h : i = -9223372036854775808
  · rw [if_pos h, if_pos (by omega)]
  · rw [if_neg h, if_neg (by omega)]; omega
end Go.Proofs.YtnpgjlhnlakgpaaDoor
namespace Go.Proofs.YtnpgjlhnlakgpaaDoor

/-- The first k tokens shown, each with its blanks. -/
def joinN (a : List Tk) (sep : Nat → List UInt8) : Nat → List UInt8
  | 0 => []
  | k + 1 => joinN a sep k ++ (match a[k]? with | some t => showF t.k t.s t.d ++ sep k | none => [])
theorem joinN_next {a : List Tk} {sep : Nat → List UInt8} {k : Nat} {t : Tk} (h : a[k]? = some t) : joinN a sep (k + 1) = joinN a sep k ++ (showF t.k t.s t.d ++ sep k) := by
  show joinN a sep k ++ _ = _
  rw [h]
theorem joinN_zip (a : List Tk) (sep : Nat → List UInt8) : ∀ k, k ≤ a.length → joinN a sep k = (a.zip ((List.range k).map sep)).flatMap fun x => showF x.1.k x.1.s x.1.d ++ x.2
  | 0, _ => by simp [joinN]
  | k + 1, h => by
    have hk : k < a.length := by omega
    rw [joinN_next (List.getElem?_eq_getElem hk), joinN_zip a sep k (by omega), List.range_succ, List.map_append]
    have e : a.zip ((List.range k).map sep ++ [k].map sep) = a.zip ((List.range k).map sep) ++ [(a[k], sep k)] := by
      conv => lhs; rw [← List.take_append_drop k a]
      rw [List.zip_append (by simp; omega)]
      have e2 : a.zip ((List.range k).map sep) = (a.take k).zip ((List.range k).map sep) := by
        conv => lhs; rw [← List.take_append_drop k a, ← List.append_nil ((List.range k).map sep)]
        rw [List.zip_append (by simp; omega)]
        simp
      rw [e2]
      have e3 : a.drop k = a[k] :: a.drop (k + 1) := List.drop_eq_getElem_cons hk
      rw [e3]
      simp only [List.map_cons, List.map_nil, List.zip_cons_cons, List.zip_nil_right]
    rw [e, List.flatMap_append]
    simp
theorem join_again {l : List UInt8} {a : List Tk} (h : lexF l = .inr a) (sep : Nat → List UInt8) (hs : ∀ k, SepOK (sep k)) (hl : (joinN a sep a.length).length ≤ 4000) :
    ∃ b, lexF (joinN a sep a.length) = .inr b ∧ b.map Tk.bare = a.map Tk.bare := by
  obtain ⟨_, _, ts, ha⟩ := lexF_count h
  have hlen : a.length = ts.length + 1 := by rw [ha]; simp
  have hat : a[ts.length]? = some (endT l.length) := by rw [ha]; simp
  have e : joinN a sep a.length = ((a.zip ((List.range ts.length).map sep)).flatMap fun x => showF x.1.k x.1.s x.1.d ++ x.2) ++ sep ts.length := by
    rw [hlen, joinN_next hat, joinN_zip a sep _ (by omega)]
    rfl
  rw [e] at hl ⊢
  refine lexF_again h ((List.range ts.length).map sep) (sep ts.length) (by simp [hlen]) (fun x hx => ?_) ?_ hl
  · obtain ⟨k, _, rfl⟩ := List.mem_map.1 hx
    exact hs k
  · have := (hs ts.length).2 []
    simpa [skipM] using this
theorem joinN_len {a : List Tk} (ha : ∀ t ∈ a, Tiny t.s t.d) (sep : Nat → List UInt8) {q : Nat} (hs : ∀ k, (sep k).length ≤ q) : ∀ k, (joinN a sep k).length ≤ k * (2100 + q)
  | 0 => by simp [joinN]
  | k + 1 => by
    have := joinN_len ha sep hs k
    show (joinN a sep k ++ _).length ≤ _
    rw [List.length_append, Nat.succ_mul]
    cases h : a[k]? with
    | none => simp; omega
    | some t =>
      have h1 := showF_len (k := t.k) (ha t (List.mem_of_getElem? h))
      have h2 := hs k
      simp only [List.length_append]; omega
theorem sep_one : SepOK [32] := ⟨⟨32, [], rfl, .inl rfl⟩, fun r => by simp [skipM, isBl]⟩
/-- What LexBlanks puts behind a token. -/
def sepB (many : List Int) (k : Nat) : List UInt8 := 10 :: (match many[k]? with
  | none => []
  | some x => if Int.tmod x 4 = 1 then [32, 9, 13, 10] else if Int.tmod x 4 = 2 then [45, 45, 32, 105, 116, 39, 115, 32, 40, 10] else if Int.tmod x 4 = 3 then [45, 45, 10, 45, 45, 10] else [])
theorem sepB_len (many : List Int) (k : Nat) : (sepB many k).length ≤ 20 := by
  unfold sepB
  split
  · simp
  · repeat' split
    all_goals simp
theorem sep_blanks (many : List Int) (k : Nat) : SepOK (sepB many k) := by
  refine ⟨⟨10, _, rfl, .inr rfl⟩, fun r => ?_⟩
  unfold sepB
  split
  · simp [skipM, isBl]
  · repeat' split
    all_goals
      simp [skipM, isBl]
    all_goals omega
end Go.Proofs.YtnpgjlhnlakgpaaDoor

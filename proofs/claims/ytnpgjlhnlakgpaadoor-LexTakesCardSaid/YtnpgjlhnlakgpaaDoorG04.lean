/- Plain laws of a text's runes, step by step: no quote is pending, or one is. No program in sight. Plain laws for the document's lexer: the rune at a head is the one beginning that is a rune alone; digits' amount in steps. No program in sight. Plain laws of bytes' digits: the bytes so far, with a half one at the end. No program in sight. Plain laws: each token of a text, shown, is that token again; tokens shown one behind the other with blanks between; literals. No program in sight. -/
import Derived.Test.YtnpgjlhnlakgpaaDoorLexA
import Derived.Lib.TrimUEq
import Derived.Test.YtnpgjlhnlakgpaaDoorLexD
import Derived.Test.YtnpgjlhnlakgpaaDoorRunes
import Derived.Test.YtnpgjlhnlakgpaaDoorPrintF
import Derived.Lib.Bytealg
namespace Go.Proofs.YtnpgjlhnlakgpaaDoor

/-- What stood ahead of a place is put ahead of what is told from there. -/
def preR (out : List UInt8) (n : Nat) : Option ((List UInt8 × Nat) ⊕ Nat) → Option ((List UInt8 × Nat) ⊕ Nat)
  | none => none
  | some (.inl (v, k)) => some (.inl (out ++ v, n + k))
  | some (.inr o) => some (.inr (n + o))
theorem preR_nil (x) : preR [] 0 x = x := by
  rcases x with _ | ⟨v, k⟩ | o <;> simp [preR]
theorem pre_bad {f c r out n} (h39 : c ≠ 39) (hb : badL (c :: r) = true) : preR out n (txtGo (f + 1) (c :: r)) = some (.inr n) := by
  rw [txtGo, if_neg h39, if_pos hb]; rfl
theorem pre_rune {f c r out n} (h39 : c ≠ 39) (hb : badL (c :: r) = false) :
    preR out n (txtGo (f + 1) (c :: r)) = preR (out ++ (c :: r).take (Lib.decodeL (c :: r)).2) (n + (Lib.decodeL (c :: r)).2) (txtGo f ((c :: r).drop (Lib.decodeL (c :: r)).2)) := by
  rw [txtGo, if_neg h39, if_neg (by rw [hb]; decide)]
  rcases txtGo f ((c :: r).drop (Lib.decodeL (c :: r)).2) with _ | ⟨v, k⟩ | o
  · rfl
  · simp [preR]; omega
  · simp [preR]; omega
theorem pre_two {f r out n} : preR out n (txtGo (f + 1) (39 :: 39 :: r)) = preR (out ++ [39]) (n + 2) (txtGo f r) := by
  rw [txtGo, if_pos rfl, if_pos (show (39 :: r : List UInt8).head? = some 39 from rfl)]
  show preR out n (match txtGo f r with | none => none | some (.inl (v, n)) => some (.inl (39 :: v, n + 2)) | some (.inr o) => some (.inr (o + 2))) = _
  rcases txtGo f r with _ | ⟨v, k⟩ | o
  · rfl
  · simp [preR]; omega
  · simp [preR]; omega
theorem pre_end {f r out n} (h : r.head? ≠ some 39) : preR out n (txtGo (f + 1) (39 :: r)) = some (.inl (out, n + 1)) := by
  rw [txtGo, if_pos rfl, if_neg h]; simp [preR]
/-- What a text's token is, of its runes. -/
def textR : Option ((List UInt8 × Nat) ⊕ Nat) → Rs
  | none => .bad 41 0
  | some (.inr o) => .bad 40 (1 + o)
  | some (.inl (v, n)) => if 1000 < v.length then .bad 2 0 else .ok 3 ⟨#[]⟩ ⟨4, 0, ⟨v.toArray⟩⟩ (1 + n)
theorem textF_of (l : List UInt8) : textF l = textR (txtGo l.length (l.drop 1)) := by
  unfold textF textR
  rcases txtGo l.length (l.drop 1) with _ | ⟨v, k⟩ | o <;> rfl
/-- A place that decodes to U+FFFD is bad just if these three bytes do not stand there. -/
theorem bad_prefix {l : List UInt8} (hne : l ≠ []) (h : (Lib.decodeL l).1 = 65533) : Lib.hasPrefix l [239, 191, 189] = !badL l := by
  have hb := decodeN_bad l.length (l.getD 0 0).toNat (l.getD 1 0).toNat (l.getD 2 0).toNat (l.getD 3 0).toNat
  rw [← Lib.decodeL_N] at hb
  unfold Lib.hasPrefix badL
  rcases hb h (l.getD 0 0).toNat_lt with ⟨h1, h2⟩ | ⟨h1, h2, h3, h4, h5⟩
  · have e : decide ((Lib.decodeL l).1 = 65533 ∧ (Lib.decodeL l).2 = 1) = true := by simp [h, h1]
    rw [e]
    show _ = false
    rw [Bool.eq_false_iff]
    intro hp
    apply h2
    rw [List.isPrefixOf_iff_prefix] at hp
    obtain ⟨t, rfl⟩ := hp
    simp
  · have e : decide ((Lib.decodeL l).1 = 65533 ∧ (Lib.decodeL l).2 = 1) = false := by simp [h1]
    rw [e]
    show _ = true
    rw [List.isPrefixOf_iff_prefix]
    match l, h2 with
    | a :: b :: c :: r, _ =>
      simp at h3 h4 h5
      have ea : a = 239 := UInt8.toNat_inj.1 h3
      have eb : b = 191 := UInt8.toNat_inj.1 h4
      have ec : c = 189 := UInt8.toNat_inj.1 h5
      subst ea; subst eb; subst ec
      exact ⟨r, rfl⟩
    | [_, _], h2 => simp at h2
    | [_], h2 => simp at h2
/-- A rune is the quote just if the byte is. -/
theorem rune39 {c : UInt8} {r : List UInt8} : (Lib.decodeL (c :: r)).1 = 39 ↔ c = 39 := by
  constructor
  · intro h
    by_cases hb : badL (c :: r) = true
    · simp only [badL, decide_eq_true_eq] at hb
      omega
    · simp only [badL, decide_eq_true_eq] at hb
      have he := Lib.encode_decode (c :: r) (by simp) hb
      rw [h] at he
      have hw := Lib.decodeL_width (c :: r)
      have h1 : Lib.encodeRune ((39 : Nat) : Int) = [39] := by decide
      rw [h1] at he
      obtain ⟨w, hw'⟩ : ∃ w, (Lib.decodeL (c :: r)).2 = w + 1 := ⟨_, (Nat.sub_add_cancel hw).symm⟩
      rw [hw'] at he
      simp at he
      exact he.1.symm
  · rintro rfl
    rw [Lib.decodeL_ascii 39 r (by decide)]; rfl
end Go.Proofs.YtnpgjlhnlakgpaaDoor
namespace Go.Proofs.YtnpgjlhnlakgpaaDoor

/-- How many bytes the rune at the head has; 0: none is there. -/
def runeF (l : List UInt8) : Nat := if badL l then 0 else (Lib.decodeL l).2
theorem decode_take (l : List UInt8) (i : Nat) : Utf8.decode (bs (l.take i)) 0 = Lib.decodeL (l.take i) := rfl
theorem bs_take_size (l : List UInt8) (i : Nat) (hi : i ≤ l.length) : (bs (l.take i)).size = i := by rw [bs_size, List.length_take]; omega
/-- A beginning of i bytes is just one rune. -/
theorem rune_one {l : List UInt8} {i : Nat} (h0 : 1 ≤ i) (hi : i ≤ l.length) : rgo (bs (l.take i)) i 0 = some 1 ↔ (badL l = false ∧ (Lib.decodeL l).2 = i) := by
  obtain ⟨f, rfl⟩ : ∃ f, i = f + 1 := ⟨i - 1, by omega⟩
  have hz := bs_take_size l (f + 1) hi
  have hne : l.take (f + 1) ≠ [] := by
    intro h
    have := congrArg List.length h
    rw [List.length_take, List.length_nil] at this
    omega
  have hw := step_pos (bs (l.take (f + 1))) 0
  have hle := Lib.decodeL_le (l.take (f + 1)) hne
  rw [List.length_take] at hle
  have hbad : badAt (bs (l.take (f + 1))) 0 = badL (l.take (f + 1)) := by
    rw [Bool.eq_iff_iff, badAt_iff]
    unfold badL
    rw [decode_take]
    simp
  rw [rgo, if_pos (by omega), hbad, Nat.zero_add]
  rw [decode_take] at hw ⊢
  have hnb : badL (l.take (f + 1)) = false → ¬ ((Lib.decodeL (l.take (f + 1))).1 = 65533 ∧ (Lib.decodeL (l.take (f + 1))).2 = 1) := fun h => by
    unfold badL at h
    simpa using h
  constructor
  · intro h
    cases hb : badL (l.take (f + 1)) with
    | true => rw [hb, if_pos rfl] at h; cases h
    | false =>
      rw [hb, if_neg (by decide)] at h
      have hn := hnb hb
      have hwi : (Lib.decodeL (l.take (f + 1))).2 = f + 1 := by
        have hm : rgo (bs (l.take (f + 1))) f (Lib.decodeL (l.take (f + 1))).2 = some 0 := by
          cases hr : rgo (bs (l.take (f + 1))) f (Lib.decodeL (l.take (f + 1))).2 with
          | none => rw [hr] at h; cases h
          | some m => rw [hr] at h; simp at h; rw [h]
        cases f with
        | zero => omega
        | succ g =>
          rw [rgo] at hm
          split at hm
          · split at hm
            · cases hm
            · cases hr : rgo (bs (l.take (g + 1 + 1))) g ((Lib.decodeL (l.take (g + 1 + 1))).2 + (Utf8.decode (bs (l.take (g + 1 + 1))) (Lib.decodeL (l.take (g + 1 + 1))).2).2) with
              | none => rw [hr] at hm; cases hm
              | some m => rw [hr] at hm; simp at hm
          · omega
      have hp := decode_prefix (l.take (f + 1)) (l.drop (f + 1)) hne hn
      rw [hwi, List.take_take, Nat.min_self, List.take_append_drop] at hp
      have hb' : badL l = badL (l.take (f + 1)) := by unfold badL; rw [hp]
      exact ⟨by rw [hb', hb], by rw [hp, hwi]⟩
  · rintro ⟨hb, hw2⟩
    have hne' : l ≠ [] := fun h => by subst h; simp at hi
    have hn : ¬ ((Lib.decodeL l).1 = 65533 ∧ (Lib.decodeL l).2 = 1) := by unfold badL at hb; simpa using hb
    have hp := decode_prefix l [] hne' hn
    rw [hw2, List.append_nil] at hp
    have hb' : badL (l.take (f + 1)) = false := by unfold badL at hb ⊢; rw [hp]; exact hb
    rw [hb', if_neg (by decide), hp, hw2, rgo_end (by omega)]
    rfl
theorem runeF_le {l : List UInt8} (hne : l ≠ []) : runeF l ≤ l.length ∧ runeF l ≤ 4 := by
  unfold runeF
  split
  · omega
  · have h1 := Lib.decodeL_le l hne
    refine ⟨h1, ?_⟩
    rw [Lib.decodeL_N l]
    rcases Lib.decodeN_shape l.length (l.getD 0 0).toNat (l.getD 1 0).toNat (l.getD 2 0).toNat (l.getD 3 0).toNat with ⟨c, e⟩ | ⟨c1, c2, c3, cv, e⟩ | ⟨c1, c2, c3, c4, cv, cs, e⟩ | ⟨c1, c2, c3, c4, c5, cv, cw, e⟩ | e <;> rw [e] <;> simp
theorem runeF_pos {l : List UInt8} (h : badL l = false) : 1 ≤ runeF l ∧ runeF l = (Lib.decodeL l).2 := by
  unfold runeF
  rw [if_neg (by rw [h]; decide)]
  exact ⟨step_pos _ 0, rfl⟩
theorem runeF_zero {l : List UInt8} : runeF l = 0 ↔ badL l = true := by
  unfold runeF
  split
  · rename_i h; simp [h]
  · rename_i h
    have := step_pos ⟨l.toArray⟩ 0
    have : 1 ≤ (Lib.decodeL l).2 := this
    simp [h]; omega
/-- What is known of the rune when beginnings shorter than k were tried. -/
def runeK (l : List UInt8) (k : Nat) : Nat := if runeF l < k then runeF l else 0
theorem runeK_next {l : List UInt8} {k : Nat} (h0 : 1 ≤ k) (hk : k ≤ l.length) : runeK l (k + 1) = if rgo (bs (l.take k)) k 0 = some 1 then k else runeK l k := by
  have h := rune_one h0 hk
  unfold runeK
  by_cases hr : rgo (bs (l.take k)) k 0 = some 1
  · rw [if_pos hr]
    obtain ⟨hb, hw⟩ := h.1 hr
    have := (runeF_pos hb).2
    rw [if_pos (by omega)]; omega
  · rw [if_neg hr]
    have hne : runeF l ≠ k := by
      intro he
      apply hr
      apply h.2
      have hb : badL l = false := by
        cases hb : badL l with
        | false => rfl
        | true => have := runeF_zero.2 hb; omega
      exact ⟨hb, by rw [← (runeF_pos hb).2]; exact he⟩
    by_cases hlt : runeF l < k
    · rw [if_pos hlt, if_pos (by omega)]
    · rw [if_neg hlt, if_neg (by omega)]
theorem runeK_one {l : List UInt8} : runeK l 1 = 0 := by unfold runeK; split <;> omega
theorem runeK_end {l : List UInt8} {k : Nat} (hne : l ≠ []) (h : 4 < k ∨ l.length < k) : runeK l k = runeF l := by
  have := runeF_le hne
  unfold runeK
  rw [if_pos (by omega)]
end Go.Proofs.YtnpgjlhnlakgpaaDoor
namespace Go.Proofs.YtnpgjlhnlakgpaaDoor

/-- The bytes of digits, the last one half if they are odd. -/
def hexB : List Nat → List UInt8
  | [] => []
  | [a] => [UInt8.ofNat (16 * a)]
  | a :: b :: r => UInt8.ofNat (16 * a + b) :: hexB r
theorem hexB_len : ∀ ds : List Nat, (hexB ds).length = (ds.length + 1) / 2
  | [] => rfl
  | [a] => by simp [hexB]
  | a :: b :: r => by
    have := hexB_len r
    simp only [hexB, List.length_cons, this]; omega
theorem hexB_even : ∀ (ds : List Nat) (d : Nat), ds.length % 2 = 0 → hexB (ds ++ [d]) = hexB ds ++ [UInt8.ofNat (16 * d)]
  | [], d, _ => rfl
  | [a], d, h => by simp at h
  | a :: b :: r, d, h => by
    have := hexB_even r d (by simp only [List.length_cons] at h; omega)
    simp only [List.cons_append, hexB, this]
theorem hexB_pairs : ∀ (ds : List Nat), ds.length % 2 = 0 → hexB ds = pairsF ds
  | [], _ => rfl
  | [a], h => by simp at h
  | a :: b :: r, h => by
    simp only [hexB, pairsF, hexB_pairs r (by simp only [List.length_cons] at h; omega)]
/-- The last digit, where they are odd; the byte that it is half of. -/
theorem hexB_odd : ∀ (ds : List Nat) (d : Nat), ds.length % 2 = 1 → (∀ x ∈ ds, x < 16) → d < 16 →
    ∃ a : Nat, a < 16 ∧ (hexB ds)[ds.length / 2]? = some (UInt8.ofNat (16 * a)) ∧ hexB (ds ++ [d]) = (hexB ds).set (ds.length / 2) (UInt8.ofNat (16 * a + d))
  | [], d, h, _, _ => by simp at h
  | [a], d, _, hx, _ => ⟨a, hx a (by simp), by simp [hexB], by simp [hexB]⟩
  | a :: b :: r, d, h, hx, hd => by
    obtain ⟨c, h1, h2, h3⟩ := hexB_odd r d (by simp only [List.length_cons] at h; omega) (fun x hxm => hx x (by simp [hxm])) hd
    have e : (a :: b :: r).length / 2 = r.length / 2 + 1 := by simp only [List.length_cons]; omega
    refine ⟨c, h1, ?_, ?_⟩
    · rw [e]; simpa [hexB] using h2
    · rw [e]; simp only [List.cons_append, hexB, h3, List.set_cons_succ]
theorem or_half : ∀ a : Fin 16, ∀ d : Fin 16, (16 * a.val) ||| d.val = 16 * a.val + d.val := by decide
theorem hex_idx : ∀ c : UInt8, (if Lib.indexByte [48, 49, 50, 51, 52, 53, 54, 55, 56, 57, 97, 98, 99, 100, 101, 102] (c ||| 32) < 0 ∨ c.toNat < 48 then none else some (Lib.indexByte [48, 49, 50, 51, 52, 53, 54, 55, 56, 57, 97, 98, 99, 100, 101, 102] (c ||| 32)).toNat) = hexv c := byte_all (by decide +kernel)
theorem hexv_lt : ∀ c : UInt8, ∀ d, hexv c = some d → d < 16 := by
  intro c
  have : ∀ c : UInt8, (hexv c).all (fun d => decide (d < 16)) = true := byte_all (by decide +kernel)
  intro d hd
  have := this c
  rw [hd] at this
  simpa using this
end Go.Proofs.YtnpgjlhnlakgpaaDoor
namespace Go.Proofs.YtnpgjlhnlakgpaaDoor

/-- A token as a text. -/
def showF (k : Int) (s : ByteArray) (d : Dt) : List UInt8 :=
  if k ≠ 3 then s.data.toList
  else if d.i = -9223372036854775808 ∧ d.k = 2 then [57, 50, 50, 51, 51, 55, 50, 48, 51, 54, 56, 53, 52, 55, 55, 53, 56, 48, 56]
  else if d.i = -9223372036854775808 ∧ d.k = 3 then [57, 50, 50, 51, 51, 55, 50, 48, 51, 54, 56, 53, 52, 55, 55, 46, 53, 56, 48, 56]
  else printF d

theorem amtV_pos {u : Nat} (h : u ≤ 9223372036854775808) (hi : amtV u ≠ -9223372036854775808) : amtV u = (u : Int) ∧ u < 9223372036854775808 := by
  unfold amtV at *
  split at hi
  · exact absurd rfl hi
  · rename_i h1; rw [if_neg h1]; exact ⟨rfl, by omega⟩
theorem right_num {k i : Int} (hk : k = 2 ∨ k = 3) : rightD ⟨k, i, ⟨#[]⟩⟩ = true := by
  unfold rightD rightN
  rcases hk with rfl | rfl <;> simp [ByteArray.toList_eq]
/-- A number's amount, shown, is that number. -/
theorem again_num {k : Int} (hk : k = 2 ∨ k = 3) {u : Nat} (hu : u ≤ 9223372036854775808) : AgainOK (showF 3 ⟨#[]⟩ ⟨k, amtV u, ⟨#[]⟩⟩) 3 ⟨#[]⟩ ⟨k, amtV u, ⟨#[]⟩⟩ := by
  unfold showF
  rw [if_neg (by simp)]
  by_cases hi : amtV u = -9223372036854775808
  · rcases hk with rfl | rfl
    · rw [if_pos ⟨hi, rfl⟩, hi]
      exact again_int (by simp) (by decide) (by decide)
    · rw [if_neg (by simp), if_pos ⟨hi, rfl⟩, hi]
      exact again_dec (a := [57, 50, 50, 51, 51, 55, 50, 48, 51, 54, 56, 53, 52, 55, 55]) (f := [53, 56, 48, 56]) (by simp) (by decide) rfl (by decide) (by decide)
  · rw [if_neg (fun h => hi h.1), if_neg (fun h => hi h.1)]
    obtain ⟨e, hlt⟩ := amtV_pos hu hi
    unfold printF
    rw [if_neg (by rw [right_num hk]; decide)]
    rcases hk with rfl | rfl
    · simp only [show (2 : Int) ≠ 1 by decide, if_false, if_true]
      obtain ⟨h1, h2, h3⟩ := amt_dec u
      have hp : Lib.itoa (amtV u) = Lib.decDigits u := by
        rw [e]; unfold Lib.itoa; rw [if_neg (by omega)]; simp
      rw [hp]
      have := again_int h3 h2 (by omega)
      rwa [h1] at this
    · simp only [show (3 : Int) ≠ 1 by decide, show (3 : Int) ≠ 2 by decide, if_false, if_true]
      obtain ⟨h1, h2, h3⟩ := amt_dec (u / 10000)
      have h4 := @amt_four (Lib.decDigits (u / 10000)) (u % 10000) (by omega)
      have hp : decL (amtV u) = Lib.decDigits (u / 10000) ++ 46 :: four (u % 10000) := by
        rw [e]; unfold decL; rw [if_neg (by omega)]; simp
      rw [hp]
      have hs : amtF (Lib.decDigits (u / 10000) ++ four (u % 10000)) = u := by rw [h4.1, h1]; omega
      have := again_dec h3 h2 (f := four (u % 10000)) rfl h4.2 (by rw [hs]; omega)
      rwa [hs] at this
theorem numEnd_bound {k ds n l k' s d n'} (h : numEnd k ds n l = .ok k' s d n') : k' = 3 ∧ s = ⟨#[]⟩ ∧ ∃ u, u ≤ 9223372036854775808 ∧ d = ⟨k, amtV u, ⟨#[]⟩⟩ := by
  unfold numEnd at h
  split at h
  · cases h
  · rename_i hc
    cases h
    exact ⟨rfl, rfl, amtF ds, by omega, rfl⟩
theorem again_numF {l : List UInt8} {k s d n} (h : numF l = .ok k s d n) : k = 3 ∧ AgainOK (showF k s d) k s d := by
  simp only [numF] at h
  split at h
  · obtain ⟨rfl, rfl, u, hu, rfl⟩ := numEnd_bound h
    exact ⟨rfl, again_num (.inl rfl) hu⟩
  · split at h
    · cases h
    · obtain ⟨rfl, rfl, u, hu, rfl⟩ := numEnd_bound h
      exact ⟨rfl, again_num (.inr rfl) hu⟩
theorem txt_valid : ∀ (f : Nat) (l v : List UInt8) (n : Nat), txtGo f l = some (.inl (v, n)) → Lib.validD v = true
  | 0, l, v, n, h => by simp [txtGo] at h
  | f + 1, [], v, n, h => by simp [txtGo] at h
  | f + 1, c :: r, v, n, h => by
    rw [txtGo] at h
    split at h
    · split at h
      · cases hx : txtGo f r.tail with
        | none => rw [hx] at h; cases h
        | some x =>
          rw [hx] at h
          rcases x with ⟨v', n'⟩ | o
          · have := txt_valid f _ v' n' hx
            cases h
            rwa [Lib.validD_cons _ _ (by decide)]
          · cases h
      · cases h; rfl
    · split at h
      · cases h
      · rename_i hb
        have hne : c :: r ≠ [] := by simp
        have hb' : ¬ ((Lib.decodeL (c :: r)).1 = 65533 ∧ (Lib.decodeL (c :: r)).2 = 1) := by simpa [badL] using hb
        have hle := Lib.decodeL_le _ hne
        have hw := Lib.decodeL_width (c :: r)
        cases hx : txtGo f ((c :: r).drop (Lib.decodeL (c :: r)).2) with
        | none => rw [hx] at h; cases h
        | some x =>
          rw [hx] at h
          rcases x with ⟨v', n'⟩ | o
          · have ih := txt_valid f _ v' n' hx
            have hp := decode_prefix _ v' hne hb'
            have hlen : ((c :: r).take (Lib.decodeL (c :: r)).2).length = (Lib.decodeL (c :: r)).2 := by rw [List.length_take]; omega
            cases h
            rw [Lib.validD_step _ (by intro h0; have := congrArg List.length h0; rw [List.length_append, hlen] at this; simp at this; omega), hp, if_neg hb', List.drop_left' hlen]
            exact ih
          · cases h
theorem print_text_eq {s : ByteArray} (h : rightD ⟨4, 0, s⟩ = true) : printF ⟨4, 0, s⟩ = 39 :: (quoted s.data.toList ++ [39]) := by
  unfold printF
  rw [if_neg (by rw [h]; decide)]
  rfl
theorem right_text {v : List UInt8} (hv : Lib.validD v = true) (hl : v.length ≤ 1000) : rightD ⟨4, 0, ⟨v.toArray⟩⟩ = true := by
  unfold rightD
  rw [if_pos rfl]
  have e : ((⟨v.toArray⟩ : ByteArray).size) = v.length := rfl
  simp [e, hl, hv]
theorem again_textF {l : List UInt8} {k s d n} (h : textF l = .ok k s d n) : k = 3 ∧ AgainOK (showF k s d) k s d := by
  unfold textF at h
  split at h
  · cases h
  · cases h
  · rename_i v m hx
    have hv := txt_valid _ _ _ _ hx
    split at h
    · cases h
    · rename_i hl
      cases h
      refine ⟨rfl, ?_⟩
      unfold showF
      rw [if_neg (by simp), if_neg (by simp), if_neg (by simp), print_text_eq (right_text hv (by omega))]
      exact again_text hv (Nat.le_of_not_lt hl)
theorem right_bytes {v : List UInt8} (hl : v.length ≤ 1000) : rightD ⟨5, 0, ⟨v.toArray⟩⟩ = true := by
  unfold rightD rightN
  have e : ((⟨v.toArray⟩ : ByteArray).size) = v.length := rfl
  simp [e, hl]
theorem again_bytesF {l : List UInt8} {k s d n} (h : bytesF l = .ok k s d n) : k = 3 ∧ AgainOK (showF k s d) k s d := by
  unfold bytesF at h
  split at h
  · cases h
  · cases h
  · split at h
    · cases h
    · split at h
      · cases h
      · rename_i ds _ _ hl
        cases h
        refine ⟨rfl, ?_⟩
        unfold showF
        rw [if_neg (by simp), if_neg (by simp), if_neg (by simp)]
        have hp : printF ⟨5, 0, ⟨(pairsF ds).toArray⟩⟩ = 120 :: 39 :: (hexed (pairsF ds) ++ [39]) := by
          unfold printF
          rw [if_neg (by rw [right_bytes (by omega)]; decide)]
          rfl
        rw [hp]
        exact again_bytes (by omega)
theorem again_symF {l : List UInt8} {k s d n} (hne : l ≠ []) (h : symF l = .ok k s d n) : k = 4 ∧ AgainOK s.data.toList k s d := by
  unfold symF at h
  split at h
  · rename_i h2
    cases h
    exact ⟨rfl, again_sym2 h2⟩
  · split at h
    · rename_i h1
      cases h
      cases l with
      | nil => exact absurd rfl hne
      | cons c r =>
        refine ⟨rfl, ?_⟩
        exact again_sym1 (c := c) (by simpa using h1)
    · cases h
/-- Each token, shown, is that token. -/
theorem again_tok {l : List UInt8} {k s d n} (hne : l ≠ []) (h : tokF l = .ok k s d n) : AgainOK (showF k s d) k s d := by
  have hs : k ≠ 3 → showF k s d = s.data.toList := fun h => by unfold showF; rw [if_pos h]
  simp only [tokF] at h
  split at h
  · exact (again_bytesF h).2
  · split at h
    · rename_i hl
      obtain ⟨h1, h2⟩ := again_name hl hne h
      rw [hs (by omega)]; exact h2
    · split at h
      · exact (again_numF h).2
      · split at h
        · exact (again_textF h).2
        · obtain ⟨h1, h2⟩ := again_symF hne h
          rw [hs (by omega)]; exact h2
theorem again_all : ∀ (f : Nat) (l : List UInt8) (p n : Nat) (ts : List Tk), lexGo f l p n = .inr ts → ∀ t ∈ ts, AgainOK (showF t.k t.s t.d) t.k t.s t.d
  | 0, _, _, _, _, h => by simp only [lexGo] at h; cases h; simp
  | f + 1, l, p, n, ts, h => by
    simp only [lexGo] at h
    split at h
    · cases h; simp
    · rename_i hne
      split at h
      · cases h
      · split at h
        · cases h
        · rename_i ht
          split at h
          · cases h
          · rename_i hx
            cases h
            intro t htm
            rcases List.mem_cons.1 htm with rfl | htm
            · exact again_tok hne ht
            · exact again_all f _ _ _ _ hx t htm
theorem lexGo_count : ∀ (f : Nat) (l : List UInt8) (p n : Nat) (ts : List Tk), n ≤ 1000 → lexGo f l p n = .inr ts → n + ts.length ≤ 1000
  | 0, _, _, _, _, hn, h => by simp only [lexGo] at h; cases h; simpa using hn
  | f + 1, l, p, n, ts, hn, h => by
    simp only [lexGo] at h
    split at h
    · cases h; simpa using hn
    · split at h
      · cases h
      · rename_i h1
        split at h
        · cases h
        · split at h
          · cases h
          · rename_i hx
            cases h
            have := lexGo_count f _ _ _ _ (by omega) hx
            simp only [List.length_cons]; omega
/-- Blanks that can stand between two tokens. -/
def SepOK (sp : List UInt8) : Prop := (∃ c x, sp = c :: x ∧ (c = 32 ∨ c = 10)) ∧ ∀ r, skipM false (sp ++ r) = sp.length + skipM false r
def Tk.bare (t : Tk) : Tk := ⟨t.k, t.s, t.d, 0⟩
/-- Tokens shown one behind the other, blanks between them, and blanks at the end, are these tokens. -/
theorem lex_join (tl : List UInt8) (htl : skipM false tl = tl.length) : ∀ (l : List (Tk × List UInt8)) (f p n : Nat) (pre : List UInt8), (∀ x ∈ l, AgainOK (showF x.1.k x.1.s x.1.d) x.1.k x.1.s x.1.d ∧ SepOK x.2) → n + l.length ≤ 1000 →
    (∀ r, skipM false (pre ++ r) = pre.length + skipM false r) →
    (pre ++ ((l.flatMap fun x => showF x.1.k x.1.s x.1.d ++ x.2) ++ tl)).length < f →
    ∃ ts, lexGo f (pre ++ ((l.flatMap fun x => showF x.1.k x.1.s x.1.d ++ x.2) ++ tl)) p n = .inr ts ∧ ts.map Tk.bare = l.map fun x => x.1.bare
  | l, 0, _, _, _, _, _, _, h => by omega
  | [], f + 1, p, n, pre, _, _, hpre, _ => by
    refine ⟨[], ?_, rfl⟩
    have h1 := hpre tl
    simp only [List.flatMap_nil, List.nil_append] at h1 ⊢
    simp only [lexGo, h1, htl]
    rw [if_pos (by simp)]
  | (t, sp) :: l, f + 1, p, n, pre, hall, hn, hpre, hf => by
    obtain ⟨⟨hne, hag⟩, ⟨c, x, hc, hcb⟩, hsk⟩ := hall (t, sp) (by simp)
    simp only at hne hag hc hcb hsk
    simp only [List.flatMap_cons, List.append_assoc] at hf ⊢
    generalize hR : ((l.flatMap fun x => showF x.1.k x.1.s x.1.d ++ x.2) ++ tl) = R at *
    obtain ⟨a1, a2⟩ := hag (sp ++ R) (.inr ⟨c, x ++ R, by rw [hc]; rfl, hcb⟩)
    simp only [List.length_cons] at hn
    have hs1 : 1 ≤ (showF t.k t.s t.d).length := List.length_pos_iff.2 hne
    obtain ⟨ts, h1, h2⟩ := lex_join tl htl l f (p + pre.length + (showF t.k t.s t.d).length) (n + 1) sp (fun y hy => hall y (by simp [hy])) (by omega) hsk (by
      rw [hR]
      simp only [List.length_append] at hf ⊢
      omega)
    rw [hR] at h1
    refine ⟨⟨t.k, t.s, t.d, p + pre.length⟩ :: ts, ?_, by simp [h2, Tk.bare]⟩
    have hb : skipM false (pre ++ (showF t.k t.s t.d ++ (sp ++ R))) = pre.length := by rw [hpre, a1]; rfl
    simp only [lexGo, hb]
    rw [List.drop_left, if_neg (by simp [hne]), if_neg (by omega), a2]
    simp only
    rw [List.drop_left, h1]
end Go.Proofs.YtnpgjlhnlakgpaaDoor

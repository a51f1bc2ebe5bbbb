/- Plain laws of bytes' digits: the bytes so far, with a half one at the end. No program in sight. Plain laws of a text's runes, step by step: no quote is pending, or one is. No program in sight. -/
import Derived.Test.YtnpgjlhnlakgpaaDoorLexA
import Derived.Lib.Bytealg
import Derived.Lib.TrimUEq
namespace Go.Proofs.YtnpgjlhnlakgpaaDoor

/-- The bytes of digits, the last one half if they are odd. -/
def hexB : List Nat → List UInt8
  | [] => []
  | [a] => [UInt8.ofNat (16 * a)]
  | a :: b :: r => UInt8.ofNat (16 * a + b) :: hexB r
theorem hexB_len : ∀ ds : List Nat, (hexB ds).length = (ds.length + 1) / 2
  | [] => rfl
  | [a] => by simp [hexB]
  | a :: b :: r => by
    have := hexB_len r
    simp only [hexB, List.length_cons, this]; omega
theorem hexB_even : ∀ (ds : List Nat) (d : Nat), ds.length % 2 = 0 → hexB (ds ++ [d]) = hexB ds ++ [UInt8.ofNat (16 * d)]
  | [], d, _ => rfl
  | [a], d, h => by simp at h
  | a :: b :: r, d, h => by
    have := hexB_even r d (by simp only [List.length_cons] at h; omega)
    simp only [List.cons_append, hexB, this]
theorem hexB_pairs : ∀ (ds : List Nat), ds.length % 2 = 0 → hexB ds = pairsF ds
  | [], _ => rfl
  | [a], h => by simp at h
  | a :: b :: r, h => by
    simp only [hexB, pairsF, hexB_pairs r (by simp only [List.length_cons] at h; omega)]
/-- The last digit, where they are odd; the byte that it is half of. -/
theorem hexB_odd : ∀ (ds : List Nat) (d : Nat), ds.length % 2 = 1 → (∀ x ∈ ds, x < 16) → d < 16 →
    ∃ a : Nat, a < 16 ∧ (hexB ds)[ds.length / 2]? = some (UInt8.ofNat (16 * a)) ∧ hexB (ds ++ [d]) = (hexB ds).set (ds.length / 2) (UInt8.ofNat (16 * a + d))
  | [], d, h, _, _ => by simp at h
  | [a], d, _, hx, _ => ⟨a, hx a (by simp), by simp [hexB], by simp [hexB]⟩
  | a :: b :: r, d, h, hx, hd => by
    obtain ⟨c, h1, h2, h3⟩ := hexB_odd r d (by simp only [List.length_cons] at h; omega) (fun x hxm => hx x (by simp [hxm])) hd
    have e : (a :: b :: r).length / 2 = r.length / 2 + 1 := by simp only [List.length_cons]; omega
    refine ⟨c, h1, ?_, ?_⟩
    · rw [e]; simpa [hexB] using h2
    · rw [e]; simp only [List.cons_append, hexB, h3, List.set_cons_succ]
theorem or_half : ∀ a : Fin 16, ∀ d : Fin 16, (16 * a.val) ||| d.val = 16 * a.val + d.val := by decide
theorem hex_idx : ∀ c : UInt8, (if Lib.indexByte [48, 49, 50, 51, 52, 53, 54, 55, 56, 57, 97, 98, 99, 100, 101, 102] (c ||| 32) < 0 ∨ c.toNat < 48 then none else some (Lib.indexByte [48, 49, 50, 51, 52, 53, 54, 55, 56, 57, 97, 98, 99, 100, 101, 102] (c ||| 32)).toNat) = hexv c := byte_all (by decide +kernel)
theorem hexv_lt : ∀ c : UInt8, ∀ d, hexv c = some d → d < 16 := by
  intro c
  have : ∀ c : UInt8, (hexv c).all (fun d => decide (d < 16)) = true := byte_all (by decide +kernel)
  intro d hd
  have := this c
  rw [hd] at this
  simpa using this
end Go.Proofs.YtnpgjlhnlakgpaaDoor
namespace Go.Proofs.YtnpgjlhnlakgpaaDoor

/-- What stood ahead of a place is put ahead of what is told from there. -/
def preR (out : List UInt8) (n : Nat) : Option ((List UInt8 × Nat) ⊕ Nat) → Option ((List UInt8 × Nat) ⊕ Nat)
  | none => none
  | some (.inl (v, k)) => some (.inl (out ++ v, n + k))
  | some (.inr o) => some (.inr (n + o))
theorem preR_nil (x) : preR [] 0 x = x := by
  rcases x with _ | ⟨v, k⟩ | o <;> simp [preR]
theorem pre_bad {f c r out n} (h39 : c ≠ 39) (hb : badL (c :: r) = true) : preR out n (txtGo (f + 1) (c :: r)) = some (.inr n) := by
  rw [txtGo, if_neg h39, if_pos hb]; rfl
theorem pre_rune {f c r out n} (h39 : c ≠ 39) (hb : badL (c :: r) = false) :
    preR out n (txtGo (f + 1) (c :: r)) = preR (out ++ (c :: r).take (Lib.decodeL (c :: r)).2) (n + (Lib.decodeL (c :: r)).2) (txtGo f ((c :: r).drop (Lib.decodeL (c :: r)).2)) := by
  rw [txtGo, if_neg h39, if_neg (by rw [hb]; decide)]
  rcases txtGo f ((c :: r).drop (Lib.decodeL (c :: r)).2) with _ | ⟨v, k⟩ | o
  · rfl
  · simp [preR]; omega
  · simp [preR]; omega
theorem pre_two {f r out n} : preR out n (txtGo (f + 1) (39 :: 39 :: r)) = preR (out ++ [39]) (n + 2) (txtGo f r) := by
  rw [txtGo, if_pos rfl, if_pos (show (39 :: r : List UInt8).head? = some 39 from rfl)]
  show preR out n (match txtGo f r with | none => none | some (.inl (v, n)) => some (.inl (39 :: v, n + 2)) | some (.inr o) => some (.inr (o + 2))) = _
  rcases txtGo f r with _ | ⟨v, k⟩ | o
  · rfl
  · simp [preR]; omega
  · simp [preR]; omega
theorem pre_end {f r out n} (h : r.head? ≠ some 39) : preR out n (txtGo (f + 1) (39 :: r)) = some (.inl (out, n + 1)) := by
  rw [txtGo, if_pos rfl, if_neg h]; simp [preR]
/-- What a text's token is, of its runes. -/
def textR : Option ((List UInt8 × Nat) ⊕ Nat) → Rs
  | none => .bad 41 0
  | some (.inr o) => .bad 40 (1 + o)
  | some (.inl (v, n)) => if 1000 < v.length then .bad 2 0 else .ok 3 ⟨#[]⟩ ⟨4, 0, ⟨v.toArray⟩⟩ (1 + n)
theorem textF_of (l : List UInt8) : textF l = textR (txtGo l.length (l.drop 1)) := by
  unfold textF textR
  rcases txtGo l.length (l.drop 1) with _ | ⟨v, k⟩ | o <;> rfl
/-- A place that decodes to U+FFFD is bad just if these three bytes do not stand there. -/
theorem bad_prefix {l : List UInt8} (hne : l ≠ []) (h : (Lib.decodeL l).1 = 65533) : Lib.hasPrefix l [239, 191, 189] = !badL l := by
  have hb := decodeN_bad l.length (l.getD 0 0).toNat (l.getD 1 0).toNat (l.getD 2 0).toNat (l.getD 3 0).toNat
  rw [← Lib.decodeL_N] at hb
  unfold Lib.hasPrefix badL
  rcases hb h (l.getD 0 0).toNat_lt with ⟨h1, h2⟩ | ⟨h1, h2, h3, h4, h5⟩
  · have e : decide ((Lib.decodeL l).1 = 65533 ∧ (Lib.decodeL l).2 = 1) = true := by simp [h, h1]
    rw [e]
    show _ = false
    rw [Bool.eq_false_iff]
    intro hp
    apply h2
    rw [List.isPrefixOf_iff_prefix] at hp
    obtain ⟨t, rfl⟩ := hp
    simp
  · have e : decide ((Lib.decodeL l).1 = 65533 ∧ (Lib.decodeL l).2 = 1) = false := by simp [h1]
    rw [e]
    show _ = true
    rw [List.isPrefixOf_iff_prefix]
    match l, h2 with
    | a :: b :: c :: r, _ =>
      simp at h3 h4 h5
      have ea : a = 239 := UInt8.toNat_inj.1 h3
      have eb : b = 191 := UInt8.toNat_inj.1 h4
      have ec : c = 189 := UInt8.toNat_inj.1 h5
      subst ea; subst eb; subst ec
      exact ⟨r, rfl⟩
    | [_, _], h2 => simp at h2
    | [_], h2 => simp at h2
/-- A rune is the quote just if the byte is. -/
theorem rune39 {c : UInt8} {r : List UInt8} : (Lib.decodeL (c :: r)).1 = 39 ↔ c = 39 := by
  constructor
  · intro h
    by_cases hb : badL (c :: r) = true
    · simp only [badL, decide_eq_true_eq] at hb
      omega
    · simp only [badL, decide_eq_true_eq] at hb
      have he := Lib.encode_decode (c :: r) (by simp) hb
      rw [h] at he
      have hw := Lib.decodeL_width (c :: r)
      have h1 : Lib.encodeRune ((39 : Nat) : Int) = [39] := by decide
      rw [h1] at he
      obtain ⟨w, hw'⟩ : ∃ w, (Lib.decodeL (c :: r)).2 = w + 1 := ⟨_, (Nat.sub_add_cancel hw).symm⟩
      rw [hw'] at he
      simp at he
      exact he.1.symm
  · rintro rfl
    rw [Lib.decodeL_ascii 39 r (by decide)]; rfl
end Go.Proofs.YtnpgjlhnlakgpaaDoor

/- Plain laws of a whole text: its tokens' places; its tokens shown again; literals and names. No program in sight. -/
import Derived.Test.YtnpgjlhnlakgpaaDoorLexB
namespace Go.Proofs.YtnpgjlhnlakgpaaDoor

/-- The end of a text. -/
abbrev endT (n : Nat) : Tk := ⟨0, ⟨#[]⟩, Dt.zero, n⟩
theorem lexF_inr {l : List UInt8} {a : List Tk} (h : lexF l = .inr a) : l.length ≤ 4000 ∧ ∃ ts, lexGo (l.length + 1) l 0 0 = .inr ts ∧ a = ts ++ [endT l.length] := by
  unfold lexF at h
  split at h
  · cases h
  · rename_i hc
    split at h
    · cases h
    · rename_i ts hx
      cases h
      exact ⟨by omega, ts, hx, rfl⟩
theorem lexF_of {l : List UInt8} {ts : List Tk} (h : l.length ≤ 4000) (hx : lexGo (l.length + 1) l 0 0 = .inr ts) : lexF l = .inr (ts ++ [endT l.length]) := by
  unfold lexF
  rw [if_neg (by omega), hx]
theorem lexGo_err : ∀ (f : Nat) (l : List UInt8) (p q n : Nat) (e : Int × Nat), lexGo f l p n = .inl e → lexGo f l (p + q) n = .inl (e.1, e.2 + q)
  | 0, _, _, _, _, e, h => by simp only [lexGo] at h; cases h
  | f + 1, l, p, q, n, e, h => by
    simp only [lexGo] at h ⊢
    split
    · rename_i hc; rw [if_pos hc] at h; cases h
    · rename_i hc
      rw [if_neg hc] at h
      split
      · rename_i h1; rw [if_pos h1] at h; cases h; simp only [Sum.inl.injEq, Prod.mk.injEq, true_and]; omega
      · rename_i h1
        rw [if_neg h1] at h
        cases ht : tokF (l.drop (skipM false l)) with
        | bad e' o => rw [ht] at h; cases h; simp only [Sum.inl.injEq, Prod.mk.injEq, true_and]; omega
        | ok k s d m =>
          rw [ht] at h
          simp only at h ⊢
          cases hx : lexGo f ((l.drop (skipM false l)).drop m) (p + skipM false l + m) (n + 1) with
          | inr x => rw [hx] at h; cases h
          | inl e' =>
            rw [hx] at h
            have := lexGo_err f _ _ q _ e' hx
            rw [show p + q + skipM false l + m = p + skipM false l + m + q by omega, this]
            cases h
            rfl
theorem drop_at {α : Type} {ts : List α} {i : Nat} {t : α} (hi : ts[i]? = some t) : ts.drop i = t :: ts.drop (i + 1) := by
  obtain ⟨hlt', hg⟩ := List.getElem?_eq_some_iff.1 hi
  rw [List.drop_eq_getElem_cons hlt', hg]
/-- Where tokens stand, and what the text from one of them on is. -/
theorem lexF_from {l : List UInt8} {a : List Tk} (h : lexF l = .inr a) (i : Nat) (t : Tk) (hi : a[i]? = some t) :
    t.pos ≤ l.length ∧ (∀ u : Tk, 0 < i → a[i - 1]? = some u → u.pos < t.pos) ∧ ∃ b u, lexF (l.drop t.pos) = .inr (u :: b) ∧ b.length + 1 = a.length - i ∧ u.k = t.k ∧ u.s = t.s ∧ u.d = t.d ∧ u.pos = 0 := by
  obtain ⟨h4, ts, hx, rfl⟩ := lexF_inr h
  by_cases hlt : i < ts.length
  · rw [List.getElem?_append_left hlt] at hi
    obtain ⟨a1, a2, a3, g, a4, a5⟩ := lexGo_from _ _ _ _ _ (Nat.lt_succ_self _) hx i t hi
    refine ⟨by omega, fun u h0 hu => a3 u h0 (by rwa [List.getElem?_append_left (by omega)] at hu), ?_⟩
    simp only [Nat.sub_zero] at a4 a5
    rw [lexGo_fuel g ((l.drop t.pos).length + 1) _ t.pos 0 a4 (Nat.lt_succ_self _)] at a5
    rw [drop_at hi] at a5
    cases hy : lexGo ((l.drop t.pos).length + 1) (l.drop t.pos) 0 0 with
    | inl e =>
      have := lexGo_err _ _ 0 t.pos 0 e hy
      rw [Nat.zero_add, a5] at this
      cases this
    | inr ts' =>
      have := lexGo_shift _ _ 0 t.pos 0 ts' hy
      rw [Nat.zero_add, a5] at this
      injection this with this
      cases ts' with
      | nil => cases this
      | cons u ts' =>
        rw [List.map_cons, List.cons.injEq] at this
        obtain ⟨k3, k4⟩ := this
        refine ⟨ts' ++ [endT (l.drop t.pos).length], u, lexF_of (by rw [List.length_drop]; omega) hy, ?_, ?_⟩
        · have h1 := congrArg List.length k4
          simp only [List.length_map, List.length_drop] at h1
          simp only [List.length_append, List.length_cons, List.length_nil]
          omega
        · rw [k3]
          refine ⟨rfl, rfl, rfl, ?_⟩
          have := congrArg Tk.pos k3
          simp only [Tk.shift] at this
          omega
  · obtain ⟨hlt2, _⟩ := List.getElem?_eq_some_iff.1 hi
    simp only [List.length_append, List.length_cons, List.length_nil] at hlt2
    have he : i = ts.length := by omega
    subst he
    simp only [List.getElem?_append_right (Nat.le_refl _), Nat.sub_self, List.getElem?_cons_zero, Option.some.injEq] at hi
    subst hi
    refine ⟨Nat.le_refl _, ?_, ?_⟩
    · intro u h0 hu
      rw [List.getElem?_append_left (by omega)] at hu
      obtain ⟨_, a2, _⟩ := lexGo_from _ _ _ _ _ (Nat.lt_succ_self _) hx _ u hu
      simpa using a2
    · simp only [List.drop_length]
      exact ⟨[], endT 0, rfl, by simp, rfl, rfl, rfl, rfl⟩

/-- A token alone. -/
theorem lexF_one {sh : List UInt8} {k s d} (h : AgainOK sh k s d) (hl : sh.length ≤ 4000) : lexF sh = .inr [⟨k, s, d, 0⟩, endT sh.length] := by
  have hr := h.2 [] (.inl rfl)
  rw [List.append_nil] at hr
  have hp : 1 ≤ sh.length := List.length_pos_iff.2 h.1
  refine lexF_of (ts := [⟨k, s, d, 0⟩]) hl ?_
  simp only [lexGo, hr.1, List.drop_zero]
  rw [if_neg h.1, if_neg (by omega), hr.2]
  simp only
  rw [List.drop_length]
  obtain ⟨f, hf⟩ : ∃ f, sh.length = f + 1 := ⟨sh.length - 1, by omega⟩
  rw [hf]
  simp [lexGo]
/-- A minus, and a token behind it that begins with no minus. -/
theorem lexF_minus {sh : List UInt8} {k s d} (h : AgainOK sh k s d) (hm : sh.head? ≠ some 45) (hl : sh.length ≤ 3999) : lexF (45 :: sh) = .inr [⟨4, ⟨#[45]⟩, Dt.zero, 0⟩, ⟨k, s, d, 1⟩, endT (45 :: sh).length] := by
  have hr := h.2 [] (.inl rfl)
  rw [List.append_nil] at hr
  have hp : 1 ≤ sh.length := List.length_pos_iff.2 h.1
  refine lexF_of (ts := [⟨4, ⟨#[45]⟩, Dt.zero, 0⟩, ⟨k, s, d, 1⟩]) (by simp; omega) ?_
  have h0 : skipM false (45 :: sh) = 0 := skip_head (by decide) (fun h => hm h.2)
  have h1 : tokF (45 :: sh) = .ok 4 ⟨#[45]⟩ Dt.zero 1 := by
    rw [tokF_cons, if_neg (fun h => by rcases h.1 with h | h <;> exact absurd h (by decide)), if_neg (by decide), if_neg (by decide), if_neg (by decide)]
    unfold symF
    have : sym2 ((45 :: sh).take 2) = false := by cases sh <;> simp [sym2]
    rw [if_neg (by rw [this]; decide), if_pos (by simp; decide)]
    simp
  obtain ⟨f, hf⟩ : ∃ f, sh.length = f + 1 := ⟨sh.length - 1, by omega⟩
  rw [List.length_cons, hf]
  simp only [lexGo, h0, List.drop_zero]
  rw [if_neg (by simp), if_neg (by omega), h1]
  simp only [List.drop_succ_cons, List.drop_zero, hr.1]
  rw [if_neg h.1, if_neg (by omega), hr.2]
  simp only
  rw [List.drop_length]
  simp [skipM]

/-- Tokens shown again, blanks between them. -/
theorem lexF_again {l : List UInt8} {a : List Tk} (h : lexF l = .inr a) (sp : List (List UInt8)) (tl : List UInt8) (hn : sp.length + 1 = a.length) (hsp : ∀ x ∈ sp, SepOK x) (htl : skipM false tl = tl.length)
    (hl : (((a.zip sp).flatMap fun x => showF x.1.k x.1.s x.1.d ++ x.2) ++ tl).length ≤ 4000) :
    ∃ b, lexF (((a.zip sp).flatMap fun x => showF x.1.k x.1.s x.1.d ++ x.2) ++ tl) = .inr b ∧ b.map Tk.bare = a.map Tk.bare := by
  obtain ⟨h4, ts, hx, rfl⟩ := lexF_inr h
  have hlen : sp.length = ts.length := by simpa using hn
  have hz : (ts ++ [endT l.length]).zip sp = ts.zip sp := by
    rw [← List.append_nil sp, List.zip_append hlen.symm]
    simp
  rw [hz] at hl ⊢
  have hcount := lexGo_count _ _ _ _ _ (by omega) hx
  obtain ⟨us, h1, h2⟩ := lex_join tl htl (ts.zip sp) _ 0 0 [] (fun x hxm => ⟨again_all _ _ _ _ _ hx x.1 (List.of_mem_zip hxm).1, hsp x.2 (List.of_mem_zip hxm).2⟩) (by rw [List.length_zip, hlen]; omega) (fun r => by simp) (Nat.lt_succ_self _)
  simp only [List.nil_append] at h1
  refine ⟨_, lexF_of hl h1, ?_⟩
  rw [List.map_append, List.map_append, h2]
  have : (ts.zip sp).map (fun x => x.1.bare) = ts.map Tk.bare := by
    have hm := List.map_fst_zip (l₁ := ts) (l₂ := sp) (by omega)
    conv => rhs; rw [← hm]
    simp [List.map_map, Function.comp_def]
  rw [this]
  rfl

/-- A name's text. -/
def isNameF (l : List UInt8) : Bool := !l.isEmpty && decide (l.length ≤ 20) && isLet (l.headD 0) && l.all isNm && decide (l.map loB = l) && !isWord (l.map upB)
theorem again_isName {l : List UInt8} (h : isNameF l = true) : AgainOK l 1 ⟨l.toArray⟩ Dt.zero ∧ lexF (l.map upB) = .inr [⟨1, ⟨l.toArray⟩, Dt.zero, 0⟩, endT l.length] := by
  simp only [isNameF, Bool.and_eq_true, Bool.not_eq_true', List.isEmpty_eq_false_iff, decide_eq_true_eq, List.all_eq_true] at h
  obtain ⟨⟨⟨⟨⟨h1, h2⟩, h3⟩, h4⟩, h5⟩, h6⟩ := h
  constructor
  · refine ⟨h1, fun r hr => ?_⟩
    obtain ⟨e1, e2, e3⟩ := tokF_name h1 h3 h4 hr
    refine ⟨e2, e1.trans ?_⟩
    simp only [nameF, e3, h5]
    rw [if_neg (by omega), if_neg (by rw [h6]; decide)]
  · have m1 : l.map upB ≠ [] := by simpa using h1
    have m2 : isLet ((l.map upB).headD 0) = true := by cases l with | nil => exact absurd rfl h1 | cons c r => simpa [up_let] using h3
    have m3 : ∀ c ∈ l.map upB, isNm c = true := by
      intro c hc
      obtain ⟨x, hx, rfl⟩ := List.mem_map.1 hc
      rw [up_nm]; exact h4 x hx
    have hA : ∀ r, Ends r → skipM false (l.map upB ++ r) = 0 ∧ tokF (l.map upB ++ r) = .ok 1 ⟨l.toArray⟩ Dt.zero (l.map upB).length := by
      intro r hr
      obtain ⟨e1, e2, e3⟩ := tokF_name m1 m2 m3 hr
      refine ⟨e2, e1.trans ?_⟩
      have eu : (l.map upB).map upB = l.map upB := by simp [List.map_map, Function.comp_def, up_up]
      have el : (l.map upB).map loB = l := by
        have : (l.map upB).map loB = l.map loB := by simp [List.map_map, Function.comp_def, lo_up]
        rw [this, h5]
      simp only [nameF, e3, eu, el]
      rw [if_neg (by simp; omega), if_neg (by rw [h6]; decide)]
    have := lexF_one ⟨m1, hA⟩ (by simp; omega)
    simpa using this

theorem itoa_len {u : Nat} (h : u < 10 ^ 19) : (Lib.decDigits u).length ≤ 19 := by
  have : ∀ (n u : Nat), u < 10 ^ (n + 1) → (Lib.decDigits u).length ≤ n + 1 := by
    intro n
    induction n with
    | zero => intro u hu; rw [Lib.decDigits_one (by omega)]; simp
    | succ n ih =>
      intro u hu
      by_cases h10 : u < 10
      · rw [Lib.decDigits_one h10]; simp
      · rw [dec_step (by omega), List.length_append]
        have := ih (u / 10) (by rw [Nat.div_lt_iff_lt_mul (by omega)]; rwa [Nat.pow_succ] at hu)
        simp; omega
  exact this 18 u h
/-- A number that is not below 0, as a literal: itself. -/
theorem print_num {k i : Int} (hk : k = 2 ∨ k = 3) (h0 : 0 ≤ i) (h1 : i ≤ 9223372036854775807) : AgainOK (printF ⟨k, i, ⟨#[]⟩⟩) 3 ⟨#[]⟩ ⟨k, i, ⟨#[]⟩⟩ ∧ (printF ⟨k, i, ⟨#[]⟩⟩).length ≤ 100 := by
  have e : amtV i.toNat = i := by unfold amtV; rw [if_neg (by omega)]; omega
  have := again_num (k := k) hk (u := i.toNat) (by omega)
  rw [e] at this
  unfold showF at this
  rw [if_neg (by simp), if_neg (by simp; omega), if_neg (by simp; omega)] at this
  refine ⟨this, ?_⟩
  unfold printF
  rw [if_neg (by rw [right_num hk]; decide)]
  rcases hk with rfl | rfl
  · simp only [show (2 : Int) ≠ 1 by decide, if_false, if_true]
    unfold Lib.itoa
    rw [if_neg (by omega)]
    have := itoa_len (u := i.toNat) (by omega)
    omega
  · simp only [show (3 : Int) ≠ 1 by decide, show (3 : Int) ≠ 2 by decide, if_false, if_true]
    unfold decL
    rw [if_neg (by omega)]
    have := itoa_len (u := i.natAbs / 10000) (by omega)
    simp [four]
    omega
/-- A number below 0: a minus, and its amount. -/
theorem print_neg {k i : Int} (hk : k = 2 ∨ k = 3) (h0 : i < 0) (h1 : -9223372036854775808 ≤ i) :
    ∃ sh, printF ⟨k, i, ⟨#[]⟩⟩ = 45 :: sh ∧ AgainOK sh 3 ⟨#[]⟩ ⟨k, amtV i.natAbs, ⟨#[]⟩⟩ ∧ sh.head? ≠ some 45 ∧ sh.length ≤ 100 := by
  unfold printF
  rw [if_neg (by rw [right_num hk]; decide)]
  rcases hk with rfl | rfl
  · simp only [show (2 : Int) ≠ 1 by decide, if_false, if_true]
    obtain ⟨a1, a2, a3⟩ := amt_dec i.natAbs
    refine ⟨Lib.decDigits i.natAbs, by unfold Lib.itoa; rw [if_pos h0], ?_, ?_, ?_⟩
    · have := again_int a3 a2 (by omega)
      rwa [a1] at this
    · intro h
      cases hd : Lib.decDigits i.natAbs with
      | nil => exact a3 hd
      | cons c r => rw [hd] at h a2; simp at h; subst h; exact absurd (a2 45 (by simp)) (by decide)
    · have := itoa_len (u := i.natAbs) (by omega)
      omega
  · simp only [show (3 : Int) ≠ 1 by decide, show (3 : Int) ≠ 2 by decide, if_false, if_true]
    obtain ⟨a1, a2, a3⟩ := amt_dec (i.natAbs / 10000)
    have h4 := @amt_four (Lib.decDigits (i.natAbs / 10000)) (i.natAbs % 10000) (by omega)
    have hs : amtF (Lib.decDigits (i.natAbs / 10000) ++ four (i.natAbs % 10000)) = i.natAbs := by rw [h4.1, a1]; omega
    refine ⟨Lib.decDigits (i.natAbs / 10000) ++ 46 :: four (i.natAbs % 10000), by unfold decL; rw [if_pos h0]; rfl, ?_, ?_, ?_⟩
    · have := again_dec a3 a2 (f := four (i.natAbs % 10000)) rfl h4.2 (by rw [hs]; omega)
      rwa [hs] at this
    · intro h
      cases hd : Lib.decDigits (i.natAbs / 10000) with
      | nil => exact a3 hd
      | cons c r => rw [hd] at h a2; simp at h; subst h; exact absurd (a2 45 (by simp)) (by decide)
    · have := itoa_len (u := i.natAbs / 10000) (by omega)
      simp [four]; omega
theorem print_text1 {s : ByteArray} (h : rightD ⟨4, 0, s⟩ = true) : AgainOK (printF ⟨4, 0, s⟩) 3 ⟨#[]⟩ ⟨4, 0, s⟩ ∧ (printF ⟨4, 0, s⟩).length ≤ 2100 := by
  rw [print_text_eq h]
  unfold rightD at h
  rw [if_pos rfl] at h
  simp only [Bool.and_eq_true, decide_eq_true_eq] at h
  obtain ⟨_, h2, h3⟩ := h
  have h2' : s.data.toList.length ≤ 1000 := by simpa using h2
  have := again_text h3 h2'
  refine ⟨by simpa using this, ?_⟩
  have := quoted_len s.data.toList
  simp only [List.length_cons, List.length_append, List.length_nil]; omega
theorem print_bytes1 {s : ByteArray} (h : rightD ⟨5, 0, s⟩ = true) : AgainOK (printF ⟨5, 0, s⟩) 3 ⟨#[]⟩ ⟨5, 0, s⟩ ∧ (printF ⟨5, 0, s⟩).length ≤ 2100 := by
  have hp : printF ⟨5, 0, s⟩ = 120 :: 39 :: (hexed s.data.toList ++ [39]) := by
    unfold printF
    rw [if_neg (by rw [h]; decide)]
    rfl
  have h2 : s.data.toList.length ≤ 1000 := by
    unfold rightD rightN at h
    simpa using h
  rw [hp]
  refine ⟨by simpa using again_bytes h2, ?_⟩
  have := hexed_len s.data.toList
  simp only [List.length_cons, List.length_append, List.length_nil]; omega
theorem print_word {l : List UInt8} (hne : l ≠ []) (hl : isLet (l.headD 0) = true) (ha : ∀ c ∈ l, isNm c = true) (h20 : l.length ≤ 20) (hu : l.map upB = l) (hw : isWord l = true) : AgainOK l 2 ⟨l.toArray⟩ Dt.zero := by
  refine ⟨hne, fun r hr => ?_⟩
  obtain ⟨e1, e2, e3⟩ := tokF_name hne hl ha hr
  refine ⟨e2, e1.trans ?_⟩
  simp only [nameF, e3, hu]
  rw [if_neg (by omega), if_pos hw]
end Go.Proofs.YtnpgjlhnlakgpaaDoor

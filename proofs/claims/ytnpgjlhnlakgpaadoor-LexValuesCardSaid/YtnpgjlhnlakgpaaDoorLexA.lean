/- Plain laws: a token, shown, is that token again, whatever blank stands behind it. No program in sight. -/
import Derived.Test.YtnpgjlhnlakgpaaDoorLexP
import Derived.Test.YtnpgjlhnlakgpaaDoorLexD
import Derived.Test.YtnpgjlhnlakgpaaDoorPrintF
namespace Go.Proofs.YtnpgjlhnlakgpaaDoor

/-- The end, or a blank, stands behind. -/
def Ends (r : List UInt8) : Prop := r = [] ∨ ∃ c x, r = c :: x ∧ (c = 32 ∨ c = 10)
theorem Ends.cases {r : List UInt8} (h : Ends r) {P : UInt8 → Bool} (h1 : P 32 = false) (h2 : P 10 = false) : ∀ c, r.head? = some c → P c = false := by
  intro c hc
  rcases h with rfl | ⟨c', x, rfl, rfl | rfl⟩
  · simp at hc
  · simp at hc; subst hc; exact h1
  · simp at hc; subst hc; exact h2
theorem takeWhile_app (p : UInt8 → Bool) : ∀ (t r : List UInt8), (∀ c ∈ t, p c = true) → (∀ c, r.head? = some c → p c = false) → (t ++ r).takeWhile p = t
  | [], r, _, h => by
    cases r with
    | nil => rfl
    | cons c x => simp [h c rfl]
  | c :: t, r, h1, h2 => by
    rw [List.cons_append, List.takeWhile_cons, if_pos (h1 c (by simp)), takeWhile_app p t r (fun x hx => h1 x (by simp [hx])) h2]
theorem takeWhile_all (p : UInt8 → Bool) : ∀ (l : List UInt8), ∀ c ∈ l.takeWhile p, p c = true
  | [], c, h => by simp at h
  | x :: l, c, h => by
    rw [List.takeWhile_cons] at h
    split at h
    · rcases List.mem_cons.1 h with rfl | h
      · assumption
      · exact takeWhile_all p l c h
    · simp at h
/-- Shown so, it is this token. -/
def AgainOK (sh : List UInt8) (k : Int) (s : ByteArray) (d : Dt) : Prop := sh ≠ [] ∧ ∀ r, Ends r → skipM false (sh ++ r) = 0 ∧ tokF (sh ++ r) = .ok k s d sh.length

theorem byte_all {P : UInt8 → Prop} (h : ∀ n : Fin 256, P (UInt8.ofNat n.val)) (c : UInt8) : P c := by
  have := h ⟨c.toNat, c.toNat_lt⟩
  simpa using this
theorem up_nm : ∀ c : UInt8, isNm (upB c) = isNm c := byte_all (by decide +kernel)
theorem lo_nm : ∀ c : UInt8, isNm (loB c) = isNm c := byte_all (by decide +kernel)
theorem up_let : ∀ c : UInt8, isLet (upB c) = isLet c := byte_all (by decide +kernel)
theorem lo_let : ∀ c : UInt8, isLet (loB c) = isLet c := byte_all (by decide +kernel)
theorem up_up : ∀ c : UInt8, upB (upB c) = upB c := byte_all (by decide +kernel)
theorem up_lo : ∀ c : UInt8, upB (loB c) = upB c := byte_all (by decide +kernel)
theorem lo_lo : ∀ c : UInt8, loB (loB c) = loB c := byte_all (by decide +kernel)
theorem lo_up : ∀ c : UInt8, loB (upB c) = loB c := byte_all (by decide +kernel)
theorem let_nbl : ∀ c : UInt8, isLet c = true → isBl c = false ∧ c ≠ 45 ∧ isDig c = false ∧ c ≠ 39 := byte_all (by decide +kernel)
theorem dig_nbl : ∀ c : UInt8, isDig c = true → isBl c = false ∧ c ≠ 45 ∧ isLet c = false ∧ c ≠ 39 ∧ c ≠ 120 ∧ c ≠ 88 ∧ c ≠ 46 := byte_all (by decide +kernel)
theorem nm_n39 : ∀ c : UInt8, isNm c = true → c ≠ 39 := byte_all (by decide +kernel)
theorem skip_head {c : UInt8} {r : List UInt8} (h : isBl c = false) (h2 : ¬ (c = 45 ∧ r.head? = some 45)) : skipM false (c :: r) = 0 := by
  simp only [skipM]
  rw [if_neg (by rw [h]; decide), if_neg h2]

theorem tokF_cons (c : UInt8) (r : List UInt8) : tokF (c :: r) = if (c = 120 ∨ c = 88) ∧ r.head? = some 39 then bytesF (c :: r) else if isLet c then nameF (c :: r) else if isDig c then numF (c :: r) else if c = 39 then textF (c :: r) else symF (c :: r) := rfl
/-- What begins as a name is one. -/
theorem tokF_name {t r : List UInt8} (hne : t ≠ []) (hl : isLet (t.headD 0) = true) (ha : ∀ c ∈ t, isNm c = true) (hr : Ends r) : tokF (t ++ r) = nameF (t ++ r) ∧ skipM false (t ++ r) = 0 ∧ (t ++ r).takeWhile isNm = t := by
  have htw := takeWhile_app isNm t r ha (hr.cases (by decide) (by decide))
  cases t with
  | nil => exact absurd rfl hne
  | cons c t =>
    simp only [List.headD_cons] at hl
    obtain ⟨n1, n2, n3, n4⟩ := let_nbl c hl
    refine ⟨?_, skip_head n1 (fun h => n2 h.1), htw⟩
    rw [List.cons_append, tokF_cons]
    have hq : ¬ (t ++ r).head? = some 39 := by
      cases t with
      | nil =>
        intro h
        have := hr.cases (P := fun c => c = 39) (by decide) (by decide) 39 (by simpa using h)
        simp at this
      | cons c' t' =>
        intro h
        simp at h
        exact nm_n39 c' (ha c' (by simp)) h
    rw [if_neg (fun h => hq h.2), if_pos hl]
theorem again_name {l : List UInt8} {k s d n} (hl : isLet (l.headD 0) = true) (hne : l ≠ []) (h : nameF l = .ok k s d n) : (k = 1 ∨ k = 2) ∧ AgainOK s.data.toList k s d := by
  have hall := takeWhile_all isNm l
  have htne : l.takeWhile isNm ≠ [] := by
    cases l with
    | nil => exact absurd rfl hne
    | cons c r => simp only [List.headD_cons] at hl; simp [isNm, hl]
  have hth : isLet ((l.takeWhile isNm).headD 0) = true := by
    cases l with
    | nil => exact absurd rfl hne
    | cons c r => simp only [List.headD_cons] at hl; simp [isNm, hl]
  simp only [nameF] at h
  generalize l.takeWhile isNm = t at *
  have hmap : ∀ (g : UInt8 → UInt8), (∀ c, isNm (g c) = isNm c) → (∀ c, isLet (g c) = isLet c) → (t.map g ≠ [] ∧ isLet ((t.map g).headD 0) = true ∧ ∀ c ∈ t.map g, isNm c = true) := by
    intro g g1 g2
    refine ⟨by simpa using htne, ?_, ?_⟩
    · cases t with
      | nil => exact absurd rfl htne
      | cons c r => simpa [g2] using hth
    · intro c hc
      obtain ⟨x, hx, rfl⟩ := List.mem_map.1 hc
      rw [g1]; exact hall x hx
  split at h
  · cases h
  · rename_i h20
    split at h
    · rename_i hw
      cases h
      obtain ⟨m1, m2, m3⟩ := hmap upB up_nm up_let
      refine ⟨.inr rfl, m1, fun r hr => ?_⟩
      obtain ⟨e1, e2, e3⟩ := tokF_name m1 m2 m3 hr
      refine ⟨e2, e1.trans ?_⟩
      have eu : (t.map upB).map upB = t.map upB := by simp [List.map_map, Function.comp_def, up_up]
      simp only [nameF, e3, eu]
      rw [if_neg (by simpa using h20), if_pos hw]
    · rename_i hw
      cases h
      obtain ⟨m1, m2, m3⟩ := hmap loB lo_nm lo_let
      refine ⟨.inl rfl, m1, fun r hr => ?_⟩
      obtain ⟨e1, e2, e3⟩ := tokF_name m1 m2 m3 hr
      refine ⟨e2, e1.trans ?_⟩
      have eu : (t.map loB).map upB = t.map upB := by simp [List.map_map, Function.comp_def, up_lo]
      have el : (t.map loB).map loB = t.map loB := by simp [List.map_map, Function.comp_def, lo_lo]
      simp only [nameF, e3, eu, el]
      rw [if_neg (by simpa using h20), if_neg hw]

/-- The number of an amount. -/
def amtV (n : Nat) : Int := if n = 9223372036854775808 then -9223372036854775808 else (n : Int)
theorem tokF_num {t r : List UInt8} (hne : t ≠ []) (hd : isDig (t.headD 0) = true) : tokF (t ++ r) = numF (t ++ r) ∧ skipM false (t ++ r) = 0 := by
  cases t with
  | nil => exact absurd rfl hne
  | cons c t =>
    simp only [List.headD_cons] at hd
    obtain ⟨n1, n2, n3, n4, n5, n6, _⟩ := dig_nbl c hd
    refine ⟨?_, skip_head n1 (fun h => n2 h.1)⟩
    rw [List.cons_append, tokF_cons]
    rw [if_neg (fun h => by rcases h.1 with h | h <;> contradiction), if_neg (by rw [n3]; decide), if_pos hd]
theorem again_int {ds : List UInt8} (hne : ds ≠ []) (ha : ∀ c ∈ ds, isDig c = true) (hm : amtF ds ≤ 9223372036854775808) : AgainOK ds 3 ⟨#[]⟩ ⟨2, amtV (amtF ds), ⟨#[]⟩⟩ := by
  refine ⟨hne, fun r hr => ?_⟩
  have hd : isDig (ds.headD 0) = true := by cases ds with | nil => exact absurd rfl hne | cons c t => exact ha c (by simp)
  obtain ⟨e1, e2⟩ := tokF_num (r := r) hne hd
  refine ⟨e2, e1.trans ?_⟩
  have htw := takeWhile_app isDig ds r ha (hr.cases (by decide) (by decide))
  have hf : fracF r = none := by
    rcases hr with rfl | ⟨c, x, rfl, rfl | rfl⟩
    · rfl
    · rfl
    · rfl
  simp only [numF, htw, List.drop_left, hf, numEnd]
  rw [if_neg]
  · rfl
  · intro h
    rcases h with h | ⟨c, h1, h2⟩
    · omega
    · rw [hr.cases (P := isLet) (by decide) (by decide) c h1] at h2; cases h2
theorem again_dec {a f : List UInt8} (hne : a ≠ []) (ha : ∀ c ∈ a, isDig c = true) (hf4 : f.length = 4) (hf : ∀ c ∈ f, isDig c = true) (hm : amtF (a ++ f) ≤ 9223372036854775808) :
    AgainOK (a ++ 46 :: f) 3 ⟨#[]⟩ ⟨3, amtV (amtF (a ++ f)), ⟨#[]⟩⟩ := by
  refine ⟨by simp, fun r hr => ?_⟩
  have hd : isDig (a.headD 0) = true := by cases a with | nil => exact absurd rfl hne | cons c t => exact ha c (by simp)
  obtain ⟨e1, e2⟩ := tokF_num (t := a) (r := 46 :: f ++ r) hne hd
  rw [show a ++ 46 :: f ++ r = a ++ (46 :: f ++ r) by simp]
  refine ⟨e2, e1.trans ?_⟩
  have htw := takeWhile_app isDig a (46 :: f ++ r) ha (by intro c hc; simp at hc; subst hc; decide)
  have htf := takeWhile_app isDig f r hf (hr.cases (by decide) (by decide))
  have hff : fracF (46 :: f ++ r) = some f := by
    cases f with
    | nil => simp at hf4
    | cons c f' =>
      have hc := hf c (by simp)
      rw [List.cons_append, List.cons_append, fracF, if_pos hc, ← htf, List.cons_append]
  simp only [numF, htw, List.drop_left, hff]
  rw [if_neg (by omega)]
  have e4 : List.replicate (4 - f.length) (48 : UInt8) = [] := by rw [hf4]; rfl
  rw [e4, List.append_nil, numEnd]
  have hdr : (a ++ (46 :: f ++ r)).drop (a.length + 1 + f.length) = r := by
    rw [show a ++ (46 :: f ++ r) = (a ++ 46 :: f) ++ r by simp, show a.length + 1 + f.length = (a ++ 46 :: f).length by simp; omega, List.drop_left]
  rw [hdr, if_neg]
  · rw [show a.length + 1 + f.length = (a ++ 46 :: f).length by simp; omega]; rfl
  · intro h
    rcases h with h | ⟨c, h1, h2⟩
    · omega
    · rw [hr.cases (P := isLet) (by decide) (by decide) c h1] at h2; cases h2
theorem amtF_snoc (l : List UInt8) (c : UInt8) : amtF (l ++ [c]) = 10 * amtF l + (c.toNat - 48) := by simp [amtF]
theorem amt_dec : ∀ u : Nat, amtF (Lib.decDigits u) = u ∧ (∀ c ∈ Lib.decDigits u, isDig c = true) ∧ Lib.decDigits u ≠ [] := by
  intro u
  induction u using Nat.strongRecOn with
  | ind u ih =>
    by_cases h : u < 10
    · rw [Lib.decDigits_one h]
      have hd : (48 + u) % 256 = 48 + u := by omega
      refine ⟨?_, ?_, by simp⟩
      · simp [amtF]; omega
      · intro c hc; simp at hc; subst hc; simp [isDig]; omega
    · rw [dec_step (by omega)]
      obtain ⟨h1, h2, h3⟩ := ih (u / 10) (by omega)
      refine ⟨?_, ?_, by simp⟩
      · rw [amtF_snoc, h1]
        have : (UInt8.ofNat (48 + u % 10)).toNat = 48 + u % 10 := by simp; omega
        rw [this]; omega
      · intro c hc
        rcases List.mem_append.1 hc with hc | hc
        · exact h2 c hc
        · simp only [List.mem_cons, List.not_mem_nil, or_false] at hc; subst hc; simp [isDig]; omega
theorem amt_four {l : List UInt8} {r : Nat} (h : r < 10000) : amtF (l ++ four r) = 10000 * amtF l + r ∧ ∀ c ∈ four r, isDig c = true := by
  have hb : ∀ m, m < 10 → (UInt8.ofNat (48 + m)).toNat = 48 + m := fun m hm => by simp; omega
  have e : l ++ four r = (((l ++ [UInt8.ofNat (48 + r / 1000 % 10)]) ++ [UInt8.ofNat (48 + r / 100 % 10)]) ++ [UInt8.ofNat (48 + r / 10 % 10)]) ++ [UInt8.ofNat (48 + r % 10)] := by simp [four]
  refine ⟨?_, ?_⟩
  · rw [e, amtF_snoc, amtF_snoc, amtF_snoc, amtF_snoc, hb _ (by omega), hb _ (by omega), hb _ (by omega), hb _ (by omega)]
    omega
  · intro c hc
    simp only [four, List.mem_cons, List.not_mem_nil, or_false] at hc
    rcases hc with rfl | rfl | rfl | rfl <;> (simp [isDig]; omega)

theorem quoted_noq : ∀ l : List UInt8, (∀ b ∈ l, b ≠ 39) → quoted l = l
  | [], _ => rfl
  | c :: l, h => by
    have := quoted_noq l (fun b hb => h b (by simp [hb]))
    unfold quoted at *
    rw [List.flatMap_cons, if_neg (h c (by simp)), this]; rfl
theorem quoted_app (a b : List UInt8) : quoted (a ++ b) = quoted a ++ quoted b := by simp [quoted]
theorem txt_again : ∀ (n f : Nat) (v r : List UInt8), v.length ≤ n → (quoted v).length < f → Lib.validD v = true → r.head? ≠ some 39 → txtGo f (quoted v ++ 39 :: r) = some (.inl (v, (quoted v).length + 1))
  | n, 0, _, _, _, h, _, _ => by omega
  | n, f + 1, [], r, _, _, _, hr => by
    simp only [quoted, List.flatMap_nil, List.nil_append, txtGo]
    rw [if_pos trivial, if_neg hr]; rfl
  | 0, f + 1, c :: v, r, h, _, _, _ => by simp at h
  | n + 1, f + 1, c :: v, r, hn, hf, hv, hr => by
    by_cases h39 : c = 39
    · subst h39
      have hv' : Lib.validD v = true := by rwa [Lib.validD_cons _ _ (by decide)] at hv
      have e : quoted (39 :: v) = 39 :: 39 :: quoted v := rfl
      rw [e] at hf ⊢
      simp only [List.length_cons] at hf hn
      simp only [List.cons_append, txtGo, List.head?_cons, List.tail_cons]
      rw [if_pos trivial, if_pos trivial, txt_again n f v r (by omega) (by omega) hv' hr]
      simp
    · have hne : c :: v ≠ [] := by simp
      have hw := Lib.decodeL_width (c :: v)
      have hle := Lib.decodeL_le (c :: v) hne
      rw [Lib.validD_step _ hne] at hv
      by_cases hb : (Lib.decodeL (c :: v)).1 = 65533 ∧ (Lib.decodeL (c :: v)).2 = 1
      · rw [if_pos hb] at hv; cases hv
      have hb0 := hb
      rw [if_neg hb] at hv
      have hp := fun t => decode_prefix (c :: v) t hne hb
      have hq := decode_noquote (c :: v) hne (by simpa using h39) hb
      have hsplit : c :: v = (c :: v).take (Lib.decodeL (c :: v)).2 ++ (c :: v).drop (Lib.decodeL (c :: v)).2 := (List.take_append_drop _ _).symm
      have e : quoted (c :: v) = (c :: v).take (Lib.decodeL (c :: v)).2 ++ quoted ((c :: v).drop (Lib.decodeL (c :: v)).2) := by
        conv => lhs; rw [hsplit]
        rw [quoted_app, quoted_noq _ hq]
      have hcl : ∃ x, (c :: v).take (Lib.decodeL (c :: v)).2 = c :: x := by
        obtain ⟨w, hw'⟩ : ∃ w, (Lib.decodeL (c :: v)).2 = w + 1 := ⟨_, (Nat.sub_add_cancel hw).symm⟩
        rw [hw']; exact ⟨_, rfl⟩
      have hlen : ((c :: v).take (Lib.decodeL (c :: v)).2).length = (Lib.decodeL (c :: v)).2 := by rw [List.length_take]; omega
      have hdl : ((c :: v).drop (Lib.decodeL (c :: v)).2).length = (c :: v).length - (Lib.decodeL (c :: v)).2 := List.length_drop ..
      simp only [List.length_cons] at hn hdl hle
      rw [e] at hf ⊢
      rw [List.length_append, hlen] at hf ⊢
      generalize hD : Lib.decodeL (c :: v) = D at *
      have IH := txt_again n f ((c :: v).drop D.2) r (by omega) (by omega) hv hr
      have hD2 := hp (quoted ((c :: v).drop D.2) ++ 39 :: r)
      rw [List.append_assoc]
      have htk : ((c :: v).take D.2 ++ (quoted ((c :: v).drop D.2) ++ 39 :: r)).take D.2 = (c :: v).take D.2 := by rw [List.take_left' hlen]
      have hdr : ((c :: v).take D.2 ++ (quoted ((c :: v).drop D.2) ++ 39 :: r)).drop D.2 = quoted ((c :: v).drop D.2) ++ 39 :: r := by rw [List.drop_left' hlen]
      obtain ⟨x, hx⟩ := hcl
      have hjoin : c :: v = (c :: v).take D.2 ++ (c :: v).drop D.2 := hsplit
      clear hsplit hq hv hb e
      generalize (c :: v).drop D.2 = V at *
      generalize (c :: v).take D.2 = T at *
      rw [hjoin]
      clear hjoin
      subst hx
      simp only [List.cons_append] at *
      rw [txtGo, if_neg h39, hD2, hdr, IH, htk, if_neg]
      · simp only [Option.some.injEq, Sum.inl.injEq, Prod.mk.injEq, List.cons_append, true_and]
        omega
      · simp only [badL, hD2, decide_eq_true_eq]
        exact hb0
theorem again_text {v : List UInt8} (hv : Lib.validD v = true) (hl : v.length ≤ 1000) : AgainOK (39 :: (quoted v ++ [39])) 3 ⟨#[]⟩ ⟨4, 0, ⟨v.toArray⟩⟩ := by
  refine ⟨by simp, fun r hr => ⟨skip_head (by decide) (by simp), ?_⟩⟩
  rw [show 39 :: (quoted v ++ [39]) ++ r = 39 :: (quoted v ++ 39 :: r) by simp]
  rw [tokF_cons, if_neg (fun h => by rcases h.1 with h | h <;> exact absurd h (by decide)), if_neg (by decide), if_neg (by decide), if_pos rfl]
  have h1 : r.head? ≠ some 39 := fun h => by
    have := hr.cases (P := fun c => c = 39) (by decide) (by decide) 39 h
    simp at this
  simp only [textF, List.drop_succ_cons, List.drop_zero]
  rw [txt_again v.length _ v r (Nat.le_refl _) (by simp; omega) hv h1]
  simp only
  rw [if_neg (by omega)]
  simp; omega

theorem hexv_hexd : ∀ n : Fin 16, hexv (hexd n.val) = some n.val ∧ hexd n.val ≠ 39 := by decide
theorem hex_again : ∀ (v r : List UInt8), ∃ ds, hexGo (hexed v ++ 39 :: r) = some (some ds) ∧ ds.length = 2 * v.length ∧ pairsF ds = v
  | [], r => ⟨[], by simp [hexed, hexGo], rfl, rfl⟩
  | c :: v, r => by
    obtain ⟨ds, h1, h2, h3⟩ := hex_again v r
    have hc := c.toNat_lt
    obtain ⟨a1, a2⟩ := hexv_hexd ⟨c.toNat / 16, by omega⟩
    obtain ⟨b1, b2⟩ := hexv_hexd ⟨c.toNat % 16, by omega⟩
    simp only at a1 a2 b1 b2
    refine ⟨c.toNat / 16 :: c.toNat % 16 :: ds, ?_, by simp [h2]; omega, ?_⟩
    · have e : hexed (c :: v) ++ 39 :: r = hexd (c.toNat / 16) :: hexd (c.toNat % 16) :: (hexed v ++ 39 :: r) := rfl
      rw [e]
      simp only [hexGo]
      rw [if_neg a2, a1, if_neg b2, b1, h1]
      rfl
    · rw [pairsF, h3]
      have : 16 * (c.toNat / 16) + c.toNat % 16 = c.toNat := by omega
      rw [this]; simp
theorem again_bytes {v : List UInt8} (hl : v.length ≤ 1000) : AgainOK (120 :: 39 :: (hexed v ++ [39])) 3 ⟨#[]⟩ ⟨5, 0, ⟨v.toArray⟩⟩ := by
  refine ⟨by simp, fun r hr => ⟨skip_head (by decide) (by simp), ?_⟩⟩
  rw [show 120 :: 39 :: (hexed v ++ [39]) ++ r = 120 :: 39 :: (hexed v ++ 39 :: r) by simp]
  rw [tokF_cons, if_pos ⟨.inl rfl, rfl⟩]
  simp only [bytesF, List.drop_succ_cons, List.drop_zero]
  obtain ⟨ds, h1, h2, h3⟩ := hex_again v r
  rw [h1]
  simp only
  rw [if_neg (by omega), h3, if_neg (by omega), h2]
  simp [hexed_len]
theorem again_sym2 {t : List UInt8} (h : sym2 t = true) : AgainOK t 4 ⟨t.toArray⟩ Dt.zero := by
  simp only [sym2, decide_eq_true_eq] at h
  refine ⟨by rcases h with rfl | rfl | rfl <;> simp, fun r hr => ?_⟩
  rcases h with rfl | rfl | rfl <;> exact ⟨rfl, rfl⟩
theorem sym1_all : ∀ c : UInt8, sym1 c = true → c = 40 ∨ c = 41 ∨ c = 44 ∨ c = 46 ∨ c = 59 ∨ c = 42 ∨ c = 43 ∨ c = 45 ∨ c = 47 ∨ c = 61 ∨ c = 60 ∨ c = 62 := byte_all (by decide +kernel)
theorem again_sym1 {c : UInt8} (h : sym1 c = true) : AgainOK [c] 4 ⟨#[c]⟩ Dt.zero := by
  refine ⟨by simp, fun r hr => ?_⟩
  rcases hr with rfl | ⟨b, x, rfl, rfl | rfl⟩ <;>
  (rcases sym1_all c h with rfl | rfl | rfl | rfl | rfl | rfl | rfl | rfl | rfl | rfl | rfl | rfl <;> exact ⟨rfl, rfl⟩)
end Go.Proofs.YtnpgjlhnlakgpaaDoor

/- Plain laws of whole numbers in digits of a million: what a row is worth, its order, sums, differences, products. The plain law of a quotient that is found bit by bit (the document's Over). -/
import Derived.Test.YtokbdleokihdaaaGreatDoorG12
namespace Go.Proofs.YtokbdleokihdaaaGreatDoor

/-- The digits of a number. -/
def digs (n : Nat) : List Nat := if h : n = 0 then [] else n % 1000000 :: digs (n / 1000000)
termination_by n
decreasing_by omega
def val : List Nat → Nat
  | [] => 0
  | d :: r => d + 1000000 * val r
def Small (l : List Nat) : Prop := ∀ d ∈ l, d < 1000000
theorem digs_zero : digs 0 = [] := by rw [digs]; rfl
theorem digs_pos {n : Nat} (h : n ≠ 0) : digs n = n % 1000000 :: digs (n / 1000000) := by rw [digs, dif_neg h]
theorem val_digs (n : Nat) : val (digs n) = n := by
  induction n using Nat.strongRecOn with
  | _ n ih =>
    by_cases h : n = 0
    · subst h; rw [digs_zero]; rfl
    · rw [digs_pos h, val, ih (n / 1000000) (by omega)]; omega
theorem small_digs (n : Nat) : Small (digs n) := by
  induction n using Nat.strongRecOn with
  | _ n ih =>
    by_cases h : n = 0
    · subst h; rw [digs_zero]; intro d hd; cases hd
    · rw [digs_pos h]
      intro d hd
      rcases List.mem_cons.1 hd with rfl | hd
      · omega
      · exact ih (n / 1000000) (by omega) d hd
theorem digsF_digs : ∀ (f n : Nat), n < 1000000 ^ f → digsF f n = digs n
  | 0, n, h => by simp at h; subst h; rw [digs_zero]; rfl
  | f + 1, n, h => by
    unfold digsF
    by_cases hn : n = 0
    · rw [if_pos hn, hn, digs_zero]
    · rw [if_neg hn, digs_pos hn, digsF_digs f (n / 1000000) (by rw [Nat.div_lt_iff_lt_mul (by omega)]; rwa [Nat.pow_succ] at h)]
theorem pow_pos' (k : Nat) : 0 < 1000000 ^ k := Nat.pow_pos (by decide)
theorem val_lt : ∀ {l : List Nat}, Small l → val l < 1000000 ^ l.length
  | [], _ => by simp [val]
  | d :: r, h => by
    have h1 := h d (by simp)
    have h2 := val_lt (l := r) fun x hx => h x (by simp [hx])
    rw [val, List.length_cons, Nat.pow_succ]
    omega
theorem val_append (a b : List Nat) : val (a ++ b) = val a + 1000000 ^ a.length * val b := by
  induction a with
  | nil => simp [val]
  | cons d r ih =>
    rw [List.cons_append, val, ih, val, List.length_cons, Nat.pow_succ, Nat.mul_add]
    rw [show 1000000 * (1000000 ^ r.length * val b) = 1000000 ^ r.length * 1000000 * val b by rw [← Nat.mul_assoc, Nat.mul_comm 1000000]]
    omega
theorem val_snoc (a : List Nat) (d : Nat) : val (a ++ [d]) = val a + 1000000 ^ a.length * d := by
  rw [val_append]; simp [val]
theorem small_snoc {a : List Nat} {d : Nat} (h : Small a) (hd : d < 1000000) : Small (a ++ [d]) := fun x hx => by
  rcases List.mem_append.1 hx with hx | hx
  · exact h x hx
  · rw [List.mem_singleton.1 hx]; exact hd
/-- A row whose worth fills it is the row of its digits. -/
theorem digs_val : ∀ {l : List Nat}, Small l → (l = [] ∨ 1000000 ^ (l.length - 1) ≤ val l) → digs (val l) = l
  | [], _, _ => digs_zero
  | [d], h, h1 => by
    have hd := h d (by simp)
    have : val [d] = d := by simp [val]
    rw [this] at h1 ⊢
    have hp : d ≠ 0 := by
      rcases h1 with h1 | h1
      · cases h1
      · simp at h1; omega
    rw [digs_pos hp, Nat.mod_eq_of_lt hd, Nat.div_eq_of_lt hd, digs_zero]
  | d :: e :: r, h, h1 => by
    have hd := h d (by simp)
    have hr : Small (e :: r) := fun x hx => h x (by simp [hx])
    have h2 : 1000000 ^ r.length * 1000000 ≤ val (d :: e :: r) := by
      rcases h1 with h1 | h1
      · cases h1
      · simpa [Nat.pow_succ] using h1
    have hv : val (d :: e :: r) = d + 1000000 * val (e :: r) := rfl
    have h3 : 1000000 ^ ((e :: r).length - 1) ≤ val (e :: r) := by
      simp only [List.length_cons, Nat.add_sub_cancel]
      have : 1000000 ^ r.length * 1000000 < (val (e :: r) + 1) * 1000000 := by omega
      have := Nat.lt_of_mul_lt_mul_right this
      omega
    have ih := digs_val hr (.inr h3)
    have hp := pow_pos' r.length
    have hne : val (d :: e :: r) ≠ 0 := by omega
    rw [digs_pos hne, hv]
    have e1 : (d + 1000000 * val (e :: r)) % 1000000 = d := by omega
    have e2 : (d + 1000000 * val (e :: r)) / 1000000 = val (e :: r) := by omega
    rw [e1, e2, ih]
/-- The number fills its digits. -/
theorem digs_fill {n : Nat} (h : n ≠ 0) : 1000000 ^ ((digs n).length - 1) ≤ n := by
  induction n using Nat.strongRecOn with
  | _ n ih =>
    rw [digs_pos h, List.length_cons, Nat.add_sub_cancel]
    by_cases h1 : n / 1000000 = 0
    · rw [h1, digs_zero]; simp; omega
    · have h2 := ih (n / 1000000) (by omega) h1
      have h3 : (digs (n / 1000000)).length = ((digs (n / 1000000)).length - 1) + 1 := by
        rw [digs_pos h1]; simp
      rw [h3, Nat.pow_succ]
      have : 1000000 ^ ((digs (n / 1000000)).length - 1) * 1000000 ≤ n / 1000000 * 1000000 := Nat.mul_le_mul_right _ h2
      omega
theorem digs_lt (n : Nat) : n < 1000000 ^ (digs n).length := by
  have := val_lt (small_digs n)
  rwa [val_digs] at this
theorem digs_len {n k : Nat} (h : n < 1000000 ^ k) : (digs n).length ≤ k := by
  by_cases hn : n = 0
  · subst hn; rw [digs_zero]; simp
  · have h1 := digs_fill hn
    have h2 : 1000000 ^ ((digs n).length - 1) < 1000000 ^ k := Nat.lt_of_le_of_lt h1 h
    have h3 := (Nat.pow_lt_pow_iff_right (by decide : 1 < 1000000)).1 h2
    omega
theorem digs_nil {n : Nat} : (digs n).length = 0 ↔ n = 0 := by
  constructor
  · intro h
    have := digs_lt n
    rw [h] at this; simp at this; exact this
  · rintro rfl; rw [digs_zero]; rfl
theorem take_snoc_getD {l : List Nat} {k : Nat} (h : k < l.length) : l.take (k + 1) = l.take k ++ [l.getD k 0] := by
  rw [List.take_add_one, List.getElem?_eq_getElem h]
  simp [List.getD_eq_getElem?_getD, h]
theorem val_take {l : List Nat} {k : Nat} (h : k < l.length) : val (l.take (k + 1)) = val (l.take k) + 1000000 ^ k * l.getD k 0 := by
  rw [take_snoc_getD h, val_snoc, List.length_take, Nat.min_eq_left (by omega)]
theorem small_take {l : List Nat} (h : Small l) (k : Nat) : Small (l.take k) := fun x hx => h x (List.mem_of_mem_take hx)
theorem val_take_lt {l : List Nat} (h : Small l) (k : Nat) : val (l.take k) < 1000000 ^ k := by
  have h1 := val_lt (small_take h k)
  refine Nat.lt_of_lt_of_le h1 (Nat.pow_le_pow_right (by decide) ?_)
  rw [List.length_take]; omega
theorem small_getD {l : List Nat} (h : Small l) (k : Nat) : l.getD k 0 < 1000000 := by
  rw [List.getD_eq_getElem?_getD]
  cases hk : l[k]? with
  | none => simp
  | some x => simpa using h x (List.mem_of_getElem? hk)
theorem val_take_le (l : List Nat) : ∀ k, val (l.take k) ≤ val l := fun k => by
  have h : val l = val (l.take k ++ l.drop k) := by rw [List.take_append_drop]
  rw [h, val_append]; omega
/-- The order of amounts. -/
def cmpN (a b : Nat) : Int := if a < b then -1 else if b < a then 1 else 0
theorem down_cmp {xs ys : List Nat} (hx : Small xs) (hy : Small ys) : ∀ k, k ≤ xs.length → k ≤ ys.length → down xs ys k = cmpN (val (xs.take k)) (val (ys.take k))
  | 0, _, _ => by simp [down, cmpN]
  | k + 1, h1, h2 => by
    have ih := down_cmp hx hy k (by omega) (by omega)
    have e1 := val_take (l := xs) (k := k) (by omega)
    have e2 := val_take (l := ys) (k := k) (by omega)
    have b1 := val_take_lt hx k
    have b2 := val_take_lt hy k
    unfold down
    rw [e1, e2, ih]
    generalize val (xs.take k) = p at *
    generalize val (ys.take k) = q at *
    generalize xs.getD k 0 = x at *
    generalize ys.getD k 0 = y at *
    generalize 1000000 ^ k = B at *
    have key : ∀ {x y p q : Nat}, x < y → p < B → p + B * x < q + B * y := fun {x y p q} h hp => by
      have h1 : B * (x + 1) ≤ B * y := Nat.mul_le_mul_left B h
      rw [Nat.mul_add] at h1
      omega
    rcases Nat.lt_trichotomy x y with h | h | h
    · have := key (q := q) h b1
      rw [if_pos h]
      unfold cmpN
      rw [if_pos this]
    · subst h
      rw [if_neg (by omega), if_neg (by omega)]
      unfold cmpN
      by_cases h1 : p < q
      · rw [if_pos h1, if_pos (by omega)]
      · by_cases h2 : q < p
        · rw [if_neg h1, if_pos h2, if_neg (by omega), if_pos (by omega)]
        · rw [if_neg h1, if_neg h2, if_neg (by omega), if_neg (by omega)]
    · have := key (q := p) h b2
      rw [if_neg (by omega), if_pos h]
      unfold cmpN
      rw [if_neg (by omega), if_pos this]
theorem amt_cmp (a b : Nat) : amt (digs a) (digs b) = cmpN a b := by
  have hlen : ∀ {a b : Nat}, (digs a).length < (digs b).length → a < b := fun {a b} h => by
    have h1 := digs_lt a
    have hb : b ≠ 0 := fun e => by rw [e, digs_zero] at h; simp at h
    have h2 := digs_fill hb
    have h3 : 1000000 ^ (digs a).length ≤ 1000000 ^ ((digs b).length - 1) := Nat.pow_le_pow_right (by decide) (by omega)
    omega
  unfold amt
  by_cases h1 : (digs a).length < (digs b).length
  · rw [if_pos h1]
    have := hlen h1
    unfold cmpN; rw [if_pos this]
  · rw [if_neg h1]
    by_cases h2 : (digs b).length < (digs a).length
    · rw [if_pos h2]
      have := hlen h2
      unfold cmpN; rw [if_neg (by omega), if_pos this]
    · rw [if_neg h2]
      have hl : (digs a).length = (digs b).length := by omega
      have := down_cmp (small_digs a) (small_digs b) (digs a).length (Nat.le_refl _) (by omega)
      rw [List.take_length, hl, List.take_length, val_digs, val_digs] at this
      first | exact this | (rw [hl]; exact this)
/-- What trimmed leaves. -/
theorem tlen_digs {l : List Nat} (h : Small l) : l.take (tlen l l.length) = digs (val l) := by
  have key : ∀ k, k ≤ l.length → l.take (tlen l k) = digs (val (l.take k)) := by
    intro k
    induction k with
    | zero => intro _; simp [tlen, val, digs_zero]
    | succ k ih =>
      intro hk
      have e1 := val_take (l := l) (k := k) (by omega)
      unfold tlen
      by_cases h0 : l.getD k 0 = 0
      · rw [if_pos h0, ih (by omega), e1, h0]; simp
      · rw [if_neg h0]
        refine (digs_val (small_take h (k + 1)) (.inr ?_)).symm
        rw [List.length_take, Nat.min_eq_left hk, Nat.add_sub_cancel, e1]
        have : 1000000 ^ k * 1 ≤ 1000000 ^ k * l.getD k 0 := Nat.mul_le_mul_left _ (by omega)
        omega
  have := key l.length (Nat.le_refl _)
  rwa [List.take_length] at this
/-- Setting one digit. -/
theorem val_set {l : List Nat} {k : Nat} (h : k < l.length) (x : Nat) : val (l.set k x) + 1000000 ^ k * l.getD k 0 = val l + 1000000 ^ k * x := by
  have hl : l = l.take k ++ (l.getD k 0 :: l.drop (k + 1)) := by
    rw [List.getD_eq_getElem?_getD, List.getElem?_eq_getElem h]
    simp
  have hs : l.set k x = l.take k ++ (x :: l.drop (k + 1)) := by
    rw [List.set_eq_take_append_cons_drop, if_pos h]
  have hk : (l.take k).length = k := by rw [List.length_take]; omega
  generalize l.getD k 0 = y at *
  rw [hs]
  conv => rhs; rw [hl]
  rw [val_append, val_append, hk, val, val, Nat.mul_add, Nat.mul_add]
  omega

/-! ### Sums -/
theorem getD_out {l : List Nat} {k : Nat} (h : l.length ≤ k) : l.getD k 0 = 0 := by
  rw [List.getD_eq_getElem?_getD, List.getElem?_eq_none h]; rfl
theorem val_take' (l : List Nat) (k : Nat) : val (l.take (k + 1)) = val (l.take k) + 1000000 ^ k * l.getD k 0 := by
  by_cases h : k < l.length
  · exact val_take h
  · rw [List.take_of_length_le (by omega), List.take_of_length_le (by omega), getD_out (by omega)]; simp
theorem val_all {l : List Nat} {k : Nat} (h : l.length ≤ k) : val (l.take k) = val l := by rw [List.take_of_length_le h]
/-- One round of a sum. -/
structure AddR (xs ys ds : List Nat) (i ca : Nat) : Prop where
  len : ds.length = i
  small : Small ds
  hca : ca ≤ 1
  sum : val ds + ca * 1000000 ^ i = val (xs.take i) + val (ys.take i)
  fill : i = 0 ∨ 1000000 ^ (i - 1) ≤ val xs + val ys
theorem AddR.start (xs ys : List Nat) : AddR xs ys [] 0 0 := ⟨rfl, fun _ h => (nomatch h), by omega, by simp [val], .inl rfl⟩
theorem AddR.round {x y : Nat} {ds : List Nat} {i ca : Nat} (h : AddR (digs x) (digs y) ds i ca) (hg : i < (digs x).length ∨ i < (digs y).length ∨ 0 < ca) :
    AddR (digs x) (digs y) (ds ++ [(ca + (digs x).getD i 0 + (digs y).getD i 0) % 1000000]) (i + 1) ((ca + (digs x).getD i 0 + (digs y).getD i 0) / 1000000) := by
  have hx := small_getD (small_digs x) i
  have hy := small_getD (small_digs y) i
  have h1 := h.sum
  have h2 := val_take' (digs x) i
  have h3 := val_take' (digs y) i
  have hca := h.hca
  have hfill : 1000000 ^ i ≤ val (digs x) + val (digs y) := by
    have hle : ∀ z : Nat, i < (digs z).length → 1000000 ^ i ≤ val (digs z) := fun z hz => by
      have hz0 : z ≠ 0 := fun e => by rw [e, digs_zero] at hz; simp at hz
      have := digs_fill hz0
      rw [val_digs]
      exact Nat.le_trans (Nat.pow_le_pow_right (by decide) (by omega)) this
    rcases hg with hg | hg | hg
    · have := hle x hg; omega
    · have := hle y hg; omega
    · have := val_take_le (digs x) i
      have := val_take_le (digs y) i
      have : 1 * 1000000 ^ i ≤ ca * 1000000 ^ i := Nat.mul_le_mul_right _ hg
      omega
  generalize (digs x).getD i 0 = a at *
  generalize (digs y).getD i 0 = b at *
  refine ⟨by rw [List.length_append, h.len]; rfl, small_snoc h.small (by omega), by omega, ?_, .inr (by simpa using hfill)⟩
  rw [val_snoc, h.len, h2, h3, Nat.pow_succ]
  have e : 1000000 ^ i * ((ca + a + b) % 1000000) + (ca + a + b) / 1000000 * (1000000 ^ i * 1000000) = 1000000 ^ i * (ca + a + b) := by
    rw [Nat.mul_comm ((ca + a + b) / 1000000), Nat.mul_assoc, ← Nat.mul_add]
    congr 1; omega
  rw [Nat.mul_add, Nat.mul_add] at e
  have e2 : ca * 1000000 ^ i = 1000000 ^ i * ca := Nat.mul_comm _ _
  omega
theorem AddR.done {x y : Nat} {ds : List Nat} {i : Nat} (h : AddR (digs x) (digs y) ds i 0) (hx : (digs x).length ≤ i) (hy : (digs y).length ≤ i) : ds = digs (x + y) := by
  have h1 := h.sum
  rw [val_all hx, val_all hy, val_digs, val_digs] at h1
  have h2 : val ds = x + y := by omega
  rw [← h2]
  refine (digs_val h.small ?_).symm
  rcases h.fill with h3 | h3
  · left; exact List.length_eq_zero_iff.1 (by rw [h.len, h3])
  · right; rw [h.len, h2]; rwa [val_digs, val_digs] at h3

/-! ### Differences -/
structure SubR (xs ys ds : List Nat) (i br : Nat) : Prop where
  len : ds.length = i
  small : Small ds
  hbr : br ≤ 1
  sum : val (xs.take i) + br * 1000000 ^ i = val ds + val (ys.take i)
theorem SubR.start (xs ys : List Nat) : SubR xs ys [] 0 0 := ⟨rfl, fun _ h => (nomatch h), by omega, by simp [val]⟩
theorem SubR.round {x y : Nat} {ds : List Nat} {i br : Nat} (h : SubR (digs x) (digs y) ds i br) {d br' : Nat} (hd : d < 1000000) (hb : br' ≤ 1) (he : d + (br + (digs y).getD i 0) = (digs x).getD i 0 + br' * 1000000) :
    SubR (digs x) (digs y) (ds ++ [d]) (i + 1) br' := by
  have h1 := h.sum
  have h2 := val_take' (digs x) i
  have h3 := val_take' (digs y) i
  generalize (digs x).getD i 0 = a at *
  generalize (digs y).getD i 0 = b at *
  refine ⟨by rw [List.length_append, h.len]; rfl, small_snoc h.small hd, hb, ?_⟩
  rw [val_snoc, h.len, h2, h3, Nat.pow_succ]
  have e := congrArg (1000000 ^ i * ·) he
  simp only [Nat.mul_add] at e
  have e2 : br * 1000000 ^ i = 1000000 ^ i * br := Nat.mul_comm _ _
  have e3 : br' * (1000000 ^ i * 1000000) = 1000000 ^ i * (br' * 1000000) := by rw [Nat.mul_comm, Nat.mul_assoc, Nat.mul_comm 1000000]
  omega
theorem SubR.done {x y : Nat} {ds : List Nat} {br : Nat} (h : SubR (digs x) (digs y) ds (digs x).length br) (hxy : y ≤ x) : val ds = x - y := by
  have h1 := h.sum
  have hl : (digs y).length ≤ (digs x).length := digs_len (Nat.lt_of_le_of_lt hxy (digs_lt x))
  rw [val_all (Nat.le_refl _), val_all hl, val_digs, val_digs] at h1
  have h2 := val_lt h.small
  rw [h.len] at h2
  have hbr := h.hbr
  rcases Nat.lt_or_ge br 1 with h3 | h3
  · have : br = 0 := by omega
    subst this; omega
  · have : br = 1 := by omega
    subst this; omega

/-! ### Products -/
/-- The product so far; what is carried. -/
structure MulR (x y : Nat) (ds : List Nat) (i j : Nat) : Prop where
  len : ds.length = (digs x).length + (digs y).length
  small : Small ds
  sum : val ds = val ((digs x).take i) * y + (digs x).getD i 0 * 1000000 ^ i * val ((digs y).take j)
structure CarR (x y : Nat) (ds : List Nat) (i j k c : Nat) : Prop where
  len : ds.length = (digs x).length + (digs y).length
  small : Small ds
  sum : val ds + c * 1000000 ^ k = val ((digs x).take i) * y + (digs x).getD i 0 * 1000000 ^ i * val ((digs y).take (j + 1))
  hc : c < 1000000000000
theorem val_zeros : ∀ n, val (List.replicate n 0) = 0
  | 0 => rfl
  | n + 1 => by rw [List.replicate_succ, val, val_zeros n]
theorem MulR.start (x y : Nat) : MulR x y (List.replicate ((digs x).length + (digs y).length) 0) 0 0 :=
  ⟨by simp, fun d hd => by rw [List.eq_of_mem_replicate hd]; decide, by simp [val_zeros, val]⟩
theorem MulR.carry {x y : Nat} {ds : List Nat} {i j : Nat} (h : MulR x y ds i j) : CarR x y ds i j (i + j) ((digs x).getD i 0 * (digs y).getD j 0) := by
  refine ⟨h.len, h.small, ?_, ?_⟩
  · rw [h.sum, val_take', Nat.mul_add, Nat.pow_add]
    have : (digs x).getD i 0 * (digs y).getD j 0 * (1000000 ^ i * 1000000 ^ j) = (digs x).getD i 0 * 1000000 ^ i * (1000000 ^ j * (digs y).getD j 0) := by
      rw [Nat.mul_mul_mul_comm, Nat.mul_comm ((digs y).getD j 0)]
    omega
  · have h1 := small_getD (small_digs x) i
    have h2 := small_getD (small_digs y) j
    have : (digs x).getD i 0 * (digs y).getD j 0 ≤ 999999 * 999999 := Nat.mul_le_mul (by omega) (by omega)
    omega
theorem take_mul_le (x y i j : Nat) (_hi : i < (digs x).length) : val ((digs x).take i) * y + (digs x).getD i 0 * 1000000 ^ i * val ((digs y).take j) ≤ x * y := by
  have h1 := val_take_le (digs y) j
  rw [val_digs] at h1
  have h2 : (digs x).getD i 0 * 1000000 ^ i * val ((digs y).take j) ≤ (digs x).getD i 0 * 1000000 ^ i * y := Nat.mul_le_mul_left _ h1
  have h3 := val_take' (digs x) i
  have h4 := val_take_le (digs x) (i + 1)
  rw [val_digs, h3] at h4
  have h5 := Nat.mul_le_mul_right y h4
  rw [Nat.add_mul, Nat.mul_comm (1000000 ^ i)] at h5
  omega
/-- As long as something is carried, there is a digit to put it to. -/
theorem CarR.lt {x y : Nat} {ds : List Nat} {i j k c : Nat} (h : CarR x y ds i j k c) (hi : i < (digs x).length) (hc : 0 < c) : k < (digs x).length + (digs y).length := by
  have h1 := take_mul_le x y i (j + 1) hi
  have h2 := h.sum
  have h3 : 1 * 1000000 ^ k ≤ c * 1000000 ^ k := Nat.mul_le_mul_right _ hc
  have h4 : x * y < 1000000 ^ ((digs x).length + (digs y).length) := by
    rw [Nat.pow_add]
    exact Nat.mul_lt_mul'' (digs_lt x) (digs_lt y)
  have h5 : 1000000 ^ k < 1000000 ^ ((digs x).length + (digs y).length) := by omega
  exact (Nat.pow_lt_pow_iff_right (by decide : 1 < 1000000)).1 h5
theorem small_set {l : List Nat} (h : Small l) {k x : Nat} (hx : x < 1000000) : Small (l.set k x) := fun d hd => by
  rcases List.mem_or_eq_of_mem_set hd with hd | rfl
  · exact h d hd
  · exact hx
theorem CarR.round {x y : Nat} {ds : List Nat} {i j k c : Nat} (h : CarR x y ds i j k c) (hk : k < ds.length) :
    CarR x y (ds.set k ((ds.getD k 0 + c) % 1000000)) i j (k + 1) ((ds.getD k 0 + c) / 1000000) := by
  have h1 := h.sum
  have hd := small_getD h.small k
  have hc := h.hc
  refine ⟨by rw [List.length_set]; exact h.len, small_set h.small (by omega), ?_, by omega⟩
  have h2 := val_set hk ((ds.getD k 0 + c) % 1000000)
  rw [← h1, Nat.pow_succ]
  generalize ds.getD k 0 = d at *
  have e : 1000000 ^ k * ((d + c) % 1000000) + (d + c) / 1000000 * (1000000 ^ k * 1000000) = 1000000 ^ k * (d + c) := by
    rw [Nat.mul_comm ((d + c) / 1000000), Nat.mul_assoc, ← Nat.mul_add]
    congr 1; omega
  rw [Nat.mul_add] at e
  have e2 : c * 1000000 ^ k = 1000000 ^ k * c := Nat.mul_comm _ _
  omega
theorem CarR.done {x y : Nat} {ds : List Nat} {i j k : Nat} (h : CarR x y ds i j k 0) : MulR x y ds i (j + 1) := ⟨h.len, h.small, by have := h.sum; omega⟩
theorem MulR.next {x y : Nat} {ds : List Nat} {i : Nat} (h : MulR x y ds i (digs y).length) : MulR x y ds (i + 1) 0 := by
  refine ⟨h.len, h.small, ?_⟩
  rw [h.sum, val_all (Nat.le_refl _), val_digs, val_take' (digs x) i, Nat.add_mul, Nat.mul_comm (1000000 ^ i)]
  simp [val]
theorem MulR.done {x y : Nat} {ds : List Nat} (h : MulR x y ds (digs x).length 0) : val ds = x * y := by
  rw [h.sum, val_all (Nat.le_refl _), val_digs]; simp [val]
end Go.Proofs.YtokbdleokihdaaaGreatDoor
namespace Go.Proofs.YtokbdleokihdaaaGreatDoor

/-- So many bits are still to be tried. -/
structure OvR (x y q k : Nat) : Prop where
  le : q * y ≤ x
  dvd : q % 2 ^ k = 0
  room : q + 2 ^ k ≤ 18446744073709551616
  top : x < (q + 2 ^ k) * y ∨ q + 2 ^ k = 18446744073709551616
theorem OvR.start (x y : Nat) : OvR x y 0 64 := ⟨by simp, by simp, by decide, .inr (by decide)⟩
theorem OvR.take {x y q k : Nat} (h : OvR x y q (k + 1)) (ht : (q + 2 ^ k) * y ≤ x) : OvR x y (q + 2 ^ k) k := by
  have h1 := h.dvd
  have h2 := h.room
  have h3 := h.top
  rw [Nat.pow_succ] at h1 h2 h3
  have e : q + 2 ^ k * 2 = q + 2 ^ k + 2 ^ k := by omega
  rw [e] at h2 h3
  refine ⟨ht, ?_, h2, h3⟩
  rw [Nat.add_mod_right]
  have : q % (2 ^ k * 2) % 2 ^ k = q % 2 ^ k := Nat.mod_mod_of_dvd _ ⟨2, rfl⟩
  rw [← this, h1]; simp
theorem OvR.leave {x y q k : Nat} (h : OvR x y q (k + 1)) (ht : ¬ (q + 2 ^ k) * y ≤ x) : OvR x y q k := by
  have h1 := h.dvd
  have h2 := h.room
  rw [Nat.pow_succ] at h1 h2
  refine ⟨h.le, ?_, by omega, .inl (by omega)⟩
  have : q % (2 ^ k * 2) % 2 ^ k = q % 2 ^ k := Nat.mod_mod_of_dvd _ ⟨2, rfl⟩
  rw [← this, h1]; simp
/-- The bit that is tried is free. -/
theorem OvR.or {x y q k : Nat} (h : OvR x y q (k + 1)) : q ||| 2 ^ k = q + 2 ^ k := by
  have h1 := h.dvd
  have h2 : q = 2 ^ (k + 1) * (q / 2 ^ (k + 1)) := by have := Nat.div_add_mod q (2 ^ (k + 1)); omega
  rw [h2]
  exact (Nat.two_pow_add_eq_or_of_lt (Nat.pow_lt_pow_right (by decide) (Nat.lt_succ_self k)) _).symm
/-- At the end: the quotient, or it has no room. -/
theorem OvR.done {x y q : Nat} (h : OvR x y q 0) (hy : 0 < y) : if x - q * y < y then q = x / y ∧ x / y < 18446744073709551616 else 18446744073709551616 ≤ x / y := by
  have h1 := h.le
  have h2 := h.room
  have h3 := h.top
  simp only [Nat.pow_zero] at h2 h3
  by_cases hr : x - q * y < y
  · rw [if_pos hr]
    have : x / y = q := Nat.div_eq_of_lt_le (by rw [Nat.mul_comm] at h1 ⊢; first | exact h1 | (rw [Nat.mul_comm]; exact h1)) (by rw [Nat.add_mul]; omega)
    omega
  · rw [if_neg hr]
    have h4 : (q + 1) * y ≤ x := by rw [Nat.add_mul]; omega
    have h5 : q + 1 = 18446744073709551616 := by
      rcases h3 with h3 | h3
      · omega
      · exact h3
    rw [← h5]
    exact (Nat.le_div_iff_mul_le hy).2 h4
end Go.Proofs.YtokbdleokihdaaaGreatDoor

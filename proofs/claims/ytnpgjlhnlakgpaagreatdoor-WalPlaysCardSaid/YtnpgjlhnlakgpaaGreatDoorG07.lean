/- A value of the program, in plain Lean. No program in sight. Plain laws of a log's bytes: the sum, the frame, the whole frames. No program in sight. What a crash leaves of frames: a beginning of their records, with all that were safe. Plain lists, no program in sight. -/
import Derived.WalkKit
namespace Go.Proofs.YtnpgjlhnlakgpaaGreatDoor
open Go.RowKit

/-- A value of the program: its kind, its number, its bytes. -/
structure Dt where
  k : Int
  i : Int
  s : ByteArray
instance : Inhabited Dt := ⟨⟨0, 0, ⟨#[]⟩⟩⟩
abbrev Dt.v (d : Dt) : Value := .agg #[.int .i64 d.k, .int .i64 d.i, .string d.s]
def Dt.zero : Dt := ⟨0, 0, ⟨#[]⟩⟩
end Go.Proofs.YtnpgjlhnlakgpaaGreatDoor
namespace Go.Proofs.YtnpgjlhnlakgpaaGreatDoor

def polyN : Nat := 3988292384
/-- One step of the sum's register. -/
def stepN (r : Nat) : Nat := (r >>> 1) ^^^ (if r % 2 = 1 then polyN else 0)
def steps8 (r : Nat) : Nat := stepN (stepN (stepN (stepN (stepN (stepN (stepN (stepN r)))))))
/-- The register behind bytes. -/
def regN (r : Nat) (l : List UInt8) : Nat := l.foldl (fun r c => steps8 (r ^^^ c.toNat)) r
def sumN (l : List UInt8) : Nat := 4294967295 - regN 4294967295 l

theorem xor_lt32 {a b : Nat} (h : a < 4294967296) (k : b < 4294967296) : a ^^^ b < 4294967296 := Nat.xor_lt_two_pow (n := 32) h k
theorem stepN_lt {r : Nat} (h : r < 4294967296) : stepN r < 4294967296 := by
  unfold stepN
  refine xor_lt32 ?_ ?_
  · rw [Nat.shiftRight_eq_div_pow]; omega
  · split <;> decide
theorem steps8_lt {r : Nat} (h : r < 4294967296) : steps8 r < 4294967296 :=
  stepN_lt (stepN_lt (stepN_lt (stepN_lt (stepN_lt (stepN_lt (stepN_lt (stepN_lt h)))))))
theorem regN_lt : ∀ (l : List UInt8) {r : Nat}, r < 4294967296 → regN r l < 4294967296
  | [], r, h => h
  | c :: l, r, h => by
    have hc := c.toNat_lt
    exact regN_lt l (steps8_lt (xor_lt32 h (by omega)))
theorem sumN_lt (l : List UInt8) : sumN l < 4294967296 := by unfold sumN; omega
/-- The highest bit of a step tells the lowest bit of what was. -/
theorem stepN_top {r : Nat} (h : r < 4294967296) : (stepN r).testBit 31 = decide (r % 2 = 1) := by
  unfold stepN
  rw [Nat.testBit_xor]
  have h1 : (r >>> 1).testBit 31 = false := by
    rw [Nat.testBit_shiftRight]
    exact Nat.testBit_lt_two_pow (by omega)
  rw [h1]
  split
  · rename_i hc; simp [hc]; decide
  · rename_i hc; simp [hc]
theorem stepN_inj {a b : Nat} (ha : a < 4294967296) (hb : b < 4294967296) (h : stepN a = stepN b) : a = b := by
  have h1 := stepN_top ha
  have h2 := stepN_top hb
  rw [h, h2] at h1
  have hp : (a % 2 = 1) ↔ (b % 2 = 1) := by simpa using h1.symm
  have hs : a >>> 1 = b >>> 1 := by
    unfold stepN at h
    by_cases hc : a % 2 = 1
    · rw [if_pos hc, if_pos (hp.1 hc)] at h
      have := congrArg (· ^^^ polyN) h
      simpa [Nat.xor_assoc, Nat.xor_self] using this
    · rw [if_neg hc, if_neg (fun h => hc (hp.2 h))] at h
      simpa using h
  rw [Nat.shiftRight_eq_div_pow, Nat.shiftRight_eq_div_pow] at hs
  omega
theorem steps8_inj {a b : Nat} (ha : a < 4294967296) (hb : b < 4294967296) (h : steps8 a = steps8 b) : a = b := by
  unfold steps8 at h
  have l1 := @stepN_lt
  exact stepN_inj ha hb (stepN_inj (l1 ha) (l1 hb) (stepN_inj (l1 (l1 ha)) (l1 (l1 hb)) (stepN_inj (l1 (l1 (l1 ha))) (l1 (l1 (l1 hb))) (stepN_inj (l1 (l1 (l1 (l1 ha)))) (l1 (l1 (l1 (l1 hb))))
    (stepN_inj (l1 (l1 (l1 (l1 (l1 ha))))) (l1 (l1 (l1 (l1 (l1 hb))))) (stepN_inj (l1 (l1 (l1 (l1 (l1 (l1 ha)))))) (l1 (l1 (l1 (l1 (l1 (l1 hb)))))) (stepN_inj (l1 (l1 (l1 (l1 (l1 (l1 (l1 ha))))))) (l1 (l1 (l1 (l1 (l1 (l1 (l1 hb))))))) h)))))))
theorem xor_cancel {a b c : Nat} (h : a ^^^ c = b ^^^ c) : a = b := by
  have := congrArg (· ^^^ c) h
  simpa [Nat.xor_assoc, Nat.xor_self] using this
theorem regN_inj : ∀ (l : List UInt8) {a b : Nat}, a < 4294967296 → b < 4294967296 → regN a l = regN b l → a = b
  | [], a, b, _, _, h => h
  | c :: l, a, b, ha, hb, h => by
    have hc := c.toNat_lt
    have h1 := xor_lt32 ha (b := c.toNat) (by omega)
    have h2 := xor_lt32 hb (b := c.toNat) (by omega)
    exact xor_cancel (steps8_inj h1 h2 (regN_inj l (steps8_lt h1) (steps8_lt h2) h))
theorem regN_app (r : Nat) (a b : List UInt8) : regN r (a ++ b) = regN (regN r a) b := by simp [regN, List.foldl_append]
/-- Another byte, another sum. -/
theorem sumN_other (a b : List UInt8) {x y : UInt8} (h : x ≠ y) : sumN (a ++ x :: b) ≠ sumN (a ++ y :: b) := by
  intro he
  have e : ∀ z, regN 4294967295 (a ++ z :: b) = regN (steps8 (regN 4294967295 a ^^^ z.toNat)) b := fun z => by rw [regN_app]; rfl
  have hr := regN_lt a (r := 4294967295) (by decide)
  have lx := fun z : UInt8 => xor_lt32 hr (b := z.toNat) (by have := z.toNat_lt; omega)
  have h1 := regN_lt b (steps8_lt (lx x))
  have h2 := regN_lt b (steps8_lt (lx y))
  unfold sumN at he
  rw [e, e] at he
  have h3 := regN_inj b (steps8_lt (lx x)) (steps8_lt (lx y)) (by omega)
  have h4 := steps8_inj (lx x) (lx y) h3
  rw [Nat.xor_comm _ x.toNat, Nat.xor_comm _ y.toNat] at h4
  exact h (UInt8.toNat_inj.1 (xor_cancel h4))

/-- The sum bit by bit, as the document says it. -/
def rbit (r b : Nat) : Nat := (r >>> 1) ^^^ (if r % 2 = b % 2 then 0 else polyN)
theorem rbit_lt {r b : Nat} (h : r < 4294967296) : rbit r b < 4294967296 := by
  unfold rbit
  refine xor_lt32 ?_ ?_
  · rw [Nat.shiftRight_eq_div_pow]; omega
  · split <;> decide
theorem xor_odd (a b : Nat) : (a ^^^ b) % 2 = 1 ↔ ¬ a % 2 = b % 2 := by
  have := Nat.testBit_xor a b 0
  simp only [Nat.testBit_zero] at this
  rcases Nat.mod_two_eq_zero_or_one a with h1 | h1 <;> rcases Nat.mod_two_eq_zero_or_one b with h2 | h2 <;> simp [h1, h2] at this ⊢ <;> exact this
theorem step_rbit (r b : Nat) : stepN (r ^^^ b) = rbit r b ^^^ (b >>> 1) := by
  unfold stepN rbit
  rw [Nat.shiftRight_xor_distrib]
  by_cases h : r % 2 = b % 2
  · rw [if_neg (by rw [xor_odd]; simpa using h), if_pos h]
    simp
  · rw [if_pos ((xor_odd r b).2 h), if_neg h]
    rw [Nat.xor_assoc, Nat.xor_assoc, Nat.xor_comm (b >>> 1)]
def rbits : Nat → Nat → Nat → Nat
  | 0, r, _ => r
  | n + 1, r, b => rbits n (rbit r b) (b >>> 1)
theorem rbits_eight (r : Nat) (c : Nat) (hc : c < 256) : rbits 8 r c = steps8 (r ^^^ c) := by
  have h0 : c >>> 1 >>> 1 >>> 1 >>> 1 >>> 1 >>> 1 >>> 1 >>> 1 = 0 := by simp only [Nat.shiftRight_eq_div_pow]; omega
  simp only [steps8, step_rbit, rbits, h0, Nat.xor_zero]

/-- A number in four bytes, the highest first. -/
def fourN (n : Nat) : List UInt8 := [UInt8.ofNat (n / 16777216 % 256), UInt8.ofNat (n / 65536 % 256), UInt8.ofNat (n / 256 % 256), UInt8.ofNat (n % 256)]
def getN (l : List UInt8) : Nat := 16777216 * (l.getD 0 0).toNat + 65536 * (l.getD 1 0).toNat + 256 * (l.getD 2 0).toNat + (l.getD 3 0).toNat
theorem get_four {n : Nat} (h : n < 4294967296) (r : List UInt8) : getN (fourN n ++ r) = n := by
  simp [getN, fourN]; omega
theorem getN_lt (l : List UInt8) : getN l < 4294967296 := by
  have h0 := (l.getD 0 0).toNat_lt
  have h1 := (l.getD 1 0).toNat_lt
  have h2 := (l.getD 2 0).toNat_lt
  have h3 := (l.getD 3 0).toNat_lt
  unfold getN; omega
theorem four_get {a b c d : UInt8} (r : List UInt8) : fourN (getN (a :: b :: c :: d :: r)) = [a, b, c, d] := by
  have h0 := a.toNat_lt
  have h1 := b.toNat_lt
  have h2 := c.toNat_lt
  have h3 := d.toNat_lt
  have e : ∀ (x : UInt8) (n : Nat), n = x.toNat → UInt8.ofNat n = x := fun x n h => by rw [h]; simp
  simp only [fourN, getN, List.getD_cons_zero, List.getD_cons_succ, List.cons.injEq, and_true]
  exact ⟨e a _ (by omega), e b _ (by omega), e c _ (by omega), e d _ (by omega)⟩
theorem four_inj {m n : Nat} (hm : m < 4294967296) (hn : n < 4294967296) (h : fourN m = fourN n) : m = n := by
  rw [← get_four hm [], ← get_four hn [], h]

/-- A record's frame. -/
def frameN (r : List UInt8) : List UInt8 := fourN r.length ++ fourN (sumN (fourN r.length)) ++ r ++ fourN (sumN r)
/-- The record of the frame that bytes begin with. -/
def oneN (s : List UInt8) : Option (List UInt8) :=
  if s.length < 8 ∨ sumN (s.take 4) ≠ getN (s.drop 4) ∨ 65536 < getN s ∨ s.length < 12 + getN s ∨ sumN ((s.drop 8).take (getN s)) ≠ getN (s.drop (8 + getN s)) then none else some ((s.drop 8).take (getN s))
/-- The whole frames that bytes begin with: their records, and where they end. -/
def scanN : Nat → List UInt8 → List (List UInt8) × Nat
  | 0, _ => ([], 0)
  | f + 1, s => match oneN s with
    | none => ([], 0)
    | some r => ((r :: (scanN f (s.drop (12 + r.length))).1), 12 + r.length + (scanN f (s.drop (12 + r.length))).2)
theorem oneN_len {s r : List UInt8} (h : oneN s = some r) : 12 + r.length ≤ s.length ∧ r.length = getN s ∧ getN s ≤ 65536 := by
  unfold oneN at h
  split at h
  · cases h
  · rename_i hc
    cases h
    rw [List.length_take, List.length_drop]
    omega
theorem scanN_fuel : ∀ (f g : Nat) (s : List UInt8), s.length < f → s.length < g → scanN f s = scanN g s
  | 0, _, _, h, _ => by omega
  | _, 0, _, _, h => by omega
  | f + 1, g + 1, s, hf, hg => by
    simp only [scanN]
    cases h : oneN s with
    | none => rfl
    | some r =>
      have := oneN_len h
      simp only
      rw [scanN_fuel f g (s.drop (12 + r.length)) (by rw [List.length_drop]; omega) (by rw [List.length_drop]; omega)]
def scanF (s : List UInt8) : List (List UInt8) × Nat := scanN (s.length + 1) s
theorem scanF_none {s : List UInt8} (h : oneN s = none) : scanF s = ([], 0) := by simp [scanF, scanN, h]
theorem scanF_some {s r : List UInt8} (h : oneN s = some r) : scanF s = (r :: (scanF (s.drop (12 + r.length))).1, 12 + r.length + (scanF (s.drop (12 + r.length))).2) := by
  have := oneN_len h
  have e := scanN_fuel s.length ((s.drop (12 + r.length)).length + 1) (s.drop (12 + r.length)) (by rw [List.length_drop]; omega) (by omega)
  unfold scanF
  rw [← e, scanN, h]
theorem frame_len (r : List UInt8) : (frameN r).length = r.length + 12 := by simp [frameN, fourN]
theorem one_frame (r x : List UInt8) (h : r.length ≤ 65536) : oneN (frameN r ++ x) = some r := by
  have e : frameN r ++ x = fourN r.length ++ (fourN (sumN (fourN r.length)) ++ (r ++ (fourN (sumN r) ++ x))) := by simp [frameN]
  have hg : getN (frameN r ++ x) = r.length := by rw [e, get_four (by omega)]
  have l4 : ∀ n, (fourN n).length = 4 := fun _ => rfl
  have d4 : (frameN r ++ x).drop 4 = fourN (sumN (fourN r.length)) ++ (r ++ (fourN (sumN r) ++ x)) := by rw [e, List.drop_left' (l4 _)]
  have t4 : (frameN r ++ x).take 4 = fourN r.length := by rw [e, List.take_left' (l4 _)]
  have d8 : (frameN r ++ x).drop 8 = r ++ (fourN (sumN r) ++ x) := by rw [show 8 = 4 + 4 from rfl, ← List.drop_drop, d4, List.drop_left' (l4 _)]
  have d8n : (frameN r ++ x).drop (8 + r.length) = fourN (sumN r) ++ x := by rw [← List.drop_drop, d8, List.drop_left]
  have hl : (frameN r ++ x).length = r.length + 12 + x.length := by rw [List.length_append, frame_len]
  unfold oneN
  rw [hg, d4, t4, d8, d8n, get_four (sumN_lt _), get_four (sumN_lt _), List.take_left, if_neg]
  rw [hl]
  simp
  omega
/-- Bytes that lack: no frame. -/
theorem one_short (r : List UInt8) (h : r.length ≤ 65536) (n : Nat) (hn : n < (frameN r).length) : oneN ((frameN r).take n) = none := by
  rw [frame_len] at hn
  have hl : ((frameN r).take n).length = n := by rw [List.length_take, frame_len]; omega
  unfold oneN
  rw [if_pos]
  by_cases h8 : n < 8
  · exact .inl (by omega)
  · right; right; right; left
    have e : frameN r = fourN r.length ++ (fourN (sumN (fourN r.length)) ++ (r ++ fourN (sumN r))) := by simp [frameN]
    have hg : getN ((frameN r).take n) = r.length := by
      rw [e, List.take_append, List.take_of_length_le (show (fourN r.length).length ≤ n by show 4 ≤ n; omega), get_four (by omega)]
    omega
theorem app_split {A B x y : List UInt8} {a : UInt8} (h : A ++ B = x ++ a :: y) : (∃ y1, A = x ++ a :: y1 ∧ y = y1 ++ B) ∨ ∃ x1, x = A ++ x1 ∧ B = x1 ++ a :: y := by
  rcases List.append_eq_append_iff.1 h with ⟨c, h1, h2⟩ | ⟨c, h1, h2⟩
  · exact .inr ⟨c, h1, h2⟩
  · cases c with
    | nil => exact .inr ⟨[], by simpa using h1.symm, by simpa using h2.symm⟩
    | cons d c =>
      simp only [List.cons_append, List.cons.injEq] at h2
      exact .inl ⟨c, by rw [h1, h2.1], h2.2⟩
theorem four_of_get {l : List UInt8} {n : Nat} (hl : l.length = 4) (r : List UInt8) (h : getN (l ++ r) = n) : l = fourN n := by
  obtain ⟨a, b, c, d, rfl⟩ : ∃ a b c d, l = [a, b, c, d] := by
    match l, hl with
    | [a, b, c, d], _ => exact ⟨a, b, c, d, rfl⟩
  rw [← h]
  exact (four_get r).symm
/-- A byte that is another one: no frame. -/
theorem one_torn (r x y : List UInt8) (a b : UInt8) (z : List UInt8) (h : r.length ≤ 65536) (he : frameN r = x ++ a :: y) (hab : a ≠ b) : oneN (x ++ b :: (y ++ z)) = none := by
  cases ho : oneN (x ++ b :: (y ++ z)) with
  | none => rfl
  | some q =>
    exfalso
    unfold oneN at ho
    split at ho
    · cases ho
    rename_i hc
    simp only [not_or, Decidable.not_not] at hc
    obtain ⟨_, c2, _, _, c5⟩ := hc
    have l4 : ∀ n, (fourN n).length = 4 := fun _ => rfl
    have e : frameN r = fourN r.length ++ (fourN (sumN (fourN r.length)) ++ (r ++ fourN (sumN r))) := by simp [frameN]
    rw [e] at he
    rcases app_split he with ⟨y1, h1, h2⟩ | ⟨x1, rfl, h2⟩
    · have hl : (x ++ b :: y1).length = 4 := by rw [← l4 r.length, h1]; simp
      have et : x ++ b :: (y ++ z) = (x ++ b :: y1) ++ (fourN (sumN (fourN r.length)) ++ (r ++ fourN (sumN r)) ++ z) := by rw [h2]; simp
      rw [et, List.take_left' hl, List.drop_left' hl, List.append_assoc, get_four (sumN_lt _), h1] at c2
      exact sumN_other x y1 (Ne.symm hab) c2
    · have e4 : ∀ u, (fourN r.length ++ x1) ++ u = fourN r.length ++ (x1 ++ u) := fun u => by simp
      rw [e4] at c2 c5
      rw [List.take_left' (l4 _), List.drop_left' (l4 _)] at c2
      rw [get_four (by omega)] at c5
      rcases app_split h2 with ⟨y1, h3, h4⟩ | ⟨x2, rfl, h3⟩
      · have hl : (x1 ++ b :: y1).length = 4 := by rw [← l4 (sumN (fourN r.length)), h3]; simp
        have et : x1 ++ b :: (y ++ z) = (x1 ++ b :: y1) ++ ((r ++ fourN (sumN r)) ++ z) := by rw [h4]; simp
        rw [et] at c2
        have := four_of_get hl _ c2.symm
        rw [← this] at h3
        simp at h3
        exact hab h3.symm
      · have e8 : fourN r.length ++ (fourN (sumN (fourN r.length)) ++ x2 ++ b :: (y ++ z)) = (fourN r.length ++ fourN (sumN (fourN r.length))) ++ (x2 ++ b :: (y ++ z)) := by simp
        have l8 : (fourN r.length ++ fourN (sumN (fourN r.length))).length = 8 := rfl
        rw [e8, ← List.drop_drop, List.drop_left' l8] at c5
        rcases app_split h3 with ⟨y1, h4, h5⟩ | ⟨x3, rfl, h4⟩
        · have hl : (x2 ++ b :: y1).length = r.length := by rw [h4]; simp
          have et : x2 ++ b :: (y ++ z) = (x2 ++ b :: y1) ++ (fourN (sumN r) ++ z) := by rw [h5]; simp
          rw [et, List.take_left' hl, List.drop_left' hl, get_four (sumN_lt _)] at c5
          have c6 : sumN (x2 ++ b :: y1) = sumN (x2 ++ a :: y1) := by rw [c5]; rw [h4]
          exact sumN_other x2 y1 (Ne.symm hab) c6
        · have er : r ++ x3 ++ b :: (y ++ z) = r ++ (x3 ++ b :: (y ++ z)) := by simp
          rw [er, List.take_left, List.drop_left] at c5
          have hl : (x3 ++ b :: y).length = 4 := by rw [← l4 (sumN r), h4]; simp
          have et : x3 ++ b :: (y ++ z) = (x3 ++ b :: y) ++ z := by simp
          rw [et] at c5
          have := four_of_get hl _ c5.symm
          rw [← this] at h4
          simp at h4
          exact hab h4.symm
/-- Frames one behind the other. -/
def framesN (l : List (List UInt8)) : List UInt8 := l.flatMap frameN
theorem scan_frames : ∀ (l : List (List UInt8)) (x : List UInt8), (∀ r ∈ l, r.length ≤ 65536) → scanF (framesN l ++ x) = (l ++ (scanF x).1, (framesN l).length + (scanF x).2)
  | [], x, _ => by simp [framesN]
  | r :: l, x, h => by
    have e : framesN (r :: l) ++ x = frameN r ++ (framesN l ++ x) := by simp [framesN]
    have h1 := one_frame r (framesN l ++ x) (h r (by simp))
    have hl : (frameN r).length = 12 + r.length := by rw [frame_len]; omega
    rw [e, scanF_some h1, List.drop_left' hl, scan_frames l x (fun q hq => h q (by simp [hq]))]
    simp only [framesN, List.flatMap_cons, List.length_append, List.cons_append, hl, Prod.mk.injEq, true_and]
    omega
theorem scan_nil : scanF [] = ([], 0) := scanF_none (by simp [oneN])
end Go.Proofs.YtnpgjlhnlakgpaaGreatDoor
namespace Go.Proofs.YtnpgjlhnlakgpaaGreatDoor

theorem set_split {l : List UInt8} {p : Nat} (hp : p < l.length) (c : UInt8) : l = l.take p ++ l[p] :: l.drop (p + 1) ∧ l.set p c = l.take p ++ c :: l.drop (p + 1) := by
  constructor
  · rw [← List.drop_eq_getElem_cons hp, List.take_append_drop]
  · rw [List.set_eq_take_append_cons_drop, if_pos hp]
theorem set_same {l : List UInt8} {p : Nat} (hp : p < l.length) : l.set p l[p] = l := List.set_getElem_self hp
theorem frame_head (r : List UInt8) : frameN r = (fourN r.length ++ fourN (sumN (fourN r.length))) ++ (r ++ fourN (sumN r)) := by simp [frameN]
/-- Bytes that lack, and one that is another one: no frame. -/
theorem torn_short (r : List UInt8) (h : r.length ≤ 65536) (M p : Nat) (c : UInt8) (hM : M < (frameN r).length) : oneN (((frameN r).take M).set p c) = none := by
  have hl : ((frameN r).take M).length = M := by rw [List.length_take]; omega
  by_cases hp : ¬ p < M
  · rw [List.set_eq_of_length_le (by omega)]
    exact one_short r h M hM
  replace hp : p < M := by omega
  by_cases hs : c = ((frameN r).take M)[p]'(by omega)
  · rw [hs, set_same]
    exact one_short r h M hM
  rw [frame_len] at hM
  have l4 : ∀ n, (fourN n).length = 4 := fun _ => rfl
  have hlC : (((frameN r).take M).set p c).length = M := by rw [List.length_set, hl]
  unfold oneN
  rw [if_pos]
  by_cases h8 : M < 8
  · exact .inl (by omega)
  obtain ⟨X, hX⟩ : ∃ X, (frameN r).take M = (fourN r.length ++ fourN (sumN (fourN r.length))) ++ X := by
    refine ⟨(r ++ fourN (sumN r)).take (M - 8), ?_⟩
    rw [frame_head, List.take_append, List.take_of_length_le (by simp [l4]; omega)]
    simp [l4]
  have hCg : ((frameN r).take M)[p]? = some (((frameN r).take M)[p]'(by omega)) := List.getElem?_eq_getElem _
  generalize ((frameN r).take M)[p]'(by omega) = old at *
  rw [hX] at hlC hCg ⊢
  by_cases h4 : p < 4
  · right; left
    rw [List.append_assoc, List.set_append_left _ _ (by rw [l4]; exact h4)]
    have hl4 : ((fourN r.length).set p c).length = 4 := by rw [List.length_set, l4]
    rw [List.take_left' hl4, List.drop_left' hl4, get_four (sumN_lt _)]
    rw [List.append_assoc, List.getElem?_append_left (by rw [l4]; exact h4)] at hCg
    obtain ⟨hp4, hg⟩ := List.getElem?_eq_some_iff.1 hCg
    obtain ⟨e1, e2⟩ := set_split (l := fourN r.length) (p := p) hp4 c
    rw [e2]
    conv => rhs; rw [e1]
    rw [hg]
    exact sumN_other _ _ hs
  · by_cases h8p : p < 8
    · right; left
      rw [List.append_assoc, List.set_append_right _ _ (by rw [l4]; omega), l4, List.set_append_left _ _ (by rw [l4]; omega)]
      rw [List.take_left' (l4 _), List.drop_left' (l4 _)]
      intro he
      have hl4 : ((fourN (sumN (fourN r.length))).set (p - 4) c).length = 4 := by rw [List.length_set, l4]
      have := four_of_get hl4 X he.symm
      rw [List.append_assoc, List.getElem?_append_right (by rw [l4]; omega), l4, List.getElem?_append_left (by rw [l4]; omega)] at hCg
      rw [← this, List.getElem?_set_self (by rw [l4]; omega)] at hCg
      exact hs (Option.some.inj hCg)
    · right; right; right; left
      have hl8 : (fourN r.length ++ fourN (sumN (fourN r.length))).length = 8 := rfl
      rw [List.set_append_right _ _ (by rw [hl8]; omega)]
      have hg : getN ((fourN r.length ++ fourN (sumN (fourN r.length))) ++ X.set (p - (fourN r.length ++ fourN (sumN (fourN r.length))).length) c) = r.length := by
        rw [List.append_assoc, get_four (by omega)]
      rw [hg]
      rw [List.set_append_right _ _ (by rw [hl8]; omega)] at hlC
      omega
/-- A whole frame of which a byte is another one: no frame. -/
theorem torn_set (r : List UInt8) (h : r.length ≤ 65536) (p : Nat) (c : UInt8) (hp : p < (frameN r).length) (hc : c ≠ (frameN r)[p]) (z : List UInt8) : oneN ((frameN r).set p c ++ z) = none := by
  obtain ⟨e1, e2⟩ := set_split hp c
  rw [e2, List.append_assoc, List.cons_append]
  exact one_torn r _ _ _ _ z h e1 (Ne.symm hc)

theorem framesN_nil : framesN [] = [] := rfl
theorem framesN_cons (r : List UInt8) (l : List (List UInt8)) : framesN (r :: l) = frameN r ++ framesN l := by simp [framesN]
theorem framesN_app (a b : List (List UInt8)) : framesN (a ++ b) = framesN a ++ framesN b := by simp [framesN]
/-- What a crash leaves of frames of which the first s bytes are safe tells a beginning of their records, with all that lie in these s bytes. -/
theorem crash_scan : ∀ (l : List (List UInt8)) (s M p : Nat) (c : UInt8), (∀ r ∈ l, r.length ≤ 65536) → s ≤ M → M ≤ (framesN l).length → s ≤ p →
    ∃ j, j ≤ l.length ∧ scanF (((framesN l).take M).set p c) = (l.take j, (framesN (l.take j)).length) ∧ ((framesN l).take M).set p c = framesN (l.take j) ++ (((framesN l).take M).set p c).drop (framesN (l.take j)).length ∧ ∀ i, i ≤ l.length → (framesN (l.take i)).length ≤ s → i ≤ j
  | [], s, M, p, c, _, _, hM, _ => by
    refine ⟨0, Nat.le_refl _, ?_, by simp [framesN], fun i hi _ => by simpa using hi⟩
    simp [framesN, scan_nil]
  | r :: l, s, M, p, c, h, hs, hM, hp => by
    have hr := h r (by simp)
    have hn := frame_len r
    rw [framesN_cons] at hM ⊢
    rw [List.length_append] at hM
    have stop : ∀ C : List UInt8, oneN C = none → s < (frameN r).length → ∃ j, j ≤ (r :: l).length ∧ scanF C = ((r :: l).take j, (framesN ((r :: l).take j)).length) ∧ C = framesN ((r :: l).take j) ++ C.drop (framesN ((r :: l).take j)).length ∧ ∀ i, i ≤ (r :: l).length → (framesN ((r :: l).take i)).length ≤ s → i ≤ j := by
      intro C hC hlt
      refine ⟨0, by omega, by rw [scanF_none hC]; simp [framesN], by simp [framesN], fun i _ hi => ?_⟩
      cases i with
      | zero => omega
      | succ i => rw [List.take_succ_cons, framesN_cons, List.length_append] at hi; omega
    have go : ∀ p, s ≤ p → (frameN r).length ≤ p → (frameN r).length ≤ M → ∃ j, j ≤ (r :: l).length ∧ scanF (((frameN r ++ framesN l).take M).set p c) = ((r :: l).take j, (framesN ((r :: l).take j)).length) ∧ ((frameN r ++ framesN l).take M).set p c = framesN ((r :: l).take j) ++ (((frameN r ++ framesN l).take M).set p c).drop (framesN ((r :: l).take j)).length ∧ ∀ i, i ≤ (r :: l).length → (framesN ((r :: l).take i)).length ≤ s → i ≤ j := by
      intro p hp hpn hMn
      have e : ((frameN r ++ framesN l).take M).set p c = frameN r ++ ((framesN l).take (M - (frameN r).length)).set (p - (frameN r).length) c := by
        rw [List.take_append, List.take_of_length_le hMn, List.set_append_right _ _ hpn]
      obtain ⟨j, hj, h1, h2, h3⟩ := crash_scan l (s - (frameN r).length) (M - (frameN r).length) (p - (frameN r).length) c (fun q hq => h q (by simp [hq])) (by omega) (by omega) (by omega)
      refine ⟨j + 1, by simp; omega, ?_, ?_, fun i hi hi2 => ?_⟩
      · rw [e, scanF_some (one_frame r _ hr), List.drop_left' (by rw [hn]; omega), h1, List.take_succ_cons, framesN_cons, List.length_append, hn]
        simp; omega
      · rw [e, List.take_succ_cons, framesN_cons, List.length_append, ← List.drop_drop, List.drop_left, List.append_assoc, ← h2]
      · cases i with
        | zero => omega
        | succ i =>
          rw [List.take_succ_cons, framesN_cons, List.length_append] at hi2
          have := h3 i (by simpa using hi) (by omega)
          omega
    by_cases hMn : M < (frameN r).length
    · have e : ((frameN r ++ framesN l).take M).set p c = ((frameN r).take M).set p c := by rw [List.take_append_of_le_length (by omega)]
      rw [e]
      exact stop _ (torn_short r hr M p c hMn) (by omega)
    by_cases hpn : (frameN r).length ≤ p
    · exact go p hp hpn (by omega)
    have hpl : p < (frameN r).length := by omega
    by_cases hc : c = (frameN r)[p]
    · have e : ((frameN r ++ framesN l).take M).set p c = ((frameN r ++ framesN l).take M).set M c := by
        rw [List.set_eq_of_length_le (i := M) (by rw [List.length_take]; omega), hc]
        have hpM : p < ((frameN r ++ framesN l).take M).length := by rw [List.length_take, List.length_append]; omega
        have e2 : (frameN r)[p] = ((frameN r ++ framesN l).take M)[p] := by rw [List.getElem_take, List.getElem_append_left hpl]
        rw [e2, set_same]
      rw [e]
      exact go M hs (by omega) (by omega)
    · have e : ((frameN r ++ framesN l).take M).set p c = (frameN r).set p c ++ (framesN l).take (M - (frameN r).length) := by
        rw [List.take_append, List.take_of_length_le (by omega), List.set_append_left _ _ hpl]
      rw [e]
      exact stop _ (torn_set r hr p c hpl hc _) (by omega)

/-- What whole frames take is their frames. -/
theorem one_back {s r : List UInt8} (h : oneN s = some r) : s.take (12 + r.length) = frameN r ∧ r.length ≤ 65536 := by
  obtain ⟨h1, h2, h3⟩ := oneN_len h
  refine ⟨?_, by omega⟩
  unfold oneN at h
  split at h
  · cases h
  rename_i hc
  simp only [not_or, Decidable.not_not] at hc
  obtain ⟨_, c2, _, _, c5⟩ := hc
  have hr : (s.drop 8).take (getN s) = r := Option.some.inj h
  rw [hr] at c5
  have f4 : ∀ (l : List UInt8), 4 ≤ l.length → l.take 4 = fourN (getN l) := fun l hl => by
    match l, hl with
    | a :: b :: c :: d :: t, _ => exact (four_get t).symm
  have e1 := f4 s (by omega)
  have e2 := f4 (s.drop 4) (by rw [List.length_drop]; omega)
  have e3 := f4 (s.drop (8 + getN s)) (by rw [List.length_drop]; omega)
  rw [← c2, e1, ← h2] at e2
  rw [← c5, ← h2] at e3
  rw [← h2] at e1 hr
  have t1 : s.take (12 + r.length) = s.take 4 ++ (s.drop 4).take (8 + r.length) := by rw [show 12 + r.length = 4 + (8 + r.length) by omega, List.take_add]
  have t2 : (s.drop 4).take (8 + r.length) = (s.drop 4).take 4 ++ (s.drop 8).take (4 + r.length) := by rw [show 8 + r.length = 4 + (4 + r.length) by omega, List.take_add, List.drop_drop]
  have t3 : (s.drop 8).take (4 + r.length) = (s.drop 8).take r.length ++ (s.drop (8 + r.length)).take 4 := by rw [show 4 + r.length = r.length + 4 by omega, List.take_add, List.drop_drop]
  rw [t1, t2, t3, e1, e2, e3, hr]
  simp [frameN]
theorem scan_back : ∀ (f : Nat) (s : List UInt8), s.length < f → s.take (scanN f s).2 = framesN (scanN f s).1 ∧ (scanN f s).2 ≤ s.length ∧ ∀ r ∈ (scanN f s).1, r.length ≤ 65536
  | 0, _, h => by omega
  | f + 1, s, h => by
    simp only [scanN]
    cases ho : oneN s with
    | none => simp [framesN]
    | some r =>
      obtain ⟨h1, h2, h3⟩ := oneN_len ho
      obtain ⟨b1, b2⟩ := one_back ho
      obtain ⟨i1, i2, i3⟩ := scan_back f (s.drop (12 + r.length)) (by rw [List.length_drop]; omega)
      rw [List.length_drop] at i2
      refine ⟨?_, by simp only; omega, fun q hq => ?_⟩
      · simp only [framesN_cons]
        rw [List.take_add, b1, i1]
      · rcases List.mem_cons.1 hq with rfl | hq
        · exact b2
        · exact i3 q hq
theorem scanF_back (s : List UInt8) : s.take (scanF s).2 = framesN (scanF s).1 ∧ (scanF s).2 ≤ s.length ∧ ∀ r ∈ (scanF s).1, r.length ≤ 65536 := scan_back _ s (Nat.lt_succ_self _)
end Go.Proofs.YtnpgjlhnlakgpaaGreatDoor

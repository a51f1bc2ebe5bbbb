/- A disk kept as a list of files: to set, to drop, to put in its place are what the map's disk does. A crash, file by file. -/
import Derived.Test.YtnpgjlhnlakgpaaDoorVfsLaw
namespace Go.Proofs.YtnpgjlhnlakgpaaDoor
open Go.RowKit Go.Maps

theorem before_asymm {a b : List UInt8} (h : bytesBefore a b = true) : ¬ bytesBefore b a = true := fun h2 => by
  have := WideShapes.bytes_trans _ _ _ h h2
  rw [WideAt.bytes_irrefl] at this; cases this
theorem before_ne {a b : List UInt8} (h : bytesBefore a b = true) : a ≠ b := fun e => by rw [e, WideAt.bytes_irrefl] at h; cases h
theorem delF_later {k : List UInt8} {L : List Fl} (h : ∀ g ∈ L, bytesBefore k g.key = true) : delF k L = L := by
  unfold delF
  rw [List.filter_eq_self]
  intro a ha
  have : a.key ≠ k := fun e => before_ne (h a ha) e.symm
  simpa using this
theorem insF_first {f : Fl} {L : List Fl} (h : ∀ g ∈ L, bytesBefore f.key g.key = true) : insF f L = f :: L := by
  cases L with
  | nil => rfl
  | cons y r => unfold insF; rw [if_pos (h y (by simp))]
theorem putF_set : ∀ {L : List Fl}, Rising L → ∀ {f g : Fl} {i : Nat}, L[i]? = some g → f.key = g.key → putF f L = L.set i f
  | [], _, f, g, i, hi, _ => by simp at hi
  | y :: r, hr, f, g, 0, hi, hk => by
    obtain ⟨h1, h2⟩ := List.pairwise_cons.1 hr
    simp at hi; subst hi
    have e : delF f.key (y :: r) = r := by
      unfold delF
      have hy : (!(y.key == f.key)) = false := by simp [hk]
      rw [List.filter_cons, hy]
      simp only [Bool.false_eq_true, if_false]
      exact delF_later (k := f.key) fun g hg => by rw [hk]; exact h1 g hg
    unfold putF
    rw [e, insF_first (fun g hg => by rw [hk]; exact h1 g hg)]
    rfl
  | y :: r, hr, f, g, i + 1, hi, hk => by
    obtain ⟨h1, h2⟩ := List.pairwise_cons.1 hr
    simp at hi
    have hg : g ∈ r := List.mem_of_getElem? hi
    have hyf : bytesBefore y.key f.key = true := by rw [hk]; exact h1 g hg
    have e : delF f.key (y :: r) = y :: delF f.key r := by
      unfold delF
      have hy : (!(y.key == f.key)) = true := by simpa using before_ne hyf
      rw [List.filter_cons, hy]; rfl
    have ih := putF_set h2 hi hk
    unfold putF at ih ⊢
    rw [e]
    unfold insF
    rw [if_neg (before_asymm hyf), ih]
    rfl
theorem delF_erase : ∀ {L : List Fl}, Rising L → ∀ {g : Fl} {i : Nat}, L[i]? = some g → delF g.key L = L.eraseIdx i
  | [], _, g, i, hi => by simp at hi
  | y :: r, hr, g, 0, hi => by
    obtain ⟨h1, h2⟩ := List.pairwise_cons.1 hr
    simp at hi; subst hi
    unfold delF
    have hy : (!(y.key == y.key)) = false := by simp
    rw [List.filter_cons, hy]
    simp only [Bool.false_eq_true, if_false]
    exact delF_later (k := y.key) h1
  | y :: r, hr, g, i + 1, hi => by
    obtain ⟨h1, h2⟩ := List.pairwise_cons.1 hr
    simp at hi
    have hg : g ∈ r := List.mem_of_getElem? hi
    have ih := delF_erase h2 hi
    unfold delF at ih ⊢
    have hy : (!(y.key == g.key)) = true := by simpa using before_ne (h1 g hg)
    rw [List.filter_cons, hy, ih]
    rfl
theorem find_of_idx : ∀ {L : List Fl}, Rising L → ∀ {g : Fl} {i : Nat}, L[i]? = some g → findF g.key L = some g
  | [], _, g, i, hi => by simp at hi
  | y :: r, hr, g, 0, hi => by
    simp at hi; subst hi
    simp [findF]
  | y :: r, hr, g, i + 1, hi => by
    obtain ⟨h1, h2⟩ := List.pairwise_cons.1 hr
    simp at hi
    have hg : g ∈ r := List.mem_of_getElem? hi
    have ih := find_of_idx h2 hi
    unfold findF at ih ⊢
    have hy : (y.key == g.key) = false := by simpa using before_ne (h1 g hg)
    rw [List.find?_cons, hy]
    exact ih
theorem find_none {L : List Fl} {k : List UInt8} (h : ∀ g ∈ L, g.key ≠ k) : findF k L = none := by
  unfold findF
  rw [List.find?_eq_none]
  intro x hx
  have := h x hx
  simpa using this
theorem put_new {L : List Fl} {f : Fl} (h : findF f.key L = none) : putF f L = insF f L := by
  unfold putF
  rw [del_none h]
end Go.Proofs.YtnpgjlhnlakgpaaDoor
namespace Go.Proofs.YtnpgjlhnlakgpaaDoor
open Go.RowKit Go.Maps

/-- What a crash makes of one file; k: how many were not safe ahead of it. -/
def crash1 (keep turn : List Int) (k : Nat) (f : Fl) : Fl :=
  if f.safe < f.bytes.size then { f with bytes := staysB f (atL keep k) (atL turn k), safe := (staysB f (atL keep k) (atL turn k)).size } else { f with safe := f.bytes.size }
def unsafeN (L : List Fl) : Nat := L.countP fun f => decide (f.safe < f.bytes.size)
/-- The files when the first i of them are done. -/
def crashP (keep turn : List Int) (L : List Fl) (i : Nat) : List Fl := crashL keep turn 0 (L.take i) ++ L.drop i
theorem crashL_cons (keep turn : List Int) (k : Nat) (f : Fl) (r : List Fl) : crashL keep turn k (f :: r) = crash1 keep turn k f :: crashL keep turn (k + if f.safe < f.bytes.size then 1 else 0) r := by
  by_cases h : f.safe < f.bytes.size
  · rw [if_pos h]
    conv => lhs; unfold crashL
    unfold crash1
    rw [if_pos h, if_pos h]
  · rw [if_neg h]
    conv => lhs; unfold crashL
    unfold crash1
    rw [if_neg h, if_neg h]
    rfl
theorem unsafeN_cons (f : Fl) (r : List Fl) : unsafeN (f :: r) = (if f.safe < f.bytes.size then 1 else 0) + unsafeN r := by
  unfold unsafeN
  rw [List.countP_cons]
  by_cases h : f.safe < f.bytes.size
  · simp [h]; omega
  · simp [h]
theorem crashL_append (keep turn : List Int) : ∀ (k : Nat) (A B : List Fl), crashL keep turn k (A ++ B) = crashL keep turn k A ++ crashL keep turn (k + unsafeN A) B
  | k, [], B => rfl
  | k, f :: r, B => by
    rw [List.cons_append, crashL_cons, crashL_cons, crashL_append keep turn _ r B, unsafeN_cons, List.cons_append, Nat.add_assoc]
theorem crashL_one (keep turn : List Int) (k : Nat) (f : Fl) : crashL keep turn k [f] = [crash1 keep turn k f] := by rw [crashL_cons]; rfl
theorem crashP_zero (keep turn : List Int) (L : List Fl) : crashP keep turn L 0 = L := by simp [crashP, crashL]
theorem crashP_all (keep turn : List Int) (L : List Fl) : crashP keep turn L L.length = crashL keep turn 0 L := by simp [crashP]
theorem crashP_get (keep turn : List Int) (L : List Fl) {i : Nat} {f : Fl} (h : L[i]? = some f) : (crashP keep turn L i)[i]? = some f := by
  have hi : i < L.length := (List.getElem?_eq_some_iff.1 h).1
  unfold crashP
  have hl : (crashL keep turn 0 (L.take i)).length = i := by rw [crash_len, List.length_take]; omega
  rw [List.getElem?_append_right (by omega), hl]
  simpa using h
theorem crashP_step (keep turn : List Int) (L : List Fl) {i : Nat} {f : Fl} (h : L[i]? = some f) :
    (crashP keep turn L i).set i (crash1 keep turn (unsafeN (L.take i)) f) = crashP keep turn L (i + 1) := by
  obtain ⟨hi, hf⟩ := List.getElem?_eq_some_iff.1 h
  have hl : (crashL keep turn 0 (L.take i)).length = i := by rw [crash_len, List.length_take]; omega
  have ht : L.take (i + 1) = L.take i ++ [f] := by rw [List.take_add_one, h]; rfl
  have hd : L.drop i = f :: L.drop (i + 1) := by rw [List.drop_eq_getElem_cons hi, hf]
  unfold crashP
  rw [ht, crashL_append, crashL_one, hd, List.set_append_right _ _ (by omega), hl, Nat.sub_self, Nat.zero_add]
  simp
theorem unsafeN_step (L : List Fl) {i : Nat} {f : Fl} (h : L[i]? = some f) : unsafeN (L.take (i + 1)) = unsafeN (L.take i) + if f.safe < f.bytes.size then 1 else 0 := by
  have ht : L.take (i + 1) = L.take i ++ [f] := by rw [List.take_add_one, h]; rfl
  rw [ht]
  unfold unsafeN
  rw [List.countP_append]
  simp [List.countP_cons]
theorem unsafeN_le (L : List Fl) : unsafeN L ≤ L.length := List.countP_le_length
theorem crashP_names (keep turn : List Int) (L : List Fl) (i : Nat) : (crashP keep turn L i).map Fl.name = L.map Fl.name := by
  unfold crashP
  rw [List.map_append, crash_keys, ← List.map_append, List.take_append_drop]
theorem crashP_rise {L : List Fl} (h : Rising L) (keep turn : List Int) (i : Nat) : Rising (crashP keep turn L i) := rising_of_names (crashP_names keep turn L i) h
theorem crashP_len (keep turn : List Int) (L : List Fl) (i : Nat) : (crashP keep turn L i).length = L.length := by
  have := congrArg List.length (crashP_names keep turn L i)
  simpa using this
theorem crashP_used {L : List Fl} (h : SafeOk L) (keep turn : List Int) (i : Nat) : usedF (crashP keep turn L i) ≤ usedF L := by
  have h1 := crash_used keep turn 0 (L.take i) (fun f hf => h f (List.mem_of_mem_take hf))
  have h2 : usedF (L.take i ++ L.drop i) = usedF (L.take i) + usedF (L.drop i) := by simp only [usedF, List.map_append, List.sum_append]
  rw [List.take_append_drop] at h2
  have h3 : usedF (crashP keep turn L i) = usedF (crashL keep turn 0 (L.take i)) + usedF (L.drop i) := by simp [crashP, usedF]
  omega
theorem usedF_set {L : List Fl} (hr : Rising L) {f g : Fl} {i : Nat} (hi : L[i]? = some g) (hk : f.key = g.key) : usedF (L.set i f) + g.bytes.size = usedF L + f.bytes.size := by
  rw [← putF_set hr hi hk]
  exact usedF_put hr (by rw [hk]; exact find_of_idx hr hi)
theorem crash1_key (keep turn : List Int) (k : Nat) (f : Fl) : (crash1 keep turn k f).name = f.name := by
  unfold crash1; split <;> rfl
end Go.Proofs.YtnpgjlhnlakgpaaDoor

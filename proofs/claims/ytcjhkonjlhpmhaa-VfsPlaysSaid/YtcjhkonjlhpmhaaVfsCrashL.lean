/- A crash, file by file. -/
import Derived.Test.YtcjhkonjlhpmhaaVfsRefL
namespace Go.Proofs.Ytcjhkonjlhpmhaa
open Go.RowKit Go.Maps

/-- What a crash makes of one file; k: how many were not safe ahead of it. -/
def crash1 (keep turn : List Int) (k : Nat) (f : Fl) : Fl :=
  if f.safe < f.bytes.size then { f with bytes := staysB f (atL keep k) (atL turn k), safe := (staysB f (atL keep k) (atL turn k)).size } else { f with safe := f.bytes.size }
def unsafeN (L : List Fl) : Nat := L.countP fun f => decide (f.safe < f.bytes.size)
/-- The files when the first i of them are done. -/
def crashP (keep turn : List Int) (L : List Fl) (i : Nat) : List Fl := crashL keep turn 0 (L.take i) ++ L.drop i
theorem crashL_cons (keep turn : List Int) (k : Nat) (f : Fl) (r : List Fl) : crashL keep turn k (f :: r) = crash1 keep turn k f :: crashL keep turn (k + if f.safe < f.bytes.size then 1 else 0) r := by
  by_cases h : f.safe < f.bytes.size
  · rw [if_pos h]
    conv => lhs; unfold crashL
    unfold crash1
    rw [if_pos h, if_pos h]
  · rw [if_neg h]
    conv => lhs; unfold crashL
    unfold crash1
    rw [if_neg h, if_neg h]
    rfl
theorem unsafeN_cons (f : Fl) (r : List Fl) : unsafeN (f :: r) = (if f.safe < f.bytes.size then 1 else 0) + unsafeN r := by
  unfold unsafeN
  rw [List.countP_cons]
  by_cases h : f.safe < f.bytes.size
  · simp [h]; omega
  · simp [h]
theorem crashL_append (keep turn : List Int) : ∀ (k : Nat) (A B : List Fl), crashL keep turn k (A ++ B) = crashL keep turn k A ++ crashL keep turn (k + unsafeN A) B
  | k, [], B => rfl
  | k, f :: r, B => by
    rw [List.cons_append, crashL_cons, crashL_cons, crashL_append keep turn _ r B, unsafeN_cons, List.cons_append, Nat.add_assoc]
theorem crashL_one (keep turn : List Int) (k : Nat) (f : Fl) : crashL keep turn k [f] = [crash1 keep turn k f] := by rw [crashL_cons]; rfl
theorem crashP_zero (keep turn : List Int) (L : List Fl) : crashP keep turn L 0 = L := by simp [crashP, crashL]
theorem crashP_all (keep turn : List Int) (L : List Fl) : crashP keep turn L L.length = crashL keep turn 0 L := by simp [crashP]
theorem crashP_get (keep turn : List Int) (L : List Fl) {i : Nat} {f : Fl} (h : L[i]? = some f) : (crashP keep turn L i)[i]? = some f := by
  have hi : i < L.length := (List.getElem?_eq_some_iff.1 h).1
  unfold crashP
  have hl : (crashL keep turn 0 (L.take i)).length = i := by rw [crash_len, List.length_take]; omega
  rw [List.getElem?_append_right (by omega), hl]
  simpa using h
theorem crashP_step (keep turn : List Int) (L : List Fl) {i : Nat} {f : Fl} (h : L[i]? = some f) :
    (crashP keep turn L i).set i (crash1 keep turn (unsafeN (L.take i)) f) = crashP keep turn L (i + 1) := by
  obtain ⟨hi, hf⟩ := List.getElem?_eq_some_iff.1 h
  have hl : (crashL keep turn 0 (L.take i)).length = i := by rw [crash_len, List.length_take]; omega
  have ht : L.take (i + 1) = L.take i ++ [f] := by rw [List.take_add_one, h]; rfl
  have hd : L.drop i = f :: L.drop (i + 1) := by rw [List.drop_eq_getElem_cons hi, hf]
  unfold crashP
  rw [ht, crashL_append, crashL_one, hd, List.set_append_right _ _ (by omega), hl, Nat.sub_self, Nat.zero_add]
  simp
theorem unsafeN_step (L : List Fl) {i : Nat} {f : Fl} (h : L[i]? = some f) : unsafeN (L.take (i + 1)) = unsafeN (L.take i) + if f.safe < f.bytes.size then 1 else 0 := by
  have ht : L.take (i + 1) = L.take i ++ [f] := by rw [List.take_add_one, h]; rfl
  rw [ht]
  unfold unsafeN
  rw [List.countP_append]
  simp [List.countP_cons]
theorem unsafeN_le (L : List Fl) : unsafeN L ≤ L.length := List.countP_le_length
theorem crashP_names (keep turn : List Int) (L : List Fl) (i : Nat) : (crashP keep turn L i).map Fl.name = L.map Fl.name := by
  unfold crashP
  rw [List.map_append, crash_keys, ← List.map_append, List.take_append_drop]
theorem crashP_rise {L : List Fl} (h : Rising L) (keep turn : List Int) (i : Nat) : Rising (crashP keep turn L i) := rising_of_names (crashP_names keep turn L i) h
theorem crashP_len (keep turn : List Int) (L : List Fl) (i : Nat) : (crashP keep turn L i).length = L.length := by
  have := congrArg List.length (crashP_names keep turn L i)
  simpa using this
theorem crashP_used {L : List Fl} (h : SafeOk L) (keep turn : List Int) (i : Nat) : usedF (crashP keep turn L i) ≤ usedF L := by
  have h1 := crash_used keep turn 0 (L.take i) (fun f hf => h f (List.mem_of_mem_take hf))
  have h2 : usedF (L.take i ++ L.drop i) = usedF (L.take i) + usedF (L.drop i) := by simp only [usedF, List.map_append, List.sum_append]
  rw [List.take_append_drop] at h2
  have h3 : usedF (crashP keep turn L i) = usedF (crashL keep turn 0 (L.take i)) + usedF (L.drop i) := by simp [crashP, usedF]
  omega
theorem usedF_set {L : List Fl} (hr : Rising L) {f g : Fl} {i : Nat} (hi : L[i]? = some g) (hk : f.key = g.key) : usedF (L.set i f) + g.bytes.size = usedF L + f.bytes.size := by
  rw [← putF_set hr hi hk]
  exact usedF_put hr (by rw [hk]; exact find_of_idx hr hi)
theorem crash1_key (keep turn : List Int) (k : Nat) (f : Fl) : (crash1 keep turn k f).name = f.name := by
  unfold crash1; split <;> rfl
end Go.Proofs.Ytcjhkonjlhpmhaa

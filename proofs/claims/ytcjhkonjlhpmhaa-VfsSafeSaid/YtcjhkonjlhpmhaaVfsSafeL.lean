/- What a crash makes of each file: the plain law of VfsSafe. -/
import Derived.Test.YtcjhkonjlhpmhaaVfsCrashL
namespace Go.Proofs.Ytcjhkonjlhpmhaa
open Go.RowKit Go.Maps

theorem crash_get (keep turn : List Int) {L : List Fl} {i : Nat} {f : Fl} (hs : SafeOk L) (h : L[i]? = some f) :
    ∃ gb : ByteArray, (crashL keep turn 0 L)[i]? = some ⟨f.name, gb, gb.size⟩ ∧ f.safe ≤ gb.size ∧ gb.size ≤ f.bytes.size ∧ gb.extract 0 f.safe = f.bytes.extract 0 f.safe ∧ unl f.bytes.data.toList gb.data.toList gb.size ≤ 1 := by
  obtain ⟨hi, hf⟩ := List.getElem?_eq_some_iff.1 h
  have hmem : f ∈ L := List.mem_of_getElem? h
  have hsf := hs f hmem
  have e : L = L.take i ++ f :: L.drop (i + 1) := by
    conv => lhs; rw [← List.take_append_drop i L]
    rw [List.drop_eq_getElem_cons hi, hf]
  have hl : (crashL keep turn 0 (L.take i)).length = i := by rw [crash_len, List.length_take]; omega
  have hg : (crashL keep turn 0 L)[i]? = some (crash1 keep turn (unsafeN (L.take i)) f) := by
    conv => lhs; rw [e]
    rw [crashL_append, List.getElem?_append_right (by omega), hl, Nat.sub_self, Nat.zero_add, crashL_cons]
    rfl
  rw [hg]
  generalize unsafeN (L.take i) = k
  unfold crash1
  split
  · obtain ⟨b1, b2⟩ := staysB_bd f (atL keep k) (atL turn k) hsf
    obtain ⟨s1, s2⟩ := staysB_like f (atL keep k) (atL turn k)
    refine ⟨_, rfl, b1, b2, ?_, s2⟩
    apply ba_of_list
    simpa using s1
  · rename_i hn
    have : f.safe = f.bytes.size := by omega
    refine ⟨f.bytes, rfl, by omega, Nat.le_refl _, rfl, ?_⟩
    rw [unl_same _ (fun _ _ => rfl)]; omega
theorem crash_crash (keep turn : List Int) (L : List Fl) : crashL keep turn 0 (crashL keep turn 0 L) = crashL keep turn 0 L :=
  crash_twice keep turn 0 _ (fun f hf => crash_safe keep turn 0 L f hf)
end Go.Proofs.Ytcjhkonjlhpmhaa

/- What a crash leaves of frames: a beginning of their records, with all that were safe. Plain lists, no program in sight. -/
import Derived.Test.YtnpgjlhnlakgpaaDoorG06
namespace Go.Proofs.YtnpgjlhnlakgpaaDoor

theorem set_split {l : List UInt8} {p : Nat} (hp : p < l.length) (c : UInt8) : l = l.take p ++ l[p] :: l.drop (p + 1) ∧ l.set p c = l.take p ++ c :: l.drop (p + 1) := by
  constructor
  · rw [← List.drop_eq_getElem_cons hp, List.take_append_drop]
  · rw [List.set_eq_take_append_cons_drop, if_pos hp]
theorem set_same {l : List UInt8} {p : Nat} (hp : p < l.length) : l.set p l[p] = l := List.set_getElem_self hp
theorem frame_head (r : List UInt8) : frameN r = (fourN r.length ++ fourN (sumN (fourN r.length))) ++ (r ++ fourN (sumN r)) := by simp [frameN]
/-- Bytes that lack, and one that is another one: no frame. -/
theorem torn_short (r : List UInt8) (h : r.length ≤ 65536) (M p : Nat) (c : UInt8) (hM : M < (frameN r).length) : oneN (((frameN r).take M).set p c) = none := by
  have hl : ((frameN r).take M).length = M := by rw [List.length_take]; omega
  by_cases hp : ¬ p < M
  · rw [List.set_eq_of_length_le (by omega)]
    exact one_short r h M hM
  replace hp : p < M := by omega
  by_cases hs : c = ((frameN r).take M)[p]'(by omega)
  · rw [hs, set_same]
    exact one_short r h M hM
  rw [frame_len] at hM
  have l4 : ∀ n, (fourN n).length = 4 := fun _ => rfl
  have hlC : (((frameN r).take M).set p c).length = M := by rw [List.length_set, hl]
  unfold oneN
  rw [if_pos]
  by_cases h8 : M < 8
  · exact .inl (by omega)
  obtain ⟨X, hX⟩ : ∃ X, (frameN r).take M = (fourN r.length ++ fourN (sumN (fourN r.length))) ++ X := by
    refine ⟨(r ++ fourN (sumN r)).take (M - 8), ?_⟩
    rw [frame_head, List.take_append, List.take_of_length_le (by simp [l4]; omega)]
    simp [l4]
  have hCg : ((frameN r).take M)[p]? = some (((frameN r).take M)[p]'(by omega)) := List.getElem?_eq_getElem _
  generalize ((frameN r).take M)[p]'(by omega) = old at *
  rw [hX] at hlC hCg ⊢
  by_cases h4 : p < 4
  · right; left
    rw [List.append_assoc, List.set_append_left _ _ (by rw [l4]; exact h4)]
    have hl4 : ((fourN r.length).set p c).length = 4 := by rw [List.length_set, l4]
    rw [List.take_left' hl4, List.drop_left' hl4, get_four (sumN_lt _)]
    rw [List.append_assoc, List.getElem?_append_left (by rw [l4]; exact h4)] at hCg
    obtain ⟨hp4, hg⟩ := List.getElem?_eq_some_iff.1 hCg
    obtain ⟨e1, e2⟩ := set_split (l := fourN r.length) (p := p) hp4 c
    rw [e2]
    conv => rhs; rw [e1]
    rw [hg]
    exact sumN_other _ _ hs
  · by_cases h8p : p < 8
    · right; left
      rw [List.append_assoc, List.set_append_right _ _ (by rw [l4]; omega), l4, List.set_append_left _ _ (by rw [l4]; omega)]
      rw [List.take_left' (l4 _), List.drop_left' (l4 _)]
      intro he
      have hl4 : ((fourN (sumN (fourN r.length))).set (p - 4) c).length = 4 := by rw [List.length_set, l4]
      have := four_of_get hl4 X he.symm
      rw [List.append_assoc, List.getElem?_append_right (by rw [l4]; omega), l4, List.getElem?_append_left (by rw [l4]; omega)] at hCg
      rw [← this, List.getElem?_set_self (by rw [l4]; omega)] at hCg
      exact hs (Option.some.inj hCg)
    · right; right; right; left
      have hl8 : (fourN r.length ++ fourN (sumN (fourN r.length))).length = 8 := rfl
      rw [List.set_append_right _ _ (by rw [hl8]; omega)]
      have hg : getN ((fourN r.length ++ fourN (sumN (fourN r.length))) ++ X.set (p - (fourN r.length ++ fourN (sumN (fourN r.length))).length) c) = r.length := by
        rw [List.append_assoc, get_four (by omega)]
      rw [hg]
      rw [List.set_append_right _ _ (by rw [hl8]; omega)] at hlC
      omega
/-- A whole frame of which a byte is another one: no frame. -/
theorem torn_set (r : List UInt8) (h : r.length ≤ 65536) (p : Nat) (c : UInt8) (hp : p < (frameN r).length) (hc : c ≠ (frameN r)[p]) (z : List UInt8) : oneN ((frameN r).set p c ++ z) = none := by
  obtain ⟨e1, e2⟩ := set_split hp c
  rw [e2, List.append_assoc, List.cons_append]
  exact one_torn r _ _ _ _ z h e1 (Ne.symm hc)

theorem framesN_nil : framesN [] = [] := rfl
theorem framesN_cons (r : List UInt8) (l : List (List UInt8)) : framesN (r :: l) = frameN r ++ framesN l := by simp [framesN]
theorem framesN_app (a b : List (List UInt8)) : framesN (a ++ b) = framesN a ++ framesN b := by simp [framesN]
/-- What a crash leaves of frames of which the first s bytes are safe tells a beginning of their records, with all that lie in these s bytes. -/
theorem crash_scan : ∀ (l : List (List UInt8)) (s M p : Nat) (c : UInt8), (∀ r ∈ l, r.length ≤ 65536) → s ≤ M → M ≤ (framesN l).length → s ≤ p →
    ∃ j, j ≤ l.length ∧ scanF (((framesN l).take M).set p c) = (l.take j, (framesN (l.take j)).length) ∧ ((framesN l).take M).set p c = framesN (l.take j) ++ (((framesN l).take M).set p c).drop (framesN (l.take j)).length ∧ ∀ i, i ≤ l.length → (framesN (l.take i)).length ≤ s → i ≤ j
  | [], s, M, p, c, _, _, hM, _ => by
    refine ⟨0, Nat.le_refl _, ?_, by simp [framesN], fun i hi _ => by simpa using hi⟩
    simp [framesN, scan_nil]
  | r :: l, s, M, p, c, h, hs, hM, hp => by
    have hr := h r (by simp)
    have hn := frame_len r
    rw [framesN_cons] at hM ⊢
    rw [List.length_append] at hM
    have stop : ∀ C : List UInt8, oneN C = none → s < (frameN r).length → ∃ j, j ≤ (r :: l).length ∧ scanF C = ((r :: l).take j, (framesN ((r :: l).take j)).length) ∧ C = framesN ((r :: l).take j) ++ C.drop (framesN ((r :: l).take j)).length ∧ ∀ i, i ≤ (r :: l).length → (framesN ((r :: l).take i)).length ≤ s → i ≤ j := by
      intro C hC hlt
      refine ⟨0, by omega, by rw [scanF_none hC]; simp [framesN], by simp [framesN], fun i _ hi => ?_⟩
      cases i with
      | zero => omega
      | succ i => rw [List.take_succ_cons, framesN_cons, List.length_append] at hi; omega
    have go : ∀ p, s ≤ p → (frameN r).length ≤ p → (frameN r).length ≤ M → ∃ j, j ≤ (r :: l).length ∧ scanF (((frameN r ++ framesN l).take M).set p c) = ((r :: l).take j, (framesN ((r :: l).take j)).length) ∧ ((frameN r ++ framesN l).take M).set p c = framesN ((r :: l).take j) ++ (((frameN r ++ framesN l).take M).set p c).drop (framesN ((r :: l).take j)).length ∧ ∀ i, i ≤ (r :: l).length → (framesN ((r :: l).take i)).length ≤ s → i ≤ j := by
      intro p hp hpn hMn
      have e : ((frameN r ++ framesN l).take M).set p c = frameN r ++ ((framesN l).take (M - (frameN r).length)).set (p - (frameN r).length) c := by
        rw [List.take_append, List.take_of_length_le hMn, List.set_append_right _ _ hpn]
      obtain ⟨j, hj, h1, h2, h3⟩ := crash_scan l (s - (frameN r).length) (M - (frameN r).length) (p - (frameN r).length) c (fun q hq => h q (by simp [hq])) (by omega) (by omega) (by omega)
      refine ⟨j + 1, by simp; omega, ?_, ?_, fun i hi hi2 => ?_⟩
      · rw [e, scanF_some (one_frame r _ hr), List.drop_left' (by rw [hn]; omega), h1, List.take_succ_cons, framesN_cons, List.length_append, hn]
        simp; omega
      · rw [e, List.take_succ_cons, framesN_cons, List.length_append, ← List.drop_drop, List.drop_left, List.append_assoc, ← h2]
      · cases i with
        | zero => omega
        | succ i =>
          rw [List.take_succ_cons, framesN_cons, List.length_append] at hi2
          have := h3 i (by simpa using hi) (by omega)
          omega
    by_cases hMn : M < (frameN r).length
    · have e : ((frameN r ++ framesN l).take M).set p c = ((frameN r).take M).set p c := by rw [List.take_append_of_le_length (by omega)]
      rw [e]
      exact stop _ (torn_short r hr M p c hMn) (by omega)
    by_cases hpn : (frameN r).length ≤ p
    · exact go p hp hpn (by omega)
    have hpl : p < (frameN r).length := by omega
    by_cases hc : c = (frameN r)[p]
    · have e : ((frameN r ++ framesN l).take M).set p c = ((frameN r ++ framesN l).take M).set M c := by
        rw [List.set_eq_of_length_le (i := M) (by rw [List.length_take]; omega), hc]
        have hpM : p < ((frameN r ++ framesN l).take M).length := by rw [List.length_take, List.length_append]; omega
        have e2 : (frameN r)[p] = ((frameN r ++ framesN l).take M)[p] := by rw [List.getElem_take, List.getElem_append_left hpl]
        rw [e2, set_same]
      rw [e]
      exact go M hs (by omega) (by omega)
    · have e : ((frameN r ++ framesN l).take M).set p c = (frameN r).set p c ++ (framesN l).take (M - (frameN r).length) := by
        rw [List.take_append, List.take_of_length_le (by omega), List.set_append_left _ _ hpl]
      rw [e]
      exact stop _ (torn_set r hr p c hpl hc _) (by omega)

/-- What whole frames take is their frames. -/
theorem one_back {s r : List UInt8} (h : oneN s = some r) : s.take (12 + r.length) = frameN r ∧ r.length ≤ 65536 := by
  obtain ⟨h1, h2, h3⟩ := oneN_len h
  refine ⟨?_, by omega⟩
  unfold oneN at h
  split at h
  · cases h
  rename_i hc
  simp only [not_or, Decidable.not_not] at hc
  obtain ⟨_, c2, _, _, c5⟩ := hc
  have hr : (s.drop 8).take (getN s) = r := Option.some.inj h
  rw [hr] at c5
  have f4 : ∀ (l : List UInt8), 4 ≤ l.length → l.take 4 = fourN (getN l) := fun l hl => by
    match l, hl with
    | a :: b :: c :: d :: t, _ => exact (four_get t).symm
  have e1 := f4 s (by omega)
  have e2 := f4 (s.drop 4) (by rw [List.length_drop]; omega)
  have e3 := f4 (s.drop (8 + getN s)) (by rw [List.length_drop]; omega)
  rw [← c2, e1, ← h2] at e2
  rw [← c5, ← h2] at e3
  rw [← h2] at e1 hr
  have t1 : s.take (12 + r.length) = s.take 4 ++ (s.drop 4).take (8 + r.length) := by rw [show 12 + r.length = 4 + (8 + r.length) by omega, List.take_add]
  have t2 : (s.drop 4).take (8 + r.length) = (s.drop 4).take 4 ++ (s.drop 8).take (4 + r.length) := by rw [show 8 + r.length = 4 + (4 + r.length) by omega, List.take_add, List.drop_drop]
  have t3 : (s.drop 8).take (4 + r.length) = (s.drop 8).take r.length ++ (s.drop (8 + r.length)).take 4 := by rw [show 4 + r.length = r.length + 4 by omega, List.take_add, List.drop_drop]
  rw [t1, t2, t3, e1, e2, e3, hr]
  simp [frameN]
theorem scan_back : ∀ (f : Nat) (s : List UInt8), s.length < f → s.take (scanN f s).2 = framesN (scanN f s).1 ∧ (scanN f s).2 ≤ s.length ∧ ∀ r ∈ (scanN f s).1, r.length ≤ 65536
  | 0, _, h => by omega
  | f + 1, s, h => by
    simp only [scanN]
    cases ho : oneN s with
    | none => simp [framesN]
    | some r =>
      obtain ⟨h1, h2, h3⟩ := oneN_len ho
      obtain ⟨b1, b2⟩ := one_back ho
      obtain ⟨i1, i2, i3⟩ := scan_back f (s.drop (12 + r.length)) (by rw [List.length_drop]; omega)
      rw [List.length_drop] at i2
      refine ⟨?_, by simp only; omega, fun q hq => ?_⟩
      · simp only [framesN_cons]
        rw [List.take_add, b1, i1]
      · rcases List.mem_cons.1 hq with rfl | hq
        · exact b2
        · exact i3 q hq
theorem scanF_back (s : List UInt8) : s.take (scanF s).2 = framesN (scanF s).1 ∧ (scanF s).2 ≤ s.length ∧ ∀ r ∈ (scanF s).1, r.length ≤ 65536 := scan_back _ s (Nat.lt_succ_self _)
end Go.Proofs.YtnpgjlhnlakgpaaDoor

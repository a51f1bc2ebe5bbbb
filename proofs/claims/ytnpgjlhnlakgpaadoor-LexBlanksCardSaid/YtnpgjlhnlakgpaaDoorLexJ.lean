/- Plain laws: tokens shown one behind the other, blanks behind each, are the same tokens. No program in sight. -/
import Derived.Test.YtnpgjlhnlakgpaaDoorLexS
namespace Go.Proofs.YtnpgjlhnlakgpaaDoor

/-- The first k tokens shown, each with its blanks. -/
def joinN (a : List Tk) (sep : Nat → List UInt8) : Nat → List UInt8
  | 0 => []
  | k + 1 => joinN a sep k ++ (match a[k]? with | some t => showF t.k t.s t.d ++ sep k | none => [])
theorem joinN_next {a : List Tk} {sep : Nat → List UInt8} {k : Nat} {t : Tk} (h : a[k]? = some t) : joinN a sep (k + 1) = joinN a sep k ++ (showF t.k t.s t.d ++ sep k) := by
  show joinN a sep k ++ _ = _
  rw [h]
theorem joinN_zip (a : List Tk) (sep : Nat → List UInt8) : ∀ k, k ≤ a.length → joinN a sep k = (a.zip ((List.range k).map sep)).flatMap fun x => showF x.1.k x.1.s x.1.d ++ x.2
  | 0, _ => by simp [joinN]
  | k + 1, h => by
    have hk : k < a.length := by omega
    rw [joinN_next (List.getElem?_eq_getElem hk), joinN_zip a sep k (by omega), List.range_succ, List.map_append]
    have e : a.zip ((List.range k).map sep ++ [k].map sep) = a.zip ((List.range k).map sep) ++ [(a[k], sep k)] := by
      conv => lhs; rw [← List.take_append_drop k a]
      rw [List.zip_append (by simp; omega)]
      have e2 : a.zip ((List.range k).map sep) = (a.take k).zip ((List.range k).map sep) := by
        conv => lhs; rw [← List.take_append_drop k a, ← List.append_nil ((List.range k).map sep)]
        rw [List.zip_append (by simp; omega)]
        simp
      rw [e2]
      have e3 : a.drop k = a[k] :: a.drop (k + 1) := List.drop_eq_getElem_cons hk
      rw [e3]
      simp only [List.map_cons, List.map_nil, List.zip_cons_cons, List.zip_nil_right]
    rw [e, List.flatMap_append]
    simp
theorem join_again {l : List UInt8} {a : List Tk} (h : lexF l = .inr a) (sep : Nat → List UInt8) (hs : ∀ k, SepOK (sep k)) (hl : (joinN a sep a.length).length ≤ 4000) :
    ∃ b, lexF (joinN a sep a.length) = .inr b ∧ b.map Tk.bare = a.map Tk.bare := by
  obtain ⟨_, _, ts, ha⟩ := lexF_count h
  have hlen : a.length = ts.length + 1 := by rw [ha]; simp
  have hat : a[ts.length]? = some (endT l.length) := by rw [ha]; simp
  have e : joinN a sep a.length = ((a.zip ((List.range ts.length).map sep)).flatMap fun x => showF x.1.k x.1.s x.1.d ++ x.2) ++ sep ts.length := by
    rw [hlen, joinN_next hat, joinN_zip a sep _ (by omega)]
    rfl
  rw [e] at hl ⊢
  refine lexF_again h ((List.range ts.length).map sep) (sep ts.length) (by simp [hlen]) (fun x hx => ?_) ?_ hl
  · obtain ⟨k, _, rfl⟩ := List.mem_map.1 hx
    exact hs k
  · have := (hs ts.length).2 []
    simpa [skipM] using this
theorem joinN_len {a : List Tk} (ha : ∀ t ∈ a, Tiny t.s t.d) (sep : Nat → List UInt8) {q : Nat} (hs : ∀ k, (sep k).length ≤ q) : ∀ k, (joinN a sep k).length ≤ k * (2100 + q)
  | 0 => by simp [joinN]
  | k + 1 => by
    have := joinN_len ha sep hs k
    show (joinN a sep k ++ _).length ≤ _
    rw [List.length_append, Nat.succ_mul]
    cases h : a[k]? with
    | none => simp; omega
    | some t =>
      have h1 := showF_len (k := t.k) (ha t (List.mem_of_getElem? h))
      have h2 := hs k
      simp only [List.length_append]; omega
theorem sep_one : SepOK [32] := ⟨⟨32, [], rfl, .inl rfl⟩, fun r => by simp [skipM, isBl]⟩
/-- What LexBlanks puts behind a token. -/
def sepB (many : List Int) (k : Nat) : List UInt8 := 10 :: (match many[k]? with
  | none => []
  | some x => if Int.tmod x 4 = 1 then [32, 9, 13, 10] else if Int.tmod x 4 = 2 then [45, 45, 32, 105, 116, 39, 115, 32, 40, 10] else if Int.tmod x 4 = 3 then [45, 45, 10, 45, 45, 10] else [])
theorem sepB_len (many : List Int) (k : Nat) : (sepB many k).length ≤ 20 := by
  unfold sepB
  split
  · simp
  · repeat' split
    all_goals simp
theorem sep_blanks (many : List Int) (k : Nat) : SepOK (sepB many k) := by
  refine ⟨⟨10, _, rfl, .inr rfl⟩, fun r => ?_⟩
  unfold sepB
  split
  · simp [skipM, isBl]
  · repeat' split
    all_goals
      simp [skipM, isBl]
    all_goals omega
end Go.Proofs.YtnpgjlhnlakgpaaDoor

/- A disk kept as a list of files: to set, to drop, to put in its place are what the map's disk does. -/
import Derived.Test.YtnpgjlhnlakgpaaDoorVfsLaw
namespace Go.Proofs.YtnpgjlhnlakgpaaDoor
open Go.RowKit Go.Maps

theorem before_asymm {a b : List UInt8} (h : bytesBefore a b = true) : ¬ bytesBefore b a = true := fun h2 => by
  have := WideShapes.bytes_trans _ _ _ h h2
  rw [WideAt.bytes_irrefl] at this; cases this
theorem before_ne {a b : List UInt8} (h : bytesBefore a b = true) : a ≠ b := fun e => by rw [e, WideAt.bytes_irrefl] at h; cases h
theorem delF_later {k : List UInt8} {L : List Fl} (h : ∀ g ∈ L, bytesBefore k g.key = true) : delF k L = L := by
  unfold delF
  rw [List.filter_eq_self]
  intro a ha
  have : a.key ≠ k := fun e => before_ne (h a ha) e.symm
  simpa using this
theorem insF_first {f : Fl} {L : List Fl} (h : ∀ g ∈ L, bytesBefore f.key g.key = true) : insF f L = f :: L := by
  cases L with
  | nil => rfl
  | cons y r => unfold insF; rw [if_pos (h y (by simp))]
theorem putF_set : ∀ {L : List Fl}, Rising L → ∀ {f g : Fl} {i : Nat}, L[i]? = some g → f.key = g.key → putF f L = L.set i f
  | [], _, f, g, i, hi, _ => by simp at hi
  | y :: r, hr, f, g, 0, hi, hk => by
    obtain ⟨h1, h2⟩ := List.pairwise_cons.1 hr
    simp at hi; subst hi
    have e : delF f.key (y :: r) = r := by
      unfold delF
      have hy : (!(y.key == f.key)) = false := by simp [hk]
      rw [List.filter_cons, hy]
      simp only [Bool.false_eq_true, if_false]
      exact delF_later (k := f.key) fun g hg => by rw [hk]; exact h1 g hg
    unfold putF
    rw [e, insF_first (fun g hg => by rw [hk]; exact h1 g hg)]
    rfl
  | y :: r, hr, f, g, i + 1, hi, hk => by
    obtain ⟨h1, h2⟩ := List.pairwise_cons.1 hr
    simp at hi
    have hg : g ∈ r := List.mem_of_getElem? hi
    have hyf : bytesBefore y.key f.key = true := by rw [hk]; exact h1 g hg
    have e : delF f.key (y :: r) = y :: delF f.key r := by
      unfold delF
      have hy : (!(y.key == f.key)) = true := by simpa using before_ne hyf
      rw [List.filter_cons, hy]; rfl
    have ih := putF_set h2 hi hk
    unfold putF at ih ⊢
    rw [e]
    unfold insF
    rw [if_neg (before_asymm hyf), ih]
    rfl
theorem delF_erase : ∀ {L : List Fl}, Rising L → ∀ {g : Fl} {i : Nat}, L[i]? = some g → delF g.key L = L.eraseIdx i
  | [], _, g, i, hi => by simp at hi
  | y :: r, hr, g, 0, hi => by
    obtain ⟨h1, h2⟩ := List.pairwise_cons.1 hr
    simp at hi; subst hi
    unfold delF
    have hy : (!(y.key == y.key)) = false := by simp
    rw [List.filter_cons, hy]
    simp only [Bool.false_eq_true, if_false]
    exact delF_later (k := y.key) h1
  | y :: r, hr, g, i + 1, hi => by
    obtain ⟨h1, h2⟩ := List.pairwise_cons.1 hr
    simp at hi
    have hg : g ∈ r := List.mem_of_getElem? hi
    have ih := delF_erase h2 hi
    unfold delF at ih ⊢
    have hy : (!(y.key == g.key)) = true := by simpa using before_ne (h1 g hg)
    rw [List.filter_cons, hy, ih]
    rfl
theorem find_of_idx : ∀ {L : List Fl}, Rising L → ∀ {g : Fl} {i : Nat}, L[i]? = some g → findF g.key L = some g
  | [], _, g, i, hi => by simp at hi
  | y :: r, hr, g, 0, hi => by
    simp at hi; subst hi
    simp [findF]
  | y :: r, hr, g, i + 1, hi => by
    obtain ⟨h1, h2⟩ := List.pairwise_cons.1 hr
    simp at hi
    have hg : g ∈ r := List.mem_of_getElem? hi
    have ih := find_of_idx h2 hi
    unfold findF at ih ⊢
    have hy : (y.key == g.key) = false := by simpa using before_ne (h1 g hg)
    rw [List.find?_cons, hy]
    exact ih
theorem find_none {L : List Fl} {k : List UInt8} (h : ∀ g ∈ L, g.key ≠ k) : findF k L = none := by
  unfold findF
  rw [List.find?_eq_none]
  intro x hx
  have := h x hx
  simpa using this
theorem put_new {L : List Fl} {f : Fl} (h : findF f.key L = none) : putF f L = insF f L := by
  unfold putF
  rw [del_none h]
end Go.Proofs.YtnpgjlhnlakgpaaDoor

/- The reference's disk: where a file stands in its list, to take one out, to put one in; its cells in memory. -/
import Derived.Test.YtcjhkonjlhpmhaaVfsSame
import Derived.Laws.OwnMore
namespace Go.Proofs.Ytcjhkonjlhpmhaa
open Go.RowKit Go.Maps

/-! ### Plain laws -/
def idxG (nm : ByteArray) : List Fl → Nat → Int
  | [], _ => -1
  | x :: r, i => if x.name = nm then (i : Int) else idxG nm r (i + 1)
def idxI (nm : ByteArray) (L : List Fl) : Int := idxG nm L 0
theorem name_key {f : Fl} {nm : ByteArray} : f.key = nm.data.toList ↔ f.name = nm := ⟨fun h => ba_of_list h, fun h => by rw [← h]⟩
theorem idxG_none {nm : ByteArray} : ∀ {L : List Fl} {n : Nat}, findF nm.data.toList L = none → idxG nm L n = -1
  | [], _, _ => rfl
  | x :: r, n, h => by
    unfold findF at h
    rw [List.find?_cons] at h
    by_cases hx : x.name = nm
    · have : (x.key == nm.data.toList) = true := by simpa using name_key.2 hx
      rw [this] at h; cases h
    · have : (x.key == nm.data.toList) = false := by simpa using fun e => hx (name_key.1 e)
      rw [this] at h
      unfold idxG
      rw [if_neg hx]
      exact idxG_none (L := r) h
theorem idxG_some {nm : ByteArray} : ∀ {L : List Fl} {n : Nat} {f : Fl}, findF nm.data.toList L = some f → ∃ i : Nat, idxG nm L n = ((n + i : Nat) : Int) ∧ L[i]? = some f
  | [], _, _, h => by simp [findF] at h
  | x :: r, n, f, h => by
    unfold findF at h
    rw [List.find?_cons] at h
    by_cases hx : x.name = nm
    · have : (x.key == nm.data.toList) = true := by simpa using name_key.2 hx
      rw [this] at h
      cases h
      exact ⟨0, by unfold idxG; rw [if_pos hx]; rfl, rfl⟩
    · have : (x.key == nm.data.toList) = false := by simpa using fun e => hx (name_key.1 e)
      rw [this] at h
      obtain ⟨i, h1, h2⟩ := idxG_some (L := r) (n := n + 1) h
      refine ⟨i + 1, ?_, by simpa using h2⟩
      unfold idxG
      rw [if_neg hx, h1]
      congr 1; omega
theorem idx_none {nm : ByteArray} {L : List Fl} (h : findF nm.data.toList L = none) : idxI nm L = -1 := idxG_none h
theorem idx_some {nm : ByteArray} {L : List Fl} {f : Fl} (h : findF nm.data.toList L = some f) : ∃ i : Nat, idxI nm L = (i : Int) ∧ L[i]? = some f := by
  obtain ⟨i, h1, h2⟩ := idxG_some (n := 0) h
  exact ⟨i, by unfold idxI; rw [h1]; simp, h2⟩
theorem drop_cons {α : Type} {L : List α} {i : Nat} {x : α} (h : L[i]? = some x) : L.drop i = x :: L.drop (i + 1) := by
  obtain ⟨hi, rfl⟩ := List.getElem?_eq_some_iff.1 h
  exact List.drop_eq_getElem_cons hi
theorem idxG_round {nm : ByteArray} {L : List Fl} {i : Nat} {x : Fl} (h : L[i]? = some x) : idxG nm (L.drop i) i = if x.name = nm then (i : Int) else idxG nm (L.drop (i + 1)) (i + 1) := by
  rw [drop_cons h]; rfl
/-- Where a file was taken out: the first i. -/
theorem erase_take {L : List Fl} {i k : Nat} {x : Fl} (h : L[i]? = some x) : (L.take (i + 1)).eraseIdx k = if i = k then (L.take i).eraseIdx k else (L.take i).eraseIdx k ++ [x] := by
  have hi : i < L.length := (List.getElem?_eq_some_iff.1 h).1
  have ht : L.take (i + 1) = L.take i ++ [x] := by rw [List.take_add_one, h]; rfl
  have hl : (L.take i).length = i := by rw [List.length_take]; omega
  rw [ht]
  split
  · rename_i e
    subst e
    rw [List.eraseIdx_append_of_length_le (by omega), hl]
    simp
    rw [List.eraseIdx_of_length_le (by omega)]
  · rename_i e
    by_cases hk : k < i
    · rw [List.eraseIdx_append_of_lt_length (by omega)]
    · rw [List.eraseIdx_append_of_length_le (by omega), hl, List.eraseIdx_of_length_le (l := L.take i) (by omega)]
      congr 1
      rw [List.eraseIdx_of_length_le]
      simp; omega
/-- What stays to be put behind what was put already. -/
def restF (f : Fl) (done : Bool) (L : List Fl) : List Fl := if done then L else insF f L
theorem restF_done {f x : Fl} {L : List Fl} {i : Nat} (h : L[i]? = some x) : restF f true (L.drop i) = x :: restF f true (L.drop (i + 1)) := by
  rw [drop_cons h]; rfl
theorem restF_now {f x : Fl} {L : List Fl} {i : Nat} (h : L[i]? = some x) (hb : bytesBefore f.key x.key = true) : restF f false (L.drop i) = f :: x :: restF f true (L.drop (i + 1)) := by
  rw [drop_cons h]
  show insF f _ = _
  unfold insF
  rw [if_pos hb]; rfl
theorem restF_later {f x : Fl} {L : List Fl} {i : Nat} (h : L[i]? = some x) (hb : bytesBefore f.key x.key = false) : restF f false (L.drop i) = x :: restF f false (L.drop (i + 1)) := by
  rw [drop_cons h]
  show insF f _ = _
  unfold insF
  rw [if_neg (by simp [hb])]; rfl
theorem fileCells_len (L : List Fl) : (fileCells L).length = L.length * 3 := by
  induction L with
  | nil => rfl
  | cons x r ih => simp [fileCells] at *; omega
theorem fileCells_append (A B : List Fl) : fileCells (A ++ B) = fileCells A ++ fileCells B := by simp [fileCells]
theorem fileCells_cons (f : Fl) (L : List Fl) : fileCells (f :: L) = [.string f.name, .string f.bytes, .int .i64 (f.safe : Int)] ++ fileCells L := by simp [fileCells]
theorem fileCells_bytes : ∀ {L : List Fl} {i : Nat} {f : Fl}, L[i]? = some f → ∀ b, (fileCells L).set (i * 3 + 1) (.string b) = fileCells (L.set i { f with bytes := b })
  | [], i, f, h, _ => by simp at h
  | y :: r, 0, f, h, b => by
    simp at h; subst h
    rfl
  | y :: r, i + 1, f, h, b => by
    have ih := fileCells_bytes (L := r) (i := i) (f := f) (by simpa using h) b
    rw [fileCells_cons, List.set_cons_succ, fileCells_cons, ← ih]
    have e : (i + 1) * 3 + 1 = i * 3 + 1 + 1 + 1 + 1 := by omega
    rw [e]; rfl
theorem fileCells_safe : ∀ {L : List Fl} {i : Nat} {f : Fl}, L[i]? = some f → ∀ s : Nat, (fileCells L).set (i * 3 + 2) (.int .i64 (s : Int)) = fileCells (L.set i { f with safe := s })
  | [], i, f, h, _ => by simp at h
  | y :: r, 0, f, h, b => by
    simp at h; subst h
    rfl
  | y :: r, i + 1, f, h, b => by
    have ih := fileCells_safe (L := r) (i := i) (f := f) (by simpa using h) b
    rw [fileCells_cons, List.set_cons_succ, fileCells_cons, ← ih]
    have e : (i + 1) * 3 + 2 = i * 3 + 2 + 1 + 1 + 1 := by omega
    rw [e]; rfl

/-! ### The disk in memory -/
/-- The five cells of the reference's disk. -/
structure RC (w : World) (b : Nat) (room : Int) (lv : Value) (armed : Int) (off : Bool) (count : Int) : Prop where
  c0 : w.cell? ⟨b, 0, none⟩ = some (.int .i64 room)
  c1 : w.cell? ⟨b, 1, none⟩ = some lv
  c2 : w.cell? ⟨b, 2, none⟩ = some (.int .i64 armed)
  c3 : w.cell? ⟨b, 3, none⟩ = some (.bool off)
  c4 : w.cell? ⟨b, 4, none⟩ = some (.int .i64 count)
  f1 : w.frozen? ⟨b, 1, none⟩ = false
  f2 : w.frozen? ⟨b, 2, none⟩ = false
  f3 : w.frozen? ⟨b, 3, none⟩ = false
  f4 : w.frozen? ⟨b, 4, none⟩ = false
section
variable {w w' : World} {b : Nat} {room armed count : Int} {lv : Value} {off : Bool}
theorem RC.lt (h : RC w b room lv armed off count) : b < w.heap.size := World.block_lt_of_cell? w _ h.c0
theorem RC.of_block (h : RC w b room lv armed off count) (hb : w'.heap[b]? = w.heap[b]?) : RC w' b room lv armed off count := by
  have hc : ∀ o, w'.cell? ⟨b, o, none⟩ = w.cell? ⟨b, o, none⟩ := fun o => World.cell?_of_block (w := w) hb
  have hf : ∀ o, w'.frozen? ⟨b, o, none⟩ = w.frozen? ⟨b, o, none⟩ := fun o => World.frozen?_of_block (w := w) hb
  exact ⟨by rw [hc]; exact h.c0, by rw [hc]; exact h.c1, by rw [hc]; exact h.c2, by rw [hc]; exact h.c3, by rw [hc]; exact h.c4, by rw [hf]; exact h.f1, by rw [hf]; exact h.f2, by rw [hf]; exact h.f3, by rw [hf]; exact h.f4⟩
theorem RC.set1 (h : RC w b room lv armed off count) (x : Value) : RC (w.setCell ⟨b, 1, none⟩ x) b room x armed off count :=
  ⟨setc (by decide) h.c0, sets h.c1, setc (by decide) h.c2, setc (by decide) h.c3, setc (by decide) h.c4, setf h.f1, setf h.f2, setf h.f3, setf h.f4⟩
theorem RC.set2 (h : RC w b room lv armed off count) (x : Int) : RC (w.setCell ⟨b, 2, none⟩ (.int .i64 x)) b room lv x off count :=
  ⟨setc (by decide) h.c0, setc (by decide) h.c1, sets h.c2, setc (by decide) h.c3, setc (by decide) h.c4, setf h.f1, setf h.f2, setf h.f3, setf h.f4⟩
theorem RC.set3 (h : RC w b room lv armed off count) (x : Bool) : RC (w.setCell ⟨b, 3, none⟩ (.bool x)) b room lv armed x count :=
  ⟨setc (by decide) h.c0, setc (by decide) h.c1, setc (by decide) h.c2, sets h.c3, setc (by decide) h.c4, setf h.f1, setf h.f2, setf h.f3, setf h.f4⟩
theorem RC.set4 (h : RC w b room lv armed off count) (x : Int) : RC (w.setCell ⟨b, 4, none⟩ (.int .i64 x)) b room lv armed off x :=
  ⟨setc (by decide) h.c0, setc (by decide) h.c1, setc (by decide) h.c2, setc (by decide) h.c3, sets h.c4, setf h.f1, setf h.f2, setf h.f3, setf h.f4⟩
end
def armI (d : Dk) : Int := if d.armed then (d.left : Int) else -1
/-- The files' row of a disk in block b: nil, or in a block behind b. -/
def RowAt (w : World) (b g : Nat) (lv : Value) (L : List Fl) : Prop := w.ownsRow (b + 1) 43 3 lv L.length (fileCells L) ∧ lv.ownBlock.getD b = g
/-- The reference's disk d stands in block b, its files in block g. -/
def RAt (w : World) (b g : Nat) (d : Dk) : Prop := ∃ lv, RC w b (d.room : Int) lv (armI d) d.off (d.steps : Int) ∧ RowAt w b g lv d.L
theorem row_block_kept {w w' : World} {B : Nat} {e : TypeId} {k : Nat} {v : Value} {n : Nat} {xs : List Value} (h : w.ownsRow B e k v n xs) (hb : ∀ g, v.ownBlock = some g → w'.heap[g]? = w.heap[g]?) : w'.ownsRow B e k v n xs := by
  refine ⟨h.1, ?_⟩
  rcases h.2 with h2 | ⟨g, cap, cur, rfl, h2, hcb, r⟩
  · exact .inl h2
  · exact .inr ⟨g, cap, cur, rfl, h2, by rw [hb g rfl]; exact hcb, r⟩
theorem RowAt.ne {w : World} {b g : Nat} {lv : Value} {L : List Fl} (h : RowAt w b g lv L) {j : Nat} (hj : lv.ownBlock = some j) : j = g ∧ b < g ∧ g < w.heap.size := by
  have h1 := h.1.lt j hj
  have h2 := h.2
  rw [hj] at h2
  simp at h2
  omega
theorem RowAt.of {w w' : World} {b g : Nat} {lv : Value} {L : List Fl} (h : RowAt w b g lv L) (hb : g ≠ b → w'.heap[g]? = w.heap[g]?) : RowAt w' b g lv L :=
  ⟨row_block_kept h.1 fun j hj => by obtain ⟨rfl, h1, _⟩ := h.ne hj; exact hb (by omega), h.2⟩
theorem RAt.lt {w : World} {b g : Nat} {d : Dk} (h : RAt w b g d) : b < w.heap.size := by obtain ⟨lv, h, _⟩ := h; exact h.lt
theorem RAt.ltg {w : World} {b g : Nat} {d : Dk} (h : RAt w b g d) : g < w.heap.size ∧ b ≤ g := by
  obtain ⟨lv, h, r⟩ := h
  have h2 := r.2
  cases hv : lv.ownBlock with
  | none => rw [hv] at h2; simp at h2; subst h2; exact ⟨h.lt, Nat.le_refl _⟩
  | some j => have := r.ne hv; omega
theorem RAt.of {w w' : World} {b g : Nat} {d : Dk} (h : RAt w b g d) (h1 : w'.heap[b]? = w.heap[b]?) (h2 : w'.heap[g]? = w.heap[g]?) : RAt w' b g d := by
  obtain ⟨lv, h, r⟩ := h
  exact ⟨lv, h.of_block h1, r.of fun _ => h2⟩
theorem RAt.below {w w' : World} {b g : Nat} {d : Dk} (h : RAt w b g d) (hB : Below w.heap.size w w') : RAt w' b g d := h.of (hB.block b h.lt) (hB.block g h.ltg.1)
theorem RAt.kept {w w' : World} {b g b' m' : Nat} {d : Dk} (h : RAt w b g d) (hk : Kp b' m' w w') (h1 : b ≠ b') (h2 : b ≠ m') (h3 : g ≠ b') (h4 : g ≠ m') : RAt w' b g d :=
  h.of (hk.block b h.lt h1 h2) (hk.block g h.ltg.1 h3 h4)
theorem RAt.alloc {w : World} {b g : Nat} {d : Dk} (h : RAt w b g d) (o : Obj) : RAt (w.alloc o) b g d := h.below ((Below.refl _ _).alloc (Nat.le_refl _) o)
/-- The files' row as a slice that reads. -/
theorem RowAt.files {w : World} {b g : Nat} {lv : Value} {L : List Fl} (h : RowAt w b g lv L) :
    ∃ p c, lv = .slice p L.length c ∧ L.length ≤ c ∧ (L = [] ∨ p = some ⟨g, 0, none⟩ ∧ g < w.heap.size ∧ ∀ i f, L[i]? = some f → w.cell? ⟨g, i * 3, none⟩ = some (.string f.name) ∧ w.cell? ⟨g, i * 3 + 1, none⟩ = some (.string f.bytes) ∧ w.cell? ⟨g, i * 3 + 2, none⟩ = some (.int .i64 (f.safe : Int))) := by
  obtain ⟨p, c, rfl, h2⟩ := FilesAt.of_row h.1
  refine ⟨p, c, rfl, ?_, ?_⟩
  · rcases h.1.2 with ⟨hv, hn⟩ | ⟨g, cap, cur, hv, _, _, hc, _⟩
    · injection hv with _ h3 h4; omega
    · injection hv with _ h3 h4; omega
  · rcases h2 with h2 | ⟨j, rfl, hc⟩
    · exact .inl h2
    · obtain ⟨rfl, _, h4⟩ := h.ne (j := j) rfl
      exact .inr ⟨rfl, h4, hc⟩
end Go.Proofs.Ytcjhkonjlhpmhaa

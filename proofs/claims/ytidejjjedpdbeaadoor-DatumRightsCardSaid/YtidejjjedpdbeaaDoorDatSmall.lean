/- Contracts of datum.many, datum.truth, datum.of, datum.anyNull: what each call returns. -/
import Derived.Test.YtidejjjedpdbeaaDoorProg
import Derived.Test.YtidejjjedpdbeaaDoorKeep
namespace Go.Proofs.YtidejjjedpdbeaaDoor
open Go.RowKit

/-- A value of the program: its kind, its number, its bytes. -/
structure Dt where
  k : Int
  i : Int
  s : ByteArray
instance : Inhabited Dt := ⟨⟨0, 0, ⟨#[]⟩⟩⟩
abbrev Dt.v (d : Dt) : Value := .agg #[.int .i64 d.k, .int .i64 d.i, .string d.s]
def Dt.zero : Dt := ⟨0, 0, ⟨#[]⟩⟩
/-- The value of kind BOOL. -/
def truthD (b : Bool) : Dt := ⟨1, if b then 1 else 0, ⟨#[]⟩⟩
/-- The j-th of some values. -/
def dnth (ds : List Dt) (j : Nat) : Dt := ds.getD j Dt.zero
/-- The j-th of some numbers. -/
def inth (ks : List Int) (j : Nat) : Int := ks.getD j 0
/-- Cells of a block, from an offset on, hold values. -/
def DCells (w : World) (b o : Nat) (ds : List Dt) : Prop :=
  ∀ j, j < ds.length → w.cell? ⟨b, o + j * 3, none⟩ = some (.int .i64 (dnth ds j).k) ∧ w.cell? ⟨b, o + j * 3 + 1, none⟩ = some (.int .i64 (dnth ds j).i) ∧ w.cell? ⟨b, o + j * 3 + 2, none⟩ = some (.string (dnth ds j).s)

theorem DCells.at {w : World} {b o : Nat} {ds : List Dt} (h : DCells w b o ds) {w' : World} (hB : Below w.heap.size w w') (hb : b < w.heap.size) (j : Nat) (hj : j < ds.length) :
    w'.cell? ⟨b, o + j * 3, none⟩ = some (.int .i64 (dnth ds j).k) ∧ w'.cell? ⟨b, o + j * 3 + 1, none⟩ = some (.int .i64 (dnth ds j).i) ∧ w'.cell? ⟨b, o + j * 3 + 2, none⟩ = some (.string (dnth ds j).s) := by
  rw [hB.cell (p := ⟨b, o + j * 3, none⟩) hb, hB.cell (p := ⟨b, o + j * 3 + 1, none⟩) hb, hB.cell (p := ⟨b, o + j * 3 + 2, none⟩) hb]
  exact h j hj
theorem DCells.below {w : World} {b o : Nat} {ds : List Dt} (h : DCells w b o ds) {w' : World} (hB : Below w.heap.size w w') (hb : b < w.heap.size) : DCells w' b o ds :=
  fun j hj => h.at hB hb j hj

theorem dcells_new1 (W : World) (k i : Int) (s : ByteArray) (t : TypeId) : DCells (W.alloc (.cells #[.int .i64 k, .int .i64 i, .string s] t)) W.heap.size 0 [⟨k, i, s⟩] := by
  intro j hj
  obtain rfl : j = 0 := by simpa using hj
  refine ⟨?_, ?_, ?_⟩ <;> rw [World.cell?_alloc_new] <;> rfl
theorem dcells_new2 (W : World) (k i : Int) (s : ByteArray) (k' i' : Int) (s' : ByteArray) (t : TypeId) : DCells (W.alloc (.cells #[.int .i64 k, .int .i64 i, .string s, .int .i64 k', .int .i64 i', .string s'] t)) W.heap.size 0 [⟨k, i, s⟩, ⟨k', i', s'⟩] := by
  intro j hj
  have : j = 0 ∨ j = 1 := by simp at hj; omega
  rcases this with rfl | rfl <;> refine ⟨?_, ?_, ?_⟩ <;> rw [World.cell?_alloc_new] <;> rfl
theorem any_false {ds : List Dt} {p : Dt → Bool} (h : ∀ j, j < ds.length → p (dnth ds j) = false) : ds.any p = false := by
  rw [List.any_eq_false]
  intro x hx
  obtain ⟨j, hj, rfl⟩ := List.getElem_of_mem hx
  have := h j hj
  simpa [dnth, hj] using this
theorem any_true {ds : List Dt} {p : Dt → Bool} {j : Nat} (hj : j < ds.length) (h : p (dnth ds j) = true) : ds.any p = true := by
  rw [List.any_eq_true]
  exact ⟨ds[j], List.getElem_mem hj, by simpa [dnth, hj] using h⟩
theorem ret_int {k : IntKind} {a b : Int} (h : a = b) : Ending.returned (Value.int k a) = .returned (Value.int k b) := by rw [h]
theorem ret_bool {a b : Bool} (h : a = b) : Ending.returned (Value.bool a) = .returned (Value.bool b) := by rw [h]

set_option maxHeartbeats 400000 in
theorem anyNull_any (ds : List Dt) (b o cap : Nat) (w : World) (hn : ds.length ≤ 1000) (hbk : b < w.heap.size) (hc : DCells w b o ds) :
    Calls Tryd.prog 27 #[.slice (some ⟨b, o, none⟩) ds.length cap] w fun e w' => e = .returned (.bool (ds.any fun d => d.k == 0)) ∧ Below w.heap.size w w' := by
  have Hc := Lib.hid hc
  clear hc
  go_enter Tryd.func27, Tryd.ntmps27
  go_wp2
  go_loopw [4, 7] (fun _ i wr => ∃ k : Nat, k ≤ ds.length ∧ i = .int .i64 k ∧ Below w.heap.size w wr ∧ (∀ j, j < k → ((dnth ds j).k == 0) = false)) (fun _ i _ => ds.length - (intOf i).toNat)
  case atStart => exact ⟨0, Nat.zero_le _, rfl, Below.refl _ _, fun j hj => by omega⟩
  case round =>
    obtain ⟨k, hk, rfl, hb, hz⟩ := hrel
    have Hz := Lib.hid hz
    have Hb := Lib.hid hb
    have hzw := hb.size
    clear hz hb
    by_cases hlt : k < ds.length
    · have hzero : (0 : Int) ≤ k := by omega
      obtain ⟨hc0, hc1, hc2⟩ := Hc.out.at Hb.out hbk k hlt
      by_cases hx : (dnth ds k).k = 0
      · have hx2 : ((dnth ds k).k == 0) = true := by rw [hx]; rfl
        have HX := Lib.hid (any_true (p := fun d => d.k == 0) hlt hx2)
        clear hx
        go_wp2
        go_ret
        exact ⟨ret_bool HX.out.symm, Hb.out.alloc hzw _⟩
      · have hx2 : ((dnth ds k).k == 0) = false := by simpa using hx
        have HX := Lib.hid hx2
        clear hx
        go_wp2
        go_roundw
        case rel => exact ⟨k + 1, by omega, by go_num, Hb.out.alloc hzw _, fun j hj => by
          rcases Nat.lt_succ_iff_lt_or_eq.1 hj with h | h
          · exact Hz.out j h
          · rw [h]; exact HX.out⟩
        case measure => simp [intOf]; omega
    · have HE := Lib.hid (any_false (p := fun d => d.k == 0) (fun j hj => Hz.out j (by omega)))
      go_wp2
      go_ret
      exact ⟨ret_bool HE.out.symm, Hb.out⟩

theorem truth_any (c : Bool) (w : World) :
    Calls Tryd.prog 23 #[.bool c] w fun e w' => e = .returned (truthD c).v ∧ Below w.heap.size w w' := by
  cases c
  · go_enter Tryd.func23, Tryd.ntmps23
    go_wp2
    refine bodyPost_ret (v := (truthD false).v) (by simp [results, Tryd.results23, go_sem, truthD, Dt.v]) rfl ⟨rfl, ?_⟩
    exact (Below.refl _ _).alloc (Nat.le_refl _) _
  · go_enter Tryd.func23, Tryd.ntmps23
    go_wp2
    refine bodyPost_ret (v := (truthD true).v) (by simp [results, Tryd.results23, go_sem, truthD, Dt.v]) rfl ⟨rfl, ?_⟩
    exact (Below.refl _ _).alloc (Nat.le_refl _) _

/-- How many arguments an operator has. -/
def manyF (op : Int) : Int := if 3 ≤ op ∧ op ≤ 14 then 2 else if op = 1 ∨ op = 2 ∨ op = 15 ∨ (18 ≤ op ∧ op ≤ 20) then 1 else 0
theorem many_any (op : Int) (w : World) :
    Calls Tryd.prog 22 #[.int .i64 op] w fun e w' => e = .returned (.int .i64 (manyF op)) ∧ w = w' := by
  have hcase : op < 1 ∨ op = 1 ∨ op = 2 ∨ (3 ≤ op ∧ op ≤ 12) ∨ op = 13 ∨ op = 14 ∨ op = 15 ∨ op = 16 ∨ op = 17 ∨ (18 ≤ op ∧ op ≤ 20) ∨ 20 < op := by omega
  have HE : Hid (manyF op = if 3 ≤ op ∧ op ≤ 14 then 2 else if op = 1 ∨ op = 2 ∨ op = 15 ∨ (18 ≤ op ∧ op ≤ 20) then 1 else 0) := Lib.hid rfl
  rcases hcase with h | rfl | rfl | ⟨h, h'⟩ | rfl | rfl | rfl | rfl | rfl | ⟨h, h'⟩ | h
  all_goals
    go_enter Tryd.func22, Tryd.ntmps22
    go_wp2
    go_ret
    have hE := HE.out
    refine ⟨ret_int ?_, rfl⟩
    rw [hE]
    first | decide | (repeat' split <;> omega)

/-- Numbers in a block. -/
def ICells (w : World) (b o : Nat) (ks : List Int) : Prop := ∀ j, j < ks.length → w.cell? ⟨b, o + j, none⟩ = some (.int .i64 (inth ks j))
theorem all_true {ds : List Dt} {p : Dt → Bool} (h : ∀ j, j < ds.length → p (dnth ds j) = true) : ds.all p = true := by
  rw [List.all_eq_true]
  intro x hx
  obtain ⟨j, hj, rfl⟩ := List.getElem_of_mem hx
  have := h j hj
  simpa [dnth, hj] using this
theorem all_false {ds : List Dt} {p : Dt → Bool} {j : Nat} (hj : j < ds.length) (h : p (dnth ds j) = false) : ds.all p = false := by
  rw [List.all_eq_false]
  exact ⟨ds[j], List.getElem_mem hj, by simpa [dnth, hj] using h⟩
theorem kinds_new (w : World) (t : TypeId) (ks : List Int) {xs : Array Value} (h : xs = (ks.map fun k => Value.int .i64 k).toArray) : ICells (w.alloc (.cells xs t)) w.heap.size 0 ks := by
  intro j hj
  rw [World.cell?_alloc_new, h]
  simp [inth, hj]
theorem ICells.at {w : World} {b o : Nat} {ks : List Int} (h : ICells w b o ks) {w' : World} (hB : Below w.heap.size w w') (hb : b < w.heap.size) (j : Nat) (hj : j < ks.length) :
    w'.cell? ⟨b, o + j, none⟩ = some (.int .i64 (inth ks j)) := by
  rw [hB.cell (p := ⟨b, o + j, none⟩) hb]
  exact h j hj
theorem take_any (ks : List Int) (x : Int) (j : Nat) (hj : j < ks.length) : ((ks.take (j + 1)).any fun q => x == q) = (((ks.take j).any fun q => x == q) || x == inth ks j) := by
  rw [List.take_succ_eq_append_getElem hj, List.any_append]
  simp [inth, hj]
/-- Whether a value is NULL or of one of some kinds. -/
def isOf (ks : List Int) (d : Dt) : Bool := d.k == 0 || ks.any fun q => d.k == q

set_option maxHeartbeats 1000000 in
theorem of_any (ds : List Dt) (b o cap : Nat) (ks : List Int) (b2 cap2 : Nat) (w : World) (hn : ds.length ≤ 1000) (hbk : b < w.heap.size) (hc : DCells w b o ds) (hn2 : ks.length ≤ 1000) (hbk2 : b2 < w.heap.size) (hc2 : ICells w b2 0 ks) :
    Calls Tryd.prog 24 #[.slice (some ⟨b, o, none⟩) ds.length cap, .slice (some ⟨b2, 0, none⟩) ks.length cap2] w fun e w' => e = .returned (.bool (ds.all (isOf ks))) ∧ Below w.heap.size w w' := by
  have Hc := Lib.hid hc
  have Hc2 := Lib.hid hc2
  clear hc hc2
  go_enter Tryd.func24, Tryd.ntmps24
  go_wp2
  go_loopw [6, 7, 9, 12, 21] (fun _ _ _ i _ wr => ∃ k : Nat, k ≤ ds.length ∧ i = .int .i64 k ∧ Below w.heap.size w wr ∧ (∀ j, j < k → isOf ks (dnth ds j) = true)) (fun _ _ _ i _ _ => ds.length - (intOf i).toNat)
  case atStart => exact ⟨0, Nat.zero_le _, rfl, Below.refl _ _, fun j hj => by omega⟩
  case round =>
    obtain ⟨k, hk, rfl, hb, hz⟩ := hrel
    have Hz := Lib.hid hz
    have Hb := Lib.hid hb
    have hzw := hb.size
    clear hz hb
    by_cases hlt : k < ds.length
    · have hzero : (0 : Int) ≤ k := by omega
      obtain ⟨hc0, hc1, hc2⟩ := Hc.out.at Hb.out hbk k hlt
      have HI : Hid (isOf ks (dnth ds k) = (((dnth ds k).k == 0) || ks.any fun q => (dnth ds k).k == q)) := Lib.hid rfl
      generalize hdk : (dnth ds k).k = dk at *
      generalize (dnth ds k).i = di at *
      generalize (dnth ds k).s = dsx at *
      clear hdk
      go_wp2
      have Hb2 := Lib.hid (Hb.out.alloc hzw (.cells #[.int .i64 dk, .int .i64 di, .string dsx] 24))
      have hcell : (wr.alloc (.cells #[.int .i64 dk, .int .i64 di, .string dsx] 24)).cell? ⟨wr.heap.size, 0, none⟩ = some (.int .i64 dk) := by
        rw [World.cell?_alloc_new]; rfl
      generalize wr.alloc (.cells #[.int .i64 dk, .int .i64 di, .string dsx] 24) = wq at *
      go_loop [7, 9, 21] (fun q _ i => ∃ j : Nat, j ≤ ks.length ∧ i = .int .i64 j ∧ q = .bool ((dk == 0) || ((ks.take j).any fun q => dk == q))) (fun _ _ i => ks.length - (intOf i).toNat)
      case atStart => exact ⟨0, Nat.zero_le _, rfl, by simp⟩
      case round =>
        obtain ⟨j, hj, rfl, rfl⟩ := hrel
        by_cases hlt2 : j < ks.length
        · have hz2 : (0 : Int) ≤ j := by omega
          have hcj := Hc2.out.at Hb2.out hbk2 j hlt2
          have HT := Lib.hid (take_any ks dk j hlt2)
          generalize hacc : ((dk == 0) || ((ks.take j).any fun q => dk == q)) = acc at *
          have HA := Lib.hid hacc
          clear hacc
          simp only [Nat.zero_add] at hcj
          generalize inth ks j = q at *
          cases acc
          · go_wp2
            go_round
            case rel => exact ⟨j + 1, by omega, by go_num, by rw [HT.out, ← Bool.or_assoc, HA.out]; simp⟩
            case measure => simp [intOf]; omega
          · go_wp2
            go_round
            case rel => exact ⟨j + 1, by omega, by go_num, by rw [HT.out, ← Bool.or_assoc, HA.out]; simp⟩
            case measure => simp [intOf]; omega
        · have hjj : j = ks.length := by omega
          have HJ : Hid (((dk == 0) || ((ks.take j).any fun q => dk == q)) = isOf ks (dnth ds k)) := by rw [HI.out, hjj, List.take_length]; exact rfl
          generalize ((dk == 0) || ((ks.take j).any fun q => dk == q)) = acc at *
          clear hjj
          cases acc
          · go_wp2
            go_ret
            exact ⟨ret_bool (all_false hlt HJ.out.symm).symm, Hb2.out⟩
          · go_wp2
            go_roundw
            case rel => exact ⟨k + 1, by omega, by go_num, Hb2.out, fun j hj => by
              rcases Nat.lt_succ_iff_lt_or_eq.1 hj with h | h
              · exact Hz.out j h
              · rw [h]; exact HJ.out.symm⟩
            case measure => simp [intOf]; omega
    · have HE := Lib.hid (all_true (p := isOf ks) (fun j hj => Hz.out j (by omega)))
      go_wp2
      go_ret
      exact ⟨ret_bool HE.out.symm, Hb.out⟩
end Go.Proofs.YtidejjjedpdbeaaDoor

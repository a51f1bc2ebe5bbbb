/- The plain model of a disk of files: its files by rising names, and what each call makes of it; how a list of files is a map's datum. -/
import Derived.Maps.OwnSet
import Derived.MapViews
import Derived.Sort.KeysCollected
import Derived.WalkKit
namespace Go.Proofs.YtnpgjlhnlakgpaaDoor
open Go.RowKit Go.Maps

/-- A file: its name, its bytes, how many of these are safe. -/
structure Fl where
  name : ByteArray
  bytes : ByteArray
  safe : Nat
deriving DecidableEq
abbrev Fl.key (f : Fl) : List UInt8 := f.name.data.toList

/-- How a file's value reads. -/
def flElem : Value → Option (DataW Unit × List MemPlace)
  | .agg cs => match cs.toList with
    | [.string n, .string b, .int .i64 s] => if 0 ≤ s then some (.agg [.lit (.string n.data.toList), .lit (.string b.data.toList), .lit (.int .i64 s)], []) else none
    | _ => none
  | _ => none
def Fl.datum (f : Fl) : DataW Unit := .agg [.lit (.string f.name.data.toList), .lit (.string f.bytes.data.toList), .lit (.int .i64 (f.safe : Int))]
def Fl.val (f : Fl) : Value := .agg #[.string f.name, .string f.bytes, .int .i64 (f.safe : Int)]
theorem flElem_val (f : Fl) : flElem f.val = some (f.datum, []) := by simp [flElem, Fl.val, Fl.datum]
theorem ba_of_list {a b : ByteArray} (h : a.data.toList = b.data.toList) : a = b := by
  cases a; cases b; congr 1; exact Array.toList_inj.1 h
theorem flElem_inv {v : Value} {z : DataW Unit × List MemPlace} (h : flElem v = some z) : ∃ f : Fl, v = f.val ∧ z = (f.datum, []) := by
  unfold flElem at h
  split at h
  · rename_i cs
    split at h
    · rename_i n b s hcs
      split at h
      · rename_i hs
        cases h
        refine ⟨⟨n, b, s.toNat⟩, ?_, ?_⟩
        · unfold Fl.val
          congr 1
          have hcs2 : cs = #[.string n, .string b, .int .i64 s] := by
            apply Array.toList_inj.1; rw [hcs]
          rw [hcs2]
          congr
          simp; omega
        · simp [Fl.datum]; omega
      · cases h
    · cases h
  · cases h
theorem Fl.datum_inj {f g : Fl} (h : f.datum = g.datum) : f = g := by
  cases f; cases g
  simp only [Fl.datum, DataW.agg.injEq, List.cons.injEq, DataW.lit.injEq, Lit.string.injEq, Lit.int.injEq, and_true, true_and] at h
  obtain ⟨h1, h2, h3⟩ := h
  congr
  · exact ba_of_list h1
  · exact ba_of_list h2
  · omega

/-! ### Lists of files by rising names -/
def insF (f : Fl) : List Fl → List Fl
  | [] => [f]
  | y :: r => if bytesBefore f.key y.key then f :: y :: r else y :: insF f r
def delF (k : List UInt8) (L : List Fl) : List Fl := L.filter fun f => !(f.key == k)
def putF (f : Fl) (L : List Fl) : List Fl := insF f (delF f.key L)
def findF (k : List UInt8) (L : List Fl) : Option Fl := L.find? fun f => f.key == k
/-- A list of files as a map's datum. -/
def dent (f : Fl) : Lit × DataW Unit := (.string f.key, f.datum)
def dm (L : List Fl) : DataW Unit := .map (L.map dent)

theorem dm_ins (f : Fl) : ∀ L, DataW.insert (dent f) (L.map dent) = (insF f L).map dent
  | [] => rfl
  | y :: r => by
    show (if bytesBefore f.key y.key then _ else _) = _
    unfold insF
    by_cases h : bytesBefore f.key y.key = true
    · rw [if_pos h, if_pos h]; rfl
    · rw [if_neg h, if_neg h, dm_ins f r]; rfl
theorem dm_filter (k : List UInt8) (L : List Fl) : (L.map dent).filter (fun p => !p.1.sameKey (.string k)) = (delF k L).map dent := by
  rw [List.filter_map]; rfl
theorem dm_put (f : Fl) (L : List Fl) : (dm L).put (.string f.key) f.datum = dm (putF f L) := by
  show DataW.map (DataW.insert (dent f) ((L.map dent).filter (fun p => !p.1.sameKey (.string f.key)))) = _
  rw [dm_filter, dm_ins]; rfl
theorem dm_del (k : List UInt8) (L : List Fl) : (dm L).del (.string k) = dm (delF k L) := by
  show DataW.map ((L.map dent).filter (fun p => !p.1.sameKey (.string k))) = _
  rw [dm_filter]; rfl
theorem dm_find (k : List UInt8) (L : List Fl) : (L.map dent).find? (fun p => p.1.sameKey (.string k)) = (findF k L).map dent := by
  unfold findF
  rw [List.find?_map]; rfl
theorem dm_at (k : List UInt8) (L : List Fl) (z : DataW Unit) : (dm L).atKey (.string k) z = match findF k L with | some f => f.datum | none => z := by
  unfold dm DataW.atKey
  simp only []
  rw [dm_find]
  cases findF k L <;> rfl
theorem dm_has (k : List UInt8) (L : List Fl) : has (dm L) (.string k) = (findF k L).isSome := by
  show (L.map dent).any (fun p => p.1.sameKey (.string k)) = _
  unfold findF
  rw [List.any_map]
  induction L with
  | nil => rfl
  | cons y r ih =>
    simp only [List.any_cons, List.find?_cons, ih]
    have e : ((fun p : Lit × DataW Unit => p.1.sameKey (.string k)) ∘ dent) y = (y.key == k) := rfl
    rw [e]
    cases y.key == k <;> simp
theorem dm_size (L : List Fl) : size (dm L) = L.length := by simp [dm, size_eq]
theorem dm_keys (L : List Fl) : strKeys (dm L) = L.map Fl.key := by simp [dm, strKeys, dent, strOf, Function.comp_def]

/-- Names rise. -/
def Rising (L : List Fl) : Prop := L.Pairwise fun f g => bytesBefore f.key g.key = true
theorem findF_key {k : List UInt8} {L : List Fl} {f : Fl} (h : findF k L = some f) : f.key = k := by
  have := List.find?_some h; simpa using this
theorem findF_mem {k : List UInt8} {L : List Fl} {f : Fl} (h : findF k L = some f) : f ∈ L := List.mem_of_find?_eq_some h
theorem mem_insF {f x : Fl} : ∀ {L : List Fl}, x ∈ insF f L ↔ x = f ∨ x ∈ L
  | [] => by simp [insF]
  | y :: r => by
    unfold insF
    split
    · simp
    · simp [mem_insF (f := f) (L := r)]; constructor
      · rintro (h | h | h) <;> simp [h]
      · rintro (h | h | h) <;> simp [h]
theorem Rising.ins {f : Fl} : ∀ {L : List Fl}, Rising L → (∀ g ∈ L, g.key ≠ f.key) → Rising (insF f L)
  | [], _, _ => by simp [insF, Rising]
  | y :: r, h, hne => by
    obtain ⟨h1, h2⟩ := List.pairwise_cons.1 h
    unfold insF
    split
    · rename_i hb
      refine List.pairwise_cons.2 ⟨fun q hq => ?_, h⟩
      rcases List.mem_cons.1 hq with rfl | hq
      · exact hb
      · exact WideShapes.bytes_trans _ _ _ hb (h1 q hq)
    · rename_i hb
      have hyx : bytesBefore y.key f.key = true := by
        rcases WideAt.bytes_total f.key y.key (fun e => hne y (by simp) e.symm) with h' | h'
        · exact absurd h' hb
        · exact h'
      refine List.pairwise_cons.2 ⟨fun q hq => ?_, Rising.ins h2 (fun g hg => hne g (by simp [hg]))⟩
      rcases mem_insF.1 hq with rfl | hq
      · exact hyx
      · exact h1 q hq
theorem Rising.del {L : List Fl} (h : Rising L) (k : List UInt8) : Rising (delF k L) := List.Pairwise.filter _ h
theorem Rising.put {L : List Fl} (h : Rising L) (f : Fl) : Rising (putF f L) :=
  (h.del f.key).ins fun g hg => by have := (List.mem_filter.1 hg).2; simpa using this
theorem Rising.nil : Rising [] := List.Pairwise.nil

/-- How many bytes they have together. -/
def usedF (L : List Fl) : Nat := (L.map fun f => f.bytes.size).sum
theorem usedF_ins (f : Fl) : ∀ L, usedF (insF f L) = f.bytes.size + usedF L
  | [] => by simp [insF, usedF]
  | y :: r => by
    unfold insF
    split
    · simp [usedF]
    · have := usedF_ins f r
      simp only [usedF, List.map_cons, List.sum_cons] at *
      omega
theorem del_none {k : List UInt8} : ∀ {L : List Fl}, findF k L = none → delF k L = L := by
  intro L h
  unfold delF
  rw [List.filter_eq_self]
  intro a ha
  have := List.find?_eq_none.1 h a ha
  simpa using this
theorem usedF_del {k : List UInt8} {f : Fl} : ∀ {L : List Fl}, Rising L → findF k L = some f → usedF (delF k L) + f.bytes.size = usedF L
  | [], _, h => by simp [findF] at h
  | y :: r, hr, h => by
    obtain ⟨h1, h2⟩ := List.pairwise_cons.1 hr
    unfold findF at h
    rw [List.find?_cons] at h
    by_cases hy : (y.key == k) = true
    · rw [hy] at h
      simp at h
      subst h
      have hk : y.key = k := by simpa using hy
      have : delF k r = r := by
        unfold delF
        rw [List.filter_eq_self]
        intro a ha
        have hb := h1 a ha
        have : a.key ≠ k := fun e => by rw [hk, e, WideAt.bytes_irrefl] at hb; cases hb
        simpa using this
      show usedF (List.filter _ (y :: r)) + _ = _
      rw [List.filter_cons, hy]
      simp only [Bool.not_true, Bool.false_eq_true, if_false]
      rw [show List.filter (fun f => !(f.key == k)) r = delF k r from rfl, this]
      simp [usedF]; omega
    · have hy' : (y.key == k) = false := by simpa using hy
      rw [hy'] at h
      have := usedF_del h2 h
      show usedF (List.filter _ (y :: r)) + _ = _
      rw [List.filter_cons, hy']
      simp only [Bool.not_false, if_true]
      simp only [usedF, List.map_cons, List.sum_cons] at *
      have e : List.filter (fun f => !(f.key == k)) r = delF k r := rfl
      rw [e]
      omega
/-- One more byte-count law: a file put in the place of one of its name. -/
theorem usedF_put {L : List Fl} (hr : Rising L) {f g : Fl} (h : findF f.key L = some g) : usedF (putF f L) + g.bytes.size = usedF L + f.bytes.size := by
  have := usedF_del hr h
  unfold putF
  rw [usedF_ins]
  omega
theorem usedF_new {L : List Fl} {f : Fl} (h : findF f.key L = none) : usedF (putF f L) = usedF L + f.bytes.size := by
  unfold putF
  rw [usedF_ins, del_none h]
  omega
theorem length_insF (f : Fl) : ∀ L, (insF f L).length = L.length + 1
  | [] => rfl
  | y :: r => by
    unfold insF
    split
    · rfl
    · simp [length_insF f r]
theorem length_delF_le (k : List UInt8) (L : List Fl) : (delF k L).length ≤ L.length := List.length_filter_le _ _
theorem length_putF_le (f : Fl) (L : List Fl) : (putF f L).length ≤ L.length + 1 := by
  unfold putF
  rw [length_insF]
  have := length_delF_le f.key L
  omega
theorem length_putF_old {L : List Fl} {f g : Fl} (h : findF f.key L = some g) : (putF f L).length ≤ L.length := by
  unfold putF
  rw [length_insF]
  have : (delF f.key L).length < L.length := by
    unfold delF
    rw [List.length_filter_lt_length_iff_exists]
    exact ⟨g, findF_mem h, by have := findF_key h; simp [this]⟩
  omega
theorem mem_used {L : List Fl} {f : Fl} (h : f ∈ L) : f.bytes.size ≤ usedF L := by
  induction L with
  | nil => cases h
  | cons y r ih =>
    simp only [usedF, List.map_cons, List.sum_cons] at *
    rcases List.mem_cons.1 h with rfl | h
    · omega
    · have := ih h; omega

/-! ### The disk -/
structure Dk where
  room : Nat
  L : List Fl
  off : Bool
  armed : Bool
  left : Nat
  steps : Nat

/-- Every file's safe bytes are bytes that it has. -/
def SafeOk (L : List Fl) : Prop := ∀ f ∈ L, f.safe ≤ f.bytes.size
/-- What always holds of a disk. -/
structure Dk.Ok (d : Dk) : Prop where
  room : d.room ≤ 4194304
  rise : Rising d.L
  used : usedF d.L ≤ d.room
  many : d.L.length ≤ 64
  safe : SafeOk d.L
  left : d.left < 9223372036854775808
  named : ∀ f ∈ d.L, f.name.size ≤ 20

def namedB (nm : ByteArray) : Bool := decide (1 ≤ nm.size) && decide (nm.size ≤ 20)
/-- May one more step be done? The answer, and the disk behind. -/
def Dk.refuses (d : Dk) : Bool := d.armed && d.left == 0
def Dk.stepped (d : Dk) : Dk := { d with left := if d.armed then d.left - 1 else d.left, steps := d.steps + 1 }
def Dk.gone (d : Dk) : Dk := { d with off := true }
/-- A call that may be done makes of the files what is told, if the power stays. -/
def Dk.act (d : Dk) (L : List Fl) : Int × Dk := if d.refuses then (143, d.gone) else (0, { d.stepped with L := L })

def Dk.create (d : Dk) (nm : ByteArray) : Int × Dk :=
  if d.off then (143, d) else if namedB nm = false then (144, d) else if (findF nm.data.toList d.L).isSome then (141, d) else if 64 ≤ d.L.length then (2, d) else
  d.act (putF ⟨nm, ByteArray.empty, 0⟩ d.L)
def Dk.append (d : Dk) (nm data : ByteArray) : Int × Dk :=
  if d.off then (143, d) else match findF nm.data.toList d.L with
    | none => (140, d)
    | some f => if d.room - usedF d.L < data.size then (142, d) else d.act (putF { f with bytes := f.bytes ++ data } d.L)
def Dk.sync (d : Dk) (nm : ByteArray) : Int × Dk :=
  if d.off then (143, d) else match findF nm.data.toList d.L with
    | none => (140, d)
    | some f => d.act (putF { f with safe := f.bytes.size } d.L)
def Dk.cut (d : Dk) (nm : ByteArray) (n : Int) : Int × Dk :=
  if d.off then (143, d) else match findF nm.data.toList d.L with
    | none => (140, d)
    | some f => if n < 0 ∨ (f.bytes.size : Int) < n then (1, d) else d.act (putF { f with bytes := f.bytes.extract 0 n.toNat, safe := min f.safe n.toNat } d.L)
def Dk.rename (d : Dk) (nm to : ByteArray) : Int × Dk :=
  if d.off then (143, d) else match findF nm.data.toList d.L with
    | none => (140, d)
    | some f => if namedB to = false then (144, d) else if nm = to then d.act d.L else d.act (putF { f with name := to } (delF nm.data.toList d.L))
def Dk.remove (d : Dk) (nm : ByteArray) : Int × Dk :=
  if d.off then (143, d) else match findF nm.data.toList d.L with
    | none => (140, d)
    | some _ => d.act (delF nm.data.toList d.L)
def Dk.read (d : Dk) (nm : ByteArray) : ByteArray × Int :=
  if d.off then (ByteArray.empty, 143) else match findF nm.data.toList d.L with
    | none => (ByteArray.empty, 140)
    | some f => (f.bytes, 0)
def Dk.arm (d : Dk) (n : Int) : Dk := if d.off then d else { d with armed := decide (0 ≤ n), left := n.toNat }
/-- What a crash leaves of a file that is not all safe. -/
def staysB (f : Fl) (keep turn : Int) : ByteArray :=
  let n := f.bytes.size - f.safe
  let m := if 0 < keep then (keep % ((n + 1 : Nat) : Int)).toNat else 0
  if turn ≤ 0 ∨ m = 0 then f.bytes.extract 0 (f.safe + m)
  else ⟨((f.bytes.data.toList.take (f.safe + m)).modify (f.safe + ((turn / 256) % (m : Int)).toNat) fun c => c ^^^ UInt8.ofNat (turn % 256).toNat).toArray⟩
def atL (l : List Int) (k : Nat) : Int := l.getD k 0
/-- All files behind a crash; k: how many were not safe ahead of these. -/
def crashL (keep turn : List Int) : Nat → List Fl → List Fl
  | _, [] => []
  | k, f :: r => if f.safe < f.bytes.size then
      (let s := staysB f (atL keep k) (atL turn k); { f with bytes := s, safe := s.size } :: crashL keep turn (k + 1) r)
    else { f with safe := f.bytes.size } :: crashL keep turn k r
def Dk.crash (d : Dk) (keep turn : List Int) : Dk := { d with L := crashL keep turn 0 d.L, off := false, armed := false, left := 0 }
def Dk.new (room : Nat) : Dk := ⟨room, [], false, false, 0, 0⟩
end Go.Proofs.YtnpgjlhnlakgpaaDoor

/- The plain model of a disk of files: its files by rising names, and what each call makes of it; how a list of files is a map's datum. What always holds of a disk stays so, whatever is called. The plain law of renames: at every moment of writing a new file and giving it an elder one's name a crash leaves the elder bytes or the new ones. The plain laws of a disk: what is safe stays; an armed power lets just so many steps through; the room is never passed. A disk kept as a list of files: to set, to drop, to put in its place are what the map's disk does. A crash, file by file. -/
import Derived.Maps.OwnSet
import Derived.MapViews
import Derived.Sort.KeysCollected
import Derived.WalkKit
namespace Go.Proofs.YtnpgjlhnlakgpaaGreatDoor
open Go.RowKit Go.Maps

/-- A file: its name, its bytes, how many of these are safe. -/
structure Fl where
  name : ByteArray
  bytes : ByteArray
  safe : Nat
deriving DecidableEq
abbrev Fl.key (f : Fl) : List UInt8 := f.name.data.toList

/-- How a file's value reads. -/
def flElem : Value → Option (DataW Unit × List MemPlace)
  | .agg cs => match cs.toList with
    | [.string n, .string b, .int .i64 s] => if 0 ≤ s then some (.agg [.lit (.string n.data.toList), .lit (.string b.data.toList), .lit (.int .i64 s)], []) else none
    | _ => none
  | _ => none
def Fl.datum (f : Fl) : DataW Unit := .agg [.lit (.string f.name.data.toList), .lit (.string f.bytes.data.toList), .lit (.int .i64 (f.safe : Int))]
def Fl.val (f : Fl) : Value := .agg #[.string f.name, .string f.bytes, .int .i64 (f.safe : Int)]
theorem flElem_val (f : Fl) : flElem f.val = some (f.datum, []) := by simp [flElem, Fl.val, Fl.datum]
theorem ba_of_list {a b : ByteArray} (h : a.data.toList = b.data.toList) : a = b := by
  cases a; cases b; congr 1; exact Array.toList_inj.1 h
theorem flElem_inv {v : Value} {z : DataW Unit × List MemPlace} (h : flElem v = some z) : ∃ f : Fl, v = f.val ∧ z = (f.datum, []) := by
  unfold flElem at h
  split at h
  · rename_i cs
    split at h
    · rename_i n b s hcs
      split at h
      · rename_i hs
        cases h
        refine ⟨⟨n, b, s.toNat⟩, ?_, ?_⟩
        · unfold Fl.val
          congr 1
          have hcs2 : cs = #[.string n, .string b, .int .i64 s] := by
            apply Array.toList_inj.1; rw [hcs]
          rw [hcs2]
          congr
          simp; omega
        · simp [Fl.datum]; omega
      · cases h
    · cases h
  · cases h
theorem Fl.datum_inj {f g : Fl} (h : f.datum = g.datum) : f = g := by
  cases f; cases g
  simp only [Fl.datum, DataW.agg.injEq, List.cons.injEq, DataW.lit.injEq, Lit.string.injEq, Lit.int.injEq, and_true, true_and] at h
  obtain ⟨h1, h2, h3⟩ := h
  congr
  · exact ba_of_list h1
  · exact ba_of_list h2
  · omega

/-! ### Lists of files by rising names -/
def insF (f : Fl) : List Fl → List Fl
  | [] => [f]
  | y :: r => if bytesBefore f.key y.key then f :: y :: r else y :: insF f r
def delF (k : List UInt8) (L : List Fl) : List Fl := L.filter fun f => !(f.key == k)
def putF (f : Fl) (L : List Fl) : List Fl := insF f (delF f.key L)
def findF (k : List UInt8) (L : List Fl) : Option Fl := L.find? fun f => f.key == k
/-- A list of files as a map's datum. -/
def dent (f : Fl) : Lit × DataW Unit := (.string f.key, f.datum)
def dm (L : List Fl) : DataW Unit := .map (L.map dent)

theorem dm_ins (f : Fl) : ∀ L, DataW.insert (dent f) (L.map dent) = (insF f L).map dent
  | [] => rfl
  | y :: r => by
    show (if bytesBefore f.key y.key then _ else _) = _
    unfold insF
    by_cases h : bytesBefore f.key y.key = true
    · rw [if_pos h, if_pos h]; rfl
    · rw [if_neg h, if_neg h, dm_ins f r]; rfl
theorem dm_filter (k : List UInt8) (L : List Fl) : (L.map dent).filter (fun p => !p.1.sameKey (.string k)) = (delF k L).map dent := by
  rw [List.filter_map]; rfl
theorem dm_put (f : Fl) (L : List Fl) : (dm L).put (.string f.key) f.datum = dm (putF f L) := by
  show DataW.map (DataW.insert (dent f) ((L.map dent).filter (fun p => !p.1.sameKey (.string f.key)))) = _
  rw [dm_filter, dm_ins]; rfl
theorem dm_del (k : List UInt8) (L : List Fl) : (dm L).del (.string k) = dm (delF k L) := by
  show DataW.map ((L.map dent).filter (fun p => !p.1.sameKey (.string k))) = _
  rw [dm_filter]; rfl
theorem dm_find (k : List UInt8) (L : List Fl) : (L.map dent).find? (fun p => p.1.sameKey (.string k)) = (findF k L).map dent := by
  unfold findF
  rw [List.find?_map]; rfl
theorem dm_at (k : List UInt8) (L : List Fl) (z : DataW Unit) : (dm L).atKey (.string k) z = match findF k L with | some f => f.datum | none => z := by
  unfold dm DataW.atKey
  simp only []
  rw [dm_find]
  cases findF k L <;> rfl
theorem dm_has (k : List UInt8) (L : List Fl) : has (dm L) (.string k) = (findF k L).isSome := by
  show (L.map dent).any (fun p => p.1.sameKey (.string k)) = _
  unfold findF
  rw [List.any_map]
  induction L with
  | nil => rfl
  | cons y r ih =>
    simp only [List.any_cons, List.find?_cons, ih]
    have e : ((fun p : Lit × DataW Unit => p.1.sameKey (.string k)) ∘ dent) y = (y.key == k) := rfl
    rw [e]
    cases y.key == k <;> simp
theorem dm_size (L : List Fl) : size (dm L) = L.length := by simp [dm, size_eq]
theorem dm_keys (L : List Fl) : strKeys (dm L) = L.map Fl.key := by simp [dm, strKeys, dent, strOf, Function.comp_def]

/-- Names rise. -/
def Rising (L : List Fl) : Prop := L.Pairwise fun f g => bytesBefore f.key g.key = true
theorem findF_key {k : List UInt8} {L : List Fl} {f : Fl} (h : findF k L = some f) : f.key = k := by
  have := List.find?_some h; simpa using this
theorem findF_mem {k : List UInt8} {L : List Fl} {f : Fl} (h : findF k L = some f) : f ∈ L := List.mem_of_find?_eq_some h
theorem mem_insF {f x : Fl} : ∀ {L : List Fl}, x ∈ insF f L ↔ x = f ∨ x ∈ L
  | [] => by simp [insF]
  | y :: r => by
    unfold insF
    split
    · simp
    · simp [mem_insF (f := f) (L := r)]; constructor
      · rintro (h | h | h) <;> simp [h]
      · rintro (h | h | h) <;> simp [h]
theorem Rising.ins {f : Fl} : ∀ {L : List Fl}, Rising L → (∀ g ∈ L, g.key ≠ f.key) → Rising (insF f L)
  | [], _, _ => by simp [insF, Rising]
  | y :: r, h, hne => by
    obtain ⟨h1, h2⟩ := List.pairwise_cons.1 h
    unfold insF
    split
    · rename_i hb
      refine List.pairwise_cons.2 ⟨fun q hq => ?_, h⟩
      rcases List.mem_cons.1 hq with rfl | hq
      · exact hb
      · exact WideShapes.bytes_trans _ _ _ hb (h1 q hq)
    · rename_i hb
      have hyx : bytesBefore y.key f.key = true := by
        rcases WideAt.bytes_total f.key y.key (fun e => hne y (by simp) e.symm) with h' | h'
        · exact absurd h' hb
        · exact h'
      refine List.pairwise_cons.2 ⟨fun q hq => ?_, Rising.ins h2 (fun g hg => hne g (by simp [hg]))⟩
      rcases mem_insF.1 hq with rfl | hq
      · exact hyx
      · exact h1 q hq
theorem Rising.del {L : List Fl} (h : Rising L) (k : List UInt8) : Rising (delF k L) := List.Pairwise.filter _ h
theorem Rising.put {L : List Fl} (h : Rising L) (f : Fl) : Rising (putF f L) :=
  (h.del f.key).ins fun g hg => by have := (List.mem_filter.1 hg).2; simpa using this
theorem Rising.nil : Rising [] := List.Pairwise.nil

/-- How many bytes they have together. -/
def usedF (L : List Fl) : Nat := (L.map fun f => f.bytes.size).sum
theorem usedF_ins (f : Fl) : ∀ L, usedF (insF f L) = f.bytes.size + usedF L
  | [] => by simp [insF, usedF]
  | y :: r => by
    unfold insF
    split
    · simp [usedF]
    · have := usedF_ins f r
      simp only [usedF, List.map_cons, List.sum_cons] at *
      omega
theorem del_none {k : List UInt8} : ∀ {L : List Fl}, findF k L = none → delF k L = L := by
  intro L h
  unfold delF
  rw [List.filter_eq_self]
  intro a ha
  have := List.find?_eq_none.1 h a ha
  simpa using this
theorem usedF_del {k : List UInt8} {f : Fl} : ∀ {L : List Fl}, Rising L → findF k L = some f → usedF (delF k L) + f.bytes.size = usedF L
  | [], _, h => by simp [findF] at h
  | y :: r, hr, h => by
    obtain ⟨h1, h2⟩ := List.pairwise_cons.1 hr
    unfold findF at h
    rw [List.find?_cons] at h
    by_cases hy : (y.key == k) = true
    · rw [hy] at h
      simp at h
      subst h
      have hk : y.key = k := by simpa using hy
      have : delF k r = r := by
        unfold delF
        rw [List.filter_eq_self]
        intro a ha
        have hb := h1 a ha
        have : a.key ≠ k := fun e => by rw [hk, e, WideAt.bytes_irrefl] at hb; cases hb
        simpa using this
      show usedF (List.filter _ (y :: r)) + _ = _
      rw [List.filter_cons, hy]
      simp only [Bool.not_true, Bool.false_eq_true, if_false]
      rw [show List.filter (fun f => !(f.key == k)) r = delF k r from rfl, this]
      simp [usedF]; omega
    · have hy' : (y.key == k) = false := by simpa using hy
      rw [hy'] at h
      have := usedF_del h2 h
      show usedF (List.filter _ (y :: r)) + _ = _
      rw [List.filter_cons, hy']
      simp only [Bool.not_false, if_true]
      simp only [usedF, List.map_cons, List.sum_cons] at *
      have e : List.filter (fun f => !(f.key == k)) r = delF k r := rfl
      rw [e]
      omega
/-- One more byte-count law: a file put in the place of one of its name. -/
theorem usedF_put {L : List Fl} (hr : Rising L) {f g : Fl} (h : findF f.key L = some g) : usedF (putF f L) + g.bytes.size = usedF L + f.bytes.size := by
  have := usedF_del hr h
  unfold putF
  rw [usedF_ins]
  omega
theorem usedF_new {L : List Fl} {f : Fl} (h : findF f.key L = none) : usedF (putF f L) = usedF L + f.bytes.size := by
  unfold putF
  rw [usedF_ins, del_none h]
  omega
theorem length_insF (f : Fl) : ∀ L, (insF f L).length = L.length + 1
  | [] => rfl
  | y :: r => by
    unfold insF
    split
    · rfl
    · simp [length_insF f r]
theorem length_delF_le (k : List UInt8) (L : List Fl) : (delF k L).length ≤ L.length := List.length_filter_le _ _
theorem length_putF_le (f : Fl) (L : List Fl) : (putF f L).length ≤ L.length + 1 := by
  unfold putF
  rw [length_insF]
  have := length_delF_le f.key L
  omega
theorem length_putF_old {L : List Fl} {f g : Fl} (h : findF f.key L = some g) : (putF f L).length ≤ L.length := by
  unfold putF
  rw [length_insF]
  have : (delF f.key L).length < L.length := by
    unfold delF
    rw [List.length_filter_lt_length_iff_exists]
    exact ⟨g, findF_mem h, by have := findF_key h; simp [this]⟩
  omega
theorem mem_used {L : List Fl} {f : Fl} (h : f ∈ L) : f.bytes.size ≤ usedF L := by
  induction L with
  | nil => cases h
  | cons y r ih =>
    simp only [usedF, List.map_cons, List.sum_cons] at *
    rcases List.mem_cons.1 h with rfl | h
    · omega
    · have := ih h; omega

/-! ### The disk -/
structure Dk where
  room : Nat
  L : List Fl
  off : Bool
  armed : Bool
  left : Nat
  steps : Nat

/-- Every file's safe bytes are bytes that it has. -/
def SafeOk (L : List Fl) : Prop := ∀ f ∈ L, f.safe ≤ f.bytes.size
/-- What always holds of a disk. -/
structure Dk.Ok (d : Dk) : Prop where
  room : d.room ≤ 4194304
  rise : Rising d.L
  used : usedF d.L ≤ d.room
  many : d.L.length ≤ 64
  safe : SafeOk d.L
  left : d.left < 9223372036854775808
  named : ∀ f ∈ d.L, f.name.size ≤ 20

def namedB (nm : ByteArray) : Bool := decide (1 ≤ nm.size) && decide (nm.size ≤ 20)
/-- May one more step be done? The answer, and the disk behind. -/
def Dk.refuses (d : Dk) : Bool := d.armed && d.left == 0
def Dk.stepped (d : Dk) : Dk := { d with left := if d.armed then d.left - 1 else d.left, steps := d.steps + 1 }
def Dk.gone (d : Dk) : Dk := { d with off := true }
/-- A call that may be done makes of the files what is told, if the power stays. -/
def Dk.act (d : Dk) (L : List Fl) : Int × Dk := if d.refuses then (143, d.gone) else (0, { d.stepped with L := L })

def Dk.create (d : Dk) (nm : ByteArray) : Int × Dk :=
  if d.off then (143, d) else if namedB nm = false then (144, d) else if (findF nm.data.toList d.L).isSome then (141, d) else if 64 ≤ d.L.length then (2, d) else
  d.act (putF ⟨nm, ByteArray.empty, 0⟩ d.L)
def Dk.append (d : Dk) (nm data : ByteArray) : Int × Dk :=
  if d.off then (143, d) else match findF nm.data.toList d.L with
    | none => (140, d)
    | some f => if d.room - usedF d.L < data.size then (142, d) else d.act (putF { f with bytes := f.bytes ++ data } d.L)
def Dk.sync (d : Dk) (nm : ByteArray) : Int × Dk :=
  if d.off then (143, d) else match findF nm.data.toList d.L with
    | none => (140, d)
    | some f => d.act (putF { f with safe := f.bytes.size } d.L)
def Dk.cut (d : Dk) (nm : ByteArray) (n : Int) : Int × Dk :=
  if d.off then (143, d) else match findF nm.data.toList d.L with
    | none => (140, d)
    | some f => if n < 0 ∨ (f.bytes.size : Int) < n then (1, d) else d.act (putF { f with bytes := f.bytes.extract 0 n.toNat, safe := min f.safe n.toNat } d.L)
def Dk.rename (d : Dk) (nm to : ByteArray) : Int × Dk :=
  if d.off then (143, d) else match findF nm.data.toList d.L with
    | none => (140, d)
    | some f => if namedB to = false then (144, d) else if nm = to then d.act d.L else d.act (putF { f with name := to } (delF nm.data.toList d.L))
def Dk.remove (d : Dk) (nm : ByteArray) : Int × Dk :=
  if d.off then (143, d) else match findF nm.data.toList d.L with
    | none => (140, d)
    | some _ => d.act (delF nm.data.toList d.L)
def Dk.read (d : Dk) (nm : ByteArray) : ByteArray × Int :=
  if d.off then (ByteArray.empty, 143) else match findF nm.data.toList d.L with
    | none => (ByteArray.empty, 140)
    | some f => (f.bytes, 0)
def Dk.arm (d : Dk) (n : Int) : Dk := if d.off then d else { d with armed := decide (0 ≤ n), left := n.toNat }
/-- What a crash leaves of a file that is not all safe. -/
def staysB (f : Fl) (keep turn : Int) : ByteArray :=
  let n := f.bytes.size - f.safe
  let m := if 0 < keep then (keep % ((n + 1 : Nat) : Int)).toNat else 0
  if turn ≤ 0 ∨ m = 0 then f.bytes.extract 0 (f.safe + m)
  else ⟨((f.bytes.data.toList.take (f.safe + m)).modify (f.safe + ((turn / 256) % (m : Int)).toNat) fun c => c ^^^ UInt8.ofNat (turn % 256).toNat).toArray⟩
def atL (l : List Int) (k : Nat) : Int := l.getD k 0
/-- All files behind a crash; k: how many were not safe ahead of these. -/
def crashL (keep turn : List Int) : Nat → List Fl → List Fl
  | _, [] => []
  | k, f :: r => if f.safe < f.bytes.size then
      (let s := staysB f (atL keep k) (atL turn k); { f with bytes := s, safe := s.size } :: crashL keep turn (k + 1) r)
    else { f with safe := f.bytes.size } :: crashL keep turn k r
def Dk.crash (d : Dk) (keep turn : List Int) : Dk := { d with L := crashL keep turn 0 d.L, off := false, armed := false, left := 0 }
def Dk.new (room : Nat) : Dk := ⟨room, [], false, false, 0, 0⟩
end Go.Proofs.YtnpgjlhnlakgpaaGreatDoor
namespace Go.Proofs.YtnpgjlhnlakgpaaGreatDoor
open Go.RowKit Go.Maps

theorem mem_putF {f x : Fl} {L : List Fl} (h : x ∈ putF f L) : x = f ∨ x ∈ L := by
  unfold putF at h
  rcases mem_insF.1 h with h | h
  · exact .inl h
  · exact .inr (List.mem_filter.1 h).1
theorem SafeOk.put {L : List Fl} (h : SafeOk L) {f : Fl} (hf : f.safe ≤ f.bytes.size) : SafeOk (putF f L) := fun x hx => by
  rcases mem_putF hx with rfl | hx
  · exact hf
  · exact h x hx
theorem SafeOk.del {L : List Fl} (h : SafeOk L) (k : List UInt8) : SafeOk (delF k L) := fun x hx => h x (List.mem_filter.1 hx).1
def NamedOk (L : List Fl) : Prop := ∀ f ∈ L, f.name.size ≤ 20
theorem NamedOk.put {L : List Fl} (h : NamedOk L) {f : Fl} (hf : f.name.size ≤ 20) : NamedOk (putF f L) := fun x hx => by
  rcases mem_putF hx with rfl | hx
  · exact hf
  · exact h x hx
theorem NamedOk.del {L : List Fl} (h : NamedOk L) (k : List UInt8) : NamedOk (delF k L) := fun x hx => h x (List.mem_filter.1 hx).1

theorem Dk.Ok.gone {d : Dk} (h : d.Ok) : d.gone.Ok := ⟨h.room, h.rise, h.used, h.many, h.safe, h.left, h.named⟩
theorem Dk.Ok.act {d : Dk} (h : d.Ok) {L : List Fl} (h1 : Rising L) (h2 : usedF L ≤ d.room) (h3 : L.length ≤ 64) (h4 : SafeOk L) (h5 : NamedOk L) : (d.act L).2.Ok := by
  unfold Dk.act
  split
  · exact h.gone
  · refine ⟨h.room, h1, h2, h3, h4, ?_, h5⟩
    have := h.left
    show (if d.armed then d.left - 1 else d.left) < _
    split <;> omega
theorem namedB_le {nm : ByteArray} (h : ¬ namedB nm = false) : nm.size ≤ 20 := by
  simp [namedB] at h; exact h.2
theorem Dk.Ok.create {d : Dk} (h : d.Ok) (nm : ByteArray) : (d.create nm).2.Ok := by
  unfold Dk.create
  split
  · exact h
  · split
    · exact h
    · rename_i hn
      split
      · exact h
      · rename_i hs
        split
        · exact h
        · rename_i hl
          have hno : findF nm.data.toList d.L = none := by simpa using hs
          have hu := usedF_new (f := ⟨nm, ByteArray.empty, 0⟩) hno
          have hle := length_putF_le ⟨nm, ByteArray.empty, 0⟩ d.L
          have h0 := h.used
          exact h.act (h.rise.put _) (by rw [hu]; exact h0) (by omega) (h.safe.put (Nat.zero_le _)) (NamedOk.put h.named (namedB_le hn))
theorem Dk.Ok.append {d : Dk} (h : d.Ok) (nm data : ByteArray) : (d.append nm data).2.Ok := by
  unfold Dk.append
  split
  · exact h
  · split
    · exact h
    · rename_i f hf
      split
      · exact h
      · rename_i hr
        have hk := findF_key hf
        have hf' : findF (Fl.key { f with bytes := f.bytes ++ data }) d.L = some f := by rw [← hk] at hf; exact hf
        have hu := usedF_put h.rise (f := { f with bytes := f.bytes ++ data }) hf'
        have hle := length_putF_old (f := { f with bytes := f.bytes ++ data }) hf'
        have h0 := h.used
        have h1 := h.safe f (findF_mem hf)
        have h2 := h.many
        have e : (f.bytes ++ data).size = f.bytes.size + data.size := ByteArray.size_append
        simp only [e] at hu
        exact h.act (h.rise.put _) (by omega) (by omega) (h.safe.put (by show f.safe ≤ (f.bytes ++ data).size; omega)) (NamedOk.put h.named (h.named f (findF_mem hf)))
theorem Dk.Ok.sync {d : Dk} (h : d.Ok) (nm : ByteArray) : (d.sync nm).2.Ok := by
  unfold Dk.sync
  split
  · exact h
  · split
    · exact h
    · rename_i f hf
      have hk := findF_key hf
      have hf' : findF (Fl.key { f with safe := f.bytes.size }) d.L = some f := by rw [← hk] at hf; exact hf
      have hu := usedF_put h.rise (f := { f with safe := f.bytes.size }) hf'
      have hle := length_putF_old (f := { f with safe := f.bytes.size }) hf'
      have h0 := h.used
      have h2 := h.many
      simp only at hu
      exact h.act (h.rise.put _) (by omega) (by omega) (h.safe.put (Nat.le_refl _)) (NamedOk.put h.named (h.named f (findF_mem hf)))
theorem extract_size {b : ByteArray} {n : Int} (h0 : ¬ (n < 0 ∨ (b.size : Int) < n)) : (b.extract 0 n.toNat).size = n.toNat := by
  rw [ByteArray.size_extract]; omega
theorem Dk.Ok.cut {d : Dk} (h : d.Ok) (nm : ByteArray) (n : Int) : (d.cut nm n).2.Ok := by
  unfold Dk.cut
  split
  · exact h
  · split
    · exact h
    · rename_i f hf
      split
      · exact h
      · rename_i hn
        have hk := findF_key hf
        have hs := extract_size hn
        have hf' : findF (Fl.key { f with bytes := f.bytes.extract 0 n.toNat, safe := min f.safe n.toNat }) d.L = some f := by rw [← hk] at hf; exact hf
        have hu := usedF_put h.rise (f := { f with bytes := f.bytes.extract 0 n.toNat, safe := min f.safe n.toNat }) hf'
        have hle := length_putF_old (f := { f with bytes := f.bytes.extract 0 n.toNat, safe := min f.safe n.toNat }) hf'
        have h0 := h.used
        have h2 := h.many
        simp only [hs] at hu
        exact h.act (h.rise.put _) (by omega) (by omega) (h.safe.put (by show min f.safe n.toNat ≤ (f.bytes.extract 0 n.toNat).size; omega)) (NamedOk.put h.named (h.named f (findF_mem hf)))
theorem Dk.Ok.remove {d : Dk} (h : d.Ok) (nm : ByteArray) : (d.remove nm).2.Ok := by
  unfold Dk.remove
  split
  · exact h
  · split
    · exact h
    · rename_i f hf
      have hu := usedF_del h.rise hf
      have hle := length_delF_le nm.data.toList d.L
      have h0 := h.used
      have h2 := h.many
      exact h.act (h.rise.del _) (by omega) (by omega) (h.safe.del _) (NamedOk.del h.named _)
theorem length_delF_lt {k : List UInt8} {L : List Fl} {g : Fl} (h : findF k L = some g) : (delF k L).length < L.length := by
  unfold delF
  rw [List.length_filter_lt_length_iff_exists]
  exact ⟨g, findF_mem h, by have := findF_key h; simp [this]⟩
theorem usedF_del_le {k : List UInt8} {L : List Fl} (hr : Rising L) : usedF (delF k L) ≤ usedF L := by
  cases hf : findF k L with
  | none => rw [del_none hf]; exact Nat.le_refl _
  | some f => have := usedF_del hr hf; omega
theorem Dk.Ok.rename {d : Dk} (h : d.Ok) (nm to : ByteArray) : (d.rename nm to).2.Ok := by
  unfold Dk.rename
  split
  · exact h
  · split
    · exact h
    · rename_i f hf
      split
      · exact h
      · rename_i hn
        have h0 := h.used
        have h2 := h.many
        split
        · exact h.act h.rise h0 h2 h.safe h.named
        · have hu := usedF_del h.rise hf
          have hl := length_delF_lt hf
          have hle := length_putF_le { f with name := to } (delF nm.data.toList d.L)
          have hu2 : usedF (putF { f with name := to } (delF nm.data.toList d.L)) ≤ usedF d.L := by
            have := usedF_del_le (k := to.data.toList) (h.rise.del nm.data.toList)
            unfold putF
            rw [usedF_ins]
            show f.bytes.size + usedF (delF to.data.toList (delF nm.data.toList d.L)) ≤ _
            omega
          exact h.act ((h.rise.del _).put _) (by omega) (by omega) ((h.safe.del _).put (h.safe f (findF_mem hf))) ((NamedOk.del h.named _).put (namedB_le hn))
theorem Dk.Ok.arm {d : Dk} (h : d.Ok) {n : Int} (hn : n < 9223372036854775808) : (d.arm n).Ok := by
  unfold Dk.arm
  split
  · exact h
  · exact ⟨h.room, h.rise, h.used, h.many, h.safe, by show n.toNat < _; omega, h.named⟩

/-! ### A crash -/
theorem staysB_bd (f : Fl) (keep turn : Int) (hs : f.safe ≤ f.bytes.size) : f.safe ≤ (staysB f keep turn).size ∧ (staysB f keep turn).size ≤ f.bytes.size := by
  have hm : (if 0 < keep then (keep % ((f.bytes.size - f.safe + 1 : Nat) : Int)).toNat else 0) ≤ f.bytes.size - f.safe := by
    split
    · have h1 := Int.emod_lt_of_pos keep (b := ((f.bytes.size - f.safe + 1 : Nat) : Int)) (by omega)
      omega
    · omega
  unfold staysB
  simp only []
  generalize (if 0 < keep then (keep % ((f.bytes.size - f.safe + 1 : Nat) : Int)).toNat else 0) = m at *
  split
  · rw [ByteArray.size_extract]; omega
  · show f.safe ≤ (Array.size _) ∧ (Array.size _) ≤ _
    rw [List.size_toArray, List.length_modify, List.length_take]
    have : f.bytes.data.toList.length = f.bytes.size := by simp
    omega
theorem crash_keys (keep turn : List Int) : ∀ (k : Nat) (L : List Fl), (crashL keep turn k L).map Fl.name = L.map Fl.name
  | _, [] => rfl
  | k, f :: r => by
    unfold crashL
    split
    · simp [crash_keys keep turn (k + 1) r]
    · simp [crash_keys keep turn k r]
theorem crash_len (keep turn : List Int) (k : Nat) (L : List Fl) : (crashL keep turn k L).length = L.length := by
  have := congrArg List.length (crash_keys keep turn k L)
  simpa using this
theorem crash_used (keep turn : List Int) : ∀ (k : Nat) (L : List Fl), SafeOk L → usedF (crashL keep turn k L) ≤ usedF L
  | _, [], _ => Nat.le_refl _
  | k, f :: r, h => by
    have hr : SafeOk r := fun x hx => h x (by simp [hx])
    unfold crashL
    split
    · have h1 := crash_used keep turn (k + 1) r hr
      have h2 := staysB_bd f (atL keep k) (atL turn k) (h f (by simp))
      simp only [usedF, List.map_cons, List.sum_cons] at *
      omega
    · have h1 := crash_used keep turn k r hr
      simp only [usedF, List.map_cons, List.sum_cons] at *
      omega
theorem crash_safe (keep turn : List Int) : ∀ (k : Nat) (L : List Fl), ∀ f ∈ crashL keep turn k L, f.safe = f.bytes.size
  | _, [], f, h => by simp [crashL] at h
  | k, g :: r, f, h => by
    unfold crashL at h
    split at h
    · rcases List.mem_cons.1 h with rfl | h
      · rfl
      · exact crash_safe keep turn _ r f h
    · rcases List.mem_cons.1 h with rfl | h
      · rfl
      · exact crash_safe keep turn _ r f h
theorem rising_of_names {L L' : List Fl} (h : L'.map Fl.name = L.map Fl.name) (hr : Rising L) : Rising L' := by
  have e : ∀ M : List Fl, Rising M ↔ (M.map Fl.name).Pairwise fun a b => bytesBefore a.data.toList b.data.toList = true := fun M => by
    rw [List.pairwise_map]; rfl
  rw [e] at hr ⊢
  rw [h]; exact hr
theorem Dk.Ok.crash {d : Dk} (h : d.Ok) (keep turn : List Int) : (d.crash keep turn).Ok := by
  refine ⟨h.room, rising_of_names (crash_keys keep turn 0 d.L) h.rise, Nat.le_trans (crash_used keep turn 0 d.L h.safe) h.used, by show (crashL _ _ _ _).length ≤ _; rw [crash_len]; exact h.many,
    fun f hf => Nat.le_of_eq (crash_safe keep turn 0 d.L f hf), by show 0 < _; omega, fun f hf => ?_⟩
  have h1 : f.name ∈ (crashL keep turn 0 d.L).map Fl.name := List.mem_map_of_mem hf
  rw [crash_keys] at h1
  obtain ⟨g, hg, e⟩ := List.mem_map.1 h1
  rw [← e]; exact h.named g hg
theorem Dk.Ok.new {room : Nat} (h : room ≤ 4194304) : (Dk.new room).Ok :=
  ⟨h, Rising.nil, Nat.zero_le _, Nat.zero_le _, fun _ h => by simp [Dk.new] at h, by show 0 < _; omega, fun _ h => by simp [Dk.new] at h⟩
/-- What is safe stays as it is. -/
theorem findF_crash {keep turn : List Int} {kk : List UInt8} {f : Fl} : ∀ (k : Nat) (L : List Fl), findF kk L = some f → f.safe = f.bytes.size → findF kk (crashL keep turn k L) = some f
  | _, [], h, _ => by simp [findF] at h
  | k, g :: r, h, hs => by
    unfold findF at h
    rw [List.find?_cons] at h
    by_cases hg : (g.key == kk) = true
    · rw [hg] at h
      simp at h
      subst h
      unfold crashL
      rw [if_neg (by omega)]
      unfold findF
      rw [List.find?_cons]
      have : (Fl.key { g with safe := g.bytes.size } == kk) = true := hg
      rw [this]
      simp [← hs]
    · have hg' : (g.key == kk) = false := by simpa using hg
      rw [hg'] at h
      unfold crashL
      split
      · unfold findF
        rw [List.find?_cons]
        simp only [hg']
        exact findF_crash (k + 1) r h hs
      · unfold findF
        rw [List.find?_cons]
        simp only [hg']
        exact findF_crash k r h hs
end Go.Proofs.YtnpgjlhnlakgpaaGreatDoor
namespace Go.Proofs.YtnpgjlhnlakgpaaGreatDoor
open Go.RowKit Go.Maps

theorem findF_ins_same {f : Fl} : ∀ {L : List Fl}, (∀ g ∈ L, g.key ≠ f.key) → findF f.key (insF f L) = some f
  | [], _ => by simp [insF, findF]
  | y :: r, h => by
    unfold insF
    split
    · simp [findF]
    · have hy : (y.key == f.key) = false := by simpa using h y (by simp)
      unfold findF
      rw [List.find?_cons, hy]
      exact findF_ins_same (fun g hg => h g (by simp [hg]))
theorem findF_ins_other {f : Fl} {k : List UInt8} (hk : f.key ≠ k) : ∀ {L : List Fl}, findF k (insF f L) = findF k L
  | [] => by simp [insF, findF, hk]
  | y :: r => by
    have hf : (f.key == k) = false := by simpa using hk
    unfold insF
    split
    · unfold findF; rw [List.find?_cons, hf]
    · unfold findF
      rw [List.find?_cons, List.find?_cons]
      have ih := findF_ins_other hk (L := r)
      unfold findF at ih
      rw [ih]
theorem findF_del_same (k : List UInt8) (L : List Fl) : findF k (delF k L) = none := by
  unfold findF delF
  rw [List.find?_eq_none]
  intro x hx
  have := (List.mem_filter.1 hx).2
  simpa using this
theorem findF_del_other {k k' : List UInt8} (hk : k ≠ k') (L : List Fl) : findF k (delF k' L) = findF k L := by
  unfold findF delF
  induction L with
  | nil => rfl
  | cons y r ih =>
    rw [List.filter_cons]
    by_cases hy : y.key = k'
    · have h1 : (!(y.key == k')) = false := by simp [hy]
      have h2 : (y.key == k) = false := by simp [hy]; exact fun e => hk e.symm
      simp only [h1, Bool.false_eq_true, if_false]
      rw [ih, List.find?_cons, h2]
    · have h1 : (!(y.key == k')) = true := by simpa using hy
      simp only [h1, if_true]
      rw [List.find?_cons, List.find?_cons, ih]
theorem findF_put_same (f : Fl) (L : List Fl) : findF f.key (putF f L) = some f :=
  findF_ins_same fun g hg => by have := (List.mem_filter.1 hg).2; simpa using this
theorem findF_put_other {f : Fl} {k : List UInt8} (hk : f.key ≠ k) (L : List Fl) : findF k (putF f L) = findF k L := by
  unfold putF
  rw [findF_ins_other hk, findF_del_other (fun e => hk e.symm)]
theorem act_go {d : Dk} {L : List Fl} (h : d.refuses = false) : d.act L = (0, { d.stepped with L := L }) := by simp [Dk.act, h]
theorem act_no {d : Dk} {L : List Fl} (h : d.refuses = true) : d.act L = (143, d.gone) := by simp [Dk.act, h]
theorem key_ne {a b : ByteArray} (h : a ≠ b) : a.data.toList ≠ b.data.toList := fun e => h (ba_of_list e)

/-- The disk that is written, behind each of the calls. -/
def renD (pt nw elder fresh : ByteArray) (n : Nat) : Dk :=
  (((((((Dk.new 262144).create pt).2.append pt elder).2.sync pt).2.arm n).create nw).2.append nw fresh).2
def renD3 (pt elder : ByteArray) : Dk := ⟨262144, [⟨pt, elder, elder.size⟩], false, false, 0, 3⟩

theorem ren_one {pt elder : ByteArray} (hp : namedB pt = true) (he : elder.size ≤ 65536) :
    (Dk.new 262144).create pt = (0, ⟨262144, [⟨pt, ByteArray.empty, 0⟩], false, false, 0, 1⟩) ∧
    (Dk.append ⟨262144, [⟨pt, ByteArray.empty, 0⟩], false, false, 0, 1⟩ pt elder) = (0, ⟨262144, [⟨pt, elder, 0⟩], false, false, 0, 2⟩) ∧
    (Dk.sync ⟨262144, [⟨pt, elder, 0⟩], false, false, 0, 2⟩ pt) = (0, renD3 pt elder) := by
  refine ⟨?_, ?_, ?_⟩
  · simp [Dk.create, Dk.new, hp, findF, Dk.act, Dk.refuses, Dk.stepped, putF, insF, delF]
  · have h : ¬ (262144 - usedF [⟨pt, ByteArray.empty, 0⟩] < elder.size) := by simp [usedF]; omega
    simp only [usedF, List.map_cons, List.map_nil, List.sum_cons, List.sum_nil] at h
    simp [Dk.append, findF, Dk.act, Dk.refuses, Dk.stepped, putF, insF, delF, usedF]
    omega
  · simp [Dk.sync, findF, Dk.act, Dk.refuses, Dk.stepped, putF, insF, delF, renD3]

/-- What stands under the elder name, whatever is done to the new one. -/
theorem ren_two {pt nw elder fresh : ByteArray} (hn : namedB nw = true) (hp : namedB pt = true) (hne : nw ≠ pt) (hf : fresh.size ≤ 65536) (he : elder.size ≤ 65536) (n : Nat) (hn6 : n < 6) (keep turn : List Int) :
    ((((((((renD3 pt elder).arm n).create nw).2.append nw fresh).2.sync nw).2.rename nw pt).2.crash keep turn).read pt) = (if 4 ≤ n then fresh else elder, 0) := by
  have k1 := key_ne hne
  have k2 := key_ne hne.symm
  have b1 : (pt.data.toList == nw.data.toList) = false := by simpa using k2
  have b2 : (nw.data.toList == pt.data.toList) = false := by simpa using k1
  have P0 : findF pt.data.toList [(⟨pt, elder, elder.size⟩ : Fl)] = some ⟨pt, elder, elder.size⟩ := by simp [findF]
  have N0 : findF nw.data.toList [(⟨pt, elder, elder.size⟩ : Fl)] = none := by
    unfold findF; rw [List.find?_cons]
    have b3 : (Fl.key ⟨pt, elder, elder.size⟩ == nw.data.toList) = false := b1
    rw [b3]; rfl
  have P1 : findF pt.data.toList (putF ⟨nw, ByteArray.empty, 0⟩ [(⟨pt, elder, elder.size⟩ : Fl)]) = some ⟨pt, elder, elder.size⟩ := by rw [findF_put_other (f := ⟨nw, ByteArray.empty, 0⟩) k1]; exact P0
  have N1 : findF nw.data.toList (putF ⟨nw, ByteArray.empty, 0⟩ [(⟨pt, elder, elder.size⟩ : Fl)]) = some ⟨nw, ByteArray.empty, 0⟩ := findF_put_same ⟨nw, ByteArray.empty, 0⟩ _
  have u1 : usedF (putF ⟨nw, ByteArray.empty, 0⟩ [(⟨pt, elder, elder.size⟩ : Fl)]) = elder.size := by
    rw [usedF_new (f := ⟨nw, ByteArray.empty, 0⟩) N0]; simp [usedF]
  generalize hL1 : putF ⟨nw, ByteArray.empty, 0⟩ [(⟨pt, elder, elder.size⟩ : Fl)] = L1 at *
  have P2 : findF pt.data.toList (putF ⟨nw, fresh, 0⟩ L1) = some ⟨pt, elder, elder.size⟩ := by rw [findF_put_other (f := ⟨nw, fresh, 0⟩) k1]; exact P1
  have N2 : findF nw.data.toList (putF ⟨nw, fresh, 0⟩ L1) = some ⟨nw, fresh, 0⟩ := findF_put_same ⟨nw, fresh, 0⟩ _
  generalize hL2 : putF ⟨nw, fresh, 0⟩ L1 = L2 at *
  have P3 : findF pt.data.toList (putF ⟨nw, fresh, fresh.size⟩ L2) = some ⟨pt, elder, elder.size⟩ := by rw [findF_put_other (f := ⟨nw, fresh, fresh.size⟩) k1]; exact P2
  have N3 : findF nw.data.toList (putF ⟨nw, fresh, fresh.size⟩ L2) = some ⟨nw, fresh, fresh.size⟩ := findF_put_same ⟨nw, fresh, fresh.size⟩ _
  generalize hL3 : putF ⟨nw, fresh, fresh.size⟩ L2 = L3 at *
  have P4 : findF pt.data.toList (putF ⟨pt, fresh, fresh.size⟩ (delF nw.data.toList L3)) = some ⟨pt, fresh, fresh.size⟩ := findF_put_same ⟨pt, fresh, fresh.size⟩ _
  generalize hL4 : putF ⟨pt, fresh, fresh.size⟩ (delF nw.data.toList L3) = L4 at *
  have c0 := findF_crash (keep := keep) (turn := turn) 0 _ P0 rfl
  have c1 := findF_crash (keep := keep) (turn := turn) 0 _ P1 rfl
  have c2 := findF_crash (keep := keep) (turn := turn) 0 _ P2 rfl
  have c3 := findF_crash (keep := keep) (turn := turn) 0 _ P3 rfl
  have c4 := findF_crash (keep := keep) (turn := turn) 0 _ P4 rfl
  have s1 : (findF nw.data.toList [(⟨pt, elder, elder.size⟩ : Fl)]).isSome = false := by rw [N0]; rfl
  have r1 : ¬ (262144 - usedF L1 < fresh.size) := by omega
  have cr : (renD3 pt elder).off = false := rfl
  have A : ((renD3 pt elder).arm n) = ⟨262144, [⟨pt, elder, elder.size⟩], false, true, n, 3⟩ := by simp [Dk.arm, renD3]
  rw [A]
  match n, hn6 with
  | 0, _ => simp [Dk.create, Dk.append, Dk.sync, Dk.rename, Dk.crash, Dk.read, hn, s1, Dk.act, Dk.refuses, Dk.gone, c0]
  | 1, _ => simp [Dk.create, Dk.append, Dk.sync, Dk.rename, Dk.crash, Dk.read, hn, s1, Dk.act, Dk.refuses, Dk.stepped, Dk.gone, c1, hL1, N1, r1]
  | 2, _ => simp [Dk.create, Dk.append, Dk.sync, Dk.rename, Dk.crash, Dk.read, hn, s1, Dk.act, Dk.refuses, Dk.stepped, Dk.gone, c2, hL1, N1, r1, hL2, N2]
  | 3, _ => simp [Dk.create, Dk.append, Dk.sync, Dk.rename, Dk.crash, Dk.read, hn, hp, s1, Dk.act, Dk.refuses, Dk.stepped, Dk.gone, c3, hL1, N1, r1, hL2, N2, hL3, N3, hne]
  | 4, _ => simp [Dk.create, Dk.append, Dk.sync, Dk.rename, Dk.crash, Dk.read, hn, hp, s1, Dk.act, Dk.refuses, Dk.stepped, c4, hL1, N1, r1, hL2, N2, hL3, N3, hne, hL4]
  | 5, _ => simp [Dk.create, Dk.append, Dk.sync, Dk.rename, Dk.crash, Dk.read, hn, hp, s1, Dk.act, Dk.refuses, Dk.stepped, c4, hL1, N1, r1, hL2, N2, hL3, N3, hne, hL4]
end Go.Proofs.YtnpgjlhnlakgpaaGreatDoor
namespace Go.Proofs.YtnpgjlhnlakgpaaGreatDoor
open Go.RowKit Go.Maps

/-- A call. -/
structure Opn where
  kind : Int
  on : Int
  n : Int
  name : ByteArray
  data : ByteArray
  keep : List Int
  turn : List Int
def smallB (o : Opn) : Bool := decide (o.data.size ≤ 65536) && decide (o.name.size ≤ 65536)
def doesD (d : Dk) (o : Opn) : Int × Dk :=
  if o.kind = 1 then d.create o.name else if o.kind = 2 then d.append o.name o.data else if o.kind = 3 then d.sync o.name else if o.kind = 4 then d.cut o.name o.n else
  if o.kind = 5 then d.rename o.name o.data else if o.kind = 6 then d.remove o.name else (1, d)
theorem Dk.Ok.does {d : Dk} (h : d.Ok) (o : Opn) : (doesD d o).2.Ok := by
  unfold doesD
  split
  · exact h.create _
  split
  · exact h.append _ _
  split
  · exact h.sync _
  split
  · exact h.cut _ _
  split
  · exact h.rename _ _
  split
  · exact h.remove _
  · exact h
/-- A disk behind calls, each if it is small. -/
def playD (d : Dk) : List Opn → Dk
  | [] => d
  | o :: r => playD (if smallB o then (doesD d o).2 else d) r
theorem playD_snoc : ∀ (d : Dk) (l : List Opn) (o : Opn), playD d (l ++ [o]) = if smallB o then (doesD (playD d l) o).2 else playD d l
  | _, [], _ => rfl
  | d, x :: r, o => by
    show playD _ (r ++ [o]) = _
    rw [playD_snoc]; rfl
theorem Dk.Ok.play : ∀ {d : Dk}, d.Ok → ∀ l, (playD d l).Ok
  | _, h, [] => h
  | d, h, o :: r => by
    show (playD _ r).Ok
    refine Dk.Ok.play ?_ r
    split
    · exact h.does o
    · exact h

/-- Whether the power is on, a call is done, or refused for the power, or refused for what it asks. -/
theorem does_cases {d : Dk} (hoff : d.off = false) (o : Opn) : (∃ L, doesD d o = d.act L) ∨ ∃ e, doesD d o = (e, d) ∧ e ≠ 0 ∧ e ≠ 143 := by
  unfold doesD
  split
  · unfold Dk.create; rw [hoff]
    simp only [Bool.false_eq_true, if_false]
    split
    · exact .inr ⟨_, rfl, by decide, by decide⟩
    split
    · exact .inr ⟨_, rfl, by decide, by decide⟩
    split
    · exact .inr ⟨_, rfl, by decide, by decide⟩
    · exact .inl ⟨_, rfl⟩
  split
  · unfold Dk.append; rw [hoff]
    simp only [Bool.false_eq_true, if_false]
    split
    · exact .inr ⟨_, rfl, by decide, by decide⟩
    split
    · exact .inr ⟨_, rfl, by decide, by decide⟩
    · exact .inl ⟨_, rfl⟩
  split
  · unfold Dk.sync; rw [hoff]
    simp only [Bool.false_eq_true, if_false]
    split
    · exact .inr ⟨_, rfl, by decide, by decide⟩
    · exact .inl ⟨_, rfl⟩
  split
  · unfold Dk.cut; rw [hoff]
    simp only [Bool.false_eq_true, if_false]
    split
    · exact .inr ⟨_, rfl, by decide, by decide⟩
    split
    · exact .inr ⟨_, rfl, by decide, by decide⟩
    · exact .inl ⟨_, rfl⟩
  split
  · unfold Dk.rename; rw [hoff]
    simp only [Bool.false_eq_true, if_false]
    split
    · exact .inr ⟨_, rfl, by decide, by decide⟩
    split
    · exact .inr ⟨_, rfl, by decide, by decide⟩
    split
    · exact .inl ⟨_, rfl⟩
    · exact .inl ⟨_, rfl⟩
  split
  · unfold Dk.remove; rw [hoff]
    simp only [Bool.false_eq_true, if_false]
    split
    · exact .inr ⟨_, rfl, by decide, by decide⟩
    · exact .inl ⟨_, rfl⟩
  · exact .inr ⟨_, rfl, by decide, by decide⟩
theorem does_off {d : Dk} (hoff : d.off = true) (o : Opn) (h1 : 1 ≤ o.kind) (h6 : o.kind ≤ 6) : doesD d o = (143, d) := by
  unfold doesD
  split
  · unfold Dk.create; rw [if_pos hoff]
  split
  · unfold Dk.append; rw [if_pos hoff]
  split
  · unfold Dk.sync; rw [if_pos hoff]
  split
  · unfold Dk.cut; rw [if_pos hoff]
  split
  · unfold Dk.rename; rw [if_pos hoff]
  split
  · unfold Dk.remove; rw [if_pos hoff]
  · omega

/-! ### VfsArms -/
/-- What holds of an armed disk behind some of the calls: n steps were to be let through, s0 had been done when it was armed. -/
structure ArmR (d : Dk) (n s0 : Nat) : Prop where
  on : d.off = false → d.armed = true ∧ d.steps ≤ s0 + n ∧ s0 ≤ d.steps ∧ d.left = n - (d.steps - s0)
  off : d.off = true → d.steps = s0 + n
/-- The answer to a call is one that may be. -/
def armOk (d : Dk) (n s0 : Nat) (o : Opn) : Bool :=
  let r := doesD d o
  if d.off then r.1 == 143 && (r.2.off && (r.2.steps == d.steps && r.2.L == d.L))
  else if r.1 == 0 then r.2.steps == d.steps + 1 && (decide (r.2.steps - s0 ≤ n) && !r.2.off)
  else if r.1 == 143 then r.2.off && (r.2.steps - s0 == n && r.2.L == d.L)
  else !r.2.off && (r.2.steps == d.steps && r.2.L == d.L)
theorem ArmR.step {d : Dk} {n s0 : Nat} (h : ArmR d n s0) {o : Opn} (h1 : 1 ≤ o.kind) (h6 : o.kind ≤ 6) : ArmR (doesD d o).2 n s0 ∧ armOk d n s0 o = true := by
  by_cases hoff : d.off = true
  · have e := does_off hoff o h1 h6
    refine ⟨by rw [e]; exact h, ?_⟩
    unfold armOk
    simp [e, hoff]
  · have hoff' : d.off = false := by simpa using hoff
    obtain ⟨ha, hb, hc, hd⟩ := h.on hoff'
    rcases does_cases hoff' o with ⟨L, e⟩ | ⟨k, e, k0, k1⟩
    · by_cases hr : d.refuses = true
      · rw [act_no hr] at e
        have hl : d.left = 0 := by simp [Dk.refuses, ha] at hr; exact hr
        refine ⟨?_, ?_⟩
        · rw [e]
          refine ⟨fun h => ?_, fun _ => ?_⟩
          · simp [Dk.gone] at h
          · show d.steps = _; omega
        · unfold armOk
          simp only [e, hoff']
          simp [Dk.gone]
          omega
      · have hr' : d.refuses = false := by simpa using hr
        rw [act_go hr'] at e
        have hl : d.left ≠ 0 := by simp [Dk.refuses, ha] at hr; exact hr
        refine ⟨?_, ?_⟩
        · rw [e]
          refine ⟨fun _ => ⟨ha, ?_, ?_, ?_⟩, fun h => ?_⟩
          · show d.steps + 1 ≤ _; omega
          · show _ ≤ d.steps + 1; omega
          · show (if d.armed then d.left - 1 else d.left) = n - (d.steps + 1 - s0)
            rw [if_pos ha]; omega
          · have : d.off = true := h
            rw [hoff'] at this; cases this
        · unfold armOk
          simp only [e, hoff']
          simp [Dk.stepped, hoff']
          omega
    · refine ⟨by rw [e]; exact h, ?_⟩
      unfold armOk
      simp only [e, hoff']
      simp [k0, k1]
theorem ArmR.start {d : Dk} (hoff : d.off = false) (n : Nat) : ArmR (d.arm n) n d.steps := by
  unfold Dk.arm
  rw [if_neg (by simp [hoff])]
  refine ⟨fun _ => ⟨by simp, by simp, by simp, by simp⟩, fun h => ?_⟩
  have : d.off = true := h
  rw [hoff] at this; cases this
/-- A disk that was never armed keeps its power. -/
theorem does_on {d : Dk} (hoff : d.off = false) (ha : d.armed = false) (o : Opn) : (doesD d o).2.off = false ∧ (doesD d o).2.armed = false := by
  rcases does_cases hoff o with ⟨L, e⟩ | ⟨k, e, _⟩
  · rw [act_go (by simp [Dk.refuses, ha])] at e
    rw [e]; exact ⟨hoff, ha⟩
  · rw [e]; exact ⟨hoff, ha⟩
theorem play_on : ∀ {d : Dk}, d.off = false → d.armed = false → ∀ l, (playD d l).off = false ∧ (playD d l).armed = false
  | _, h, ha, [] => ⟨h, ha⟩
  | d, h, ha, o :: r => by
    show (playD _ r).off = false ∧ (playD _ r).armed = false
    split
    · exact play_on (does_on h ha o).1 (does_on h ha o).2 r
    · exact play_on h ha r
theorem does_room {d : Dk} (o : Opn) : (doesD d o).2.room = d.room := by
  have ha : ∀ L, (d.act L).2.room = d.room := fun L => by unfold Dk.act; split <;> rfl
  unfold doesD Dk.create Dk.append Dk.sync Dk.cut Dk.rename Dk.remove
  repeat' split
  all_goals first | rfl | exact ha _
theorem play_room : ∀ (d : Dk) (l : List Opn), (playD d l).room = d.room
  | _, [] => rfl
  | d, o :: r => by
    show (playD _ r).room = _
    rw [play_room]
    split
    · exact does_room o
    · rfl
theorem does_steps {d : Dk} (o : Opn) : (doesD d o).2.steps ≤ d.steps + 1 := by
  have ha : ∀ L, (d.act L).2.steps ≤ d.steps + 1 := fun L => by
    unfold Dk.act; split
    · exact Nat.le_succ _
    · exact Nat.le_refl _
  unfold doesD Dk.create Dk.append Dk.sync Dk.cut Dk.rename Dk.remove
  repeat' split
  all_goals first | exact Nat.le_succ _ | exact ha _
theorem play_steps : ∀ (d : Dk) (l : List Opn), (playD d l).steps ≤ d.steps + l.length
  | _, [] => Nat.le_refl _
  | d, o :: r => by
    show (playD _ r).steps ≤ _
    have := play_steps (if smallB o then (doesD d o).2 else d) r
    have h2 : (if smallB o then (doesD d o).2 else d).steps ≤ d.steps + 1 := by
      split
      · exact does_steps o
      · exact Nat.le_succ _
    simp only [List.length_cons]
    omega

/-! ### VfsRoom -/
theorem append_room {d : Dk} (hoff : d.off = false) (ha : d.armed = false) (nm data : ByteArray) :
    (d.append nm data).1 = 140 ∨ ((d.append nm data).1 = 142 ∧ d.room - usedF d.L < data.size) ∨ ((d.append nm data).1 = 0 ∧ ¬ d.room - usedF d.L < data.size) := by
  unfold Dk.append
  rw [if_neg (by simp [hoff])]
  split
  · exact .inl rfl
  split
  · rename_i h; exact .inr (.inl ⟨rfl, h⟩)
  · rename_i h
    rw [act_go (by simp [Dk.refuses, ha])]
    exact .inr (.inr ⟨rfl, h⟩)

/-! ### VfsSafe -/
/-- In how many of the first k places two texts differ. -/
def unl (a b : List UInt8) : Nat → Nat
  | 0 => 0
  | k + 1 => unl a b k + if a.getD k 0 = b.getD k 0 then 0 else 1
theorem unl_same {a b : List UInt8} : ∀ k, (∀ i, i < k → a.getD i 0 = b.getD i 0) → unl a b k = 0
  | 0, _ => rfl
  | k + 1, h => by
    unfold unl
    rw [if_pos (h k (by omega)), unl_same k (fun i hi => h i (by omega))]
theorem unl_one {a b : List UInt8} {j : Nat} : ∀ k, (∀ i, i < k → i ≠ j → a.getD i 0 = b.getD i 0) → unl a b k ≤ 1
  | 0, _ => Nat.zero_le _
  | k + 1, h => by
    unfold unl
    by_cases hk : k = j
    · rw [unl_same k (fun i hi => h i (by omega) (by omega))]
      split <;> omega
    · rw [if_pos (h k (by omega) hk)]
      exact unl_one k (fun i hi hj => h i (by omega) hj)
/-- What stays of a file: its safe bytes, and behind them a beginning of the others in which at most one byte was turned. -/
theorem staysB_like (f : Fl) (keep turn : Int) :
    (staysB f keep turn).data.toList.take f.safe = f.bytes.data.toList.take f.safe ∧ unl f.bytes.data.toList (staysB f keep turn).data.toList (staysB f keep turn).size ≤ 1 := by
  have hm : (if 0 < keep then (keep % ((f.bytes.size - f.safe + 1 : Nat) : Int)).toNat else 0) ≤ f.bytes.size - f.safe := by
    split
    · have h1 := Int.emod_lt_of_pos keep (b := ((f.bytes.size - f.safe + 1 : Nat) : Int)) (by omega)
      omega
    · omega
  have hlen : f.bytes.data.toList.length = f.bytes.size := by simp
  unfold staysB
  simp only []
  generalize (if 0 < keep then (keep % ((f.bytes.size - f.safe + 1 : Nat) : Int)).toNat else 0) = m at *
  split
  · have e : (f.bytes.extract 0 (f.safe + m)).data.toList = f.bytes.data.toList.take (f.safe + m) := by simp
    refine ⟨?_, ?_⟩
    · rw [e, List.take_take]; congr 1; omega
    · rw [e]
      refine Nat.le_trans (Nat.le_of_eq (unl_same _ fun i hi => ?_)) (Nat.zero_le _)
      rw [ByteArray.size_extract] at hi
      rw [List.getD_eq_getElem?_getD, List.getD_eq_getElem?_getD, List.getElem?_take_of_lt (by omega)]
  · generalize (turn / 256 % (m : Int)).toNat = x at *
    refine ⟨?_, ?_⟩
    · refine List.ext_getElem? fun i => ?_
      simp only [List.getElem?_take, List.getElem?_modify]
      by_cases hi : i < f.safe
      · rw [if_pos hi, if_pos hi, if_pos (by omega)]
        have hne : ¬ f.safe + x = i := by omega
        simp [hne]
      · rw [if_neg hi, if_neg hi]
    · refine unl_one (j := f.safe + x) _ fun i hi hj => ?_
      have hi2 : i < f.safe + m := by
        have h2 : (⟨((f.bytes.data.toList.take (f.safe + m)).modify (f.safe + x) fun c => c ^^^ UInt8.ofNat (turn % 256).toNat).toArray⟩ : ByteArray).size = min (f.safe + m) f.bytes.size := by
          show Array.size _ = _
          rw [List.size_toArray, List.length_modify, List.length_take, hlen]
        rw [h2] at hi; omega
      simp only [List.getD_eq_getElem?_getD]
      congr 1
      simp only [List.getElem?_modify, List.getElem?_take]
      rw [if_pos hi2]
      have hne : ¬ f.safe + x = i := fun e => hj e.symm
      simp [hne]
theorem crash_twice (keep turn : List Int) (k : Nat) : ∀ (L : List Fl), (∀ f ∈ L, f.safe = f.bytes.size) → crashL keep turn k L = L
  | [], _ => rfl
  | f :: r, h => by
    have hf := h f (by simp)
    unfold crashL
    rw [if_neg (by omega), crash_twice keep turn k r (fun x hx => h x (by simp [hx]))]
    congr 1
    cases f; simp at hf; simp [hf]
end Go.Proofs.YtnpgjlhnlakgpaaGreatDoor
namespace Go.Proofs.YtnpgjlhnlakgpaaGreatDoor
open Go.RowKit Go.Maps

theorem before_asymm {a b : List UInt8} (h : bytesBefore a b = true) : ¬ bytesBefore b a = true := fun h2 => by
  have := WideShapes.bytes_trans _ _ _ h h2
  rw [WideAt.bytes_irrefl] at this; cases this
theorem before_ne {a b : List UInt8} (h : bytesBefore a b = true) : a ≠ b := fun e => by rw [e, WideAt.bytes_irrefl] at h; cases h
theorem delF_later {k : List UInt8} {L : List Fl} (h : ∀ g ∈ L, bytesBefore k g.key = true) : delF k L = L := by
  unfold delF
  rw [List.filter_eq_self]
  intro a ha
  have : a.key ≠ k := fun e => before_ne (h a ha) e.symm
  simpa using this
theorem insF_first {f : Fl} {L : List Fl} (h : ∀ g ∈ L, bytesBefore f.key g.key = true) : insF f L = f :: L := by
  cases L with
  | nil => rfl
  | cons y r => unfold insF; rw [if_pos (h y (by simp))]
theorem putF_set : ∀ {L : List Fl}, Rising L → ∀ {f g : Fl} {i : Nat}, L[i]? = some g → f.key = g.key → putF f L = L.set i f
  | [], _, f, g, i, hi, _ => by simp at hi
  | y :: r, hr, f, g, 0, hi, hk => by
    obtain ⟨h1, h2⟩ := List.pairwise_cons.1 hr
    simp at hi; subst hi
    have e : delF f.key (y :: r) = r := by
      unfold delF
      have hy : (!(y.key == f.key)) = false := by simp [hk]
      rw [List.filter_cons, hy]
      simp only [Bool.false_eq_true, if_false]
      exact delF_later (k := f.key) fun g hg => by rw [hk]; exact h1 g hg
    unfold putF
    rw [e, insF_first (fun g hg => by rw [hk]; exact h1 g hg)]
    rfl
  | y :: r, hr, f, g, i + 1, hi, hk => by
    obtain ⟨h1, h2⟩ := List.pairwise_cons.1 hr
    simp at hi
    have hg : g ∈ r := List.mem_of_getElem? hi
    have hyf : bytesBefore y.key f.key = true := by rw [hk]; exact h1 g hg
    have e : delF f.key (y :: r) = y :: delF f.key r := by
      unfold delF
      have hy : (!(y.key == f.key)) = true := by simpa using before_ne hyf
      rw [List.filter_cons, hy]; rfl
    have ih := putF_set h2 hi hk
    unfold putF at ih ⊢
    rw [e]
    unfold insF
    rw [if_neg (before_asymm hyf), ih]
    rfl
theorem delF_erase : ∀ {L : List Fl}, Rising L → ∀ {g : Fl} {i : Nat}, L[i]? = some g → delF g.key L = L.eraseIdx i
  | [], _, g, i, hi => by simp at hi
  | y :: r, hr, g, 0, hi => by
    obtain ⟨h1, h2⟩ := List.pairwise_cons.1 hr
    simp at hi; subst hi
    unfold delF
    have hy : (!(y.key == y.key)) = false := by simp
    rw [List.filter_cons, hy]
    simp only [Bool.false_eq_true, if_false]
    exact delF_later (k := y.key) h1
  | y :: r, hr, g, i + 1, hi => by
    obtain ⟨h1, h2⟩ := List.pairwise_cons.1 hr
    simp at hi
    have hg : g ∈ r := List.mem_of_getElem? hi
    have ih := delF_erase h2 hi
    unfold delF at ih ⊢
    have hy : (!(y.key == g.key)) = true := by simpa using before_ne (h1 g hg)
    rw [List.filter_cons, hy, ih]
    rfl
theorem find_of_idx : ∀ {L : List Fl}, Rising L → ∀ {g : Fl} {i : Nat}, L[i]? = some g → findF g.key L = some g
  | [], _, g, i, hi => by simp at hi
  | y :: r, hr, g, 0, hi => by
    simp at hi; subst hi
    simp [findF]
  | y :: r, hr, g, i + 1, hi => by
    obtain ⟨h1, h2⟩ := List.pairwise_cons.1 hr
    simp at hi
    have hg : g ∈ r := List.mem_of_getElem? hi
    have ih := find_of_idx h2 hi
    unfold findF at ih ⊢
    have hy : (y.key == g.key) = false := by simpa using before_ne (h1 g hg)
    rw [List.find?_cons, hy]
    exact ih
theorem find_none {L : List Fl} {k : List UInt8} (h : ∀ g ∈ L, g.key ≠ k) : findF k L = none := by
  unfold findF
  rw [List.find?_eq_none]
  intro x hx
  have := h x hx
  simpa using this
theorem put_new {L : List Fl} {f : Fl} (h : findF f.key L = none) : putF f L = insF f L := by
  unfold putF
  rw [del_none h]
end Go.Proofs.YtnpgjlhnlakgpaaGreatDoor
namespace Go.Proofs.YtnpgjlhnlakgpaaGreatDoor
open Go.RowKit Go.Maps

/-- What a crash makes of one file; k: how many were not safe ahead of it. -/
def crash1 (keep turn : List Int) (k : Nat) (f : Fl) : Fl :=
  if f.safe < f.bytes.size then { f with bytes := staysB f (atL keep k) (atL turn k), safe := (staysB f (atL keep k) (atL turn k)).size } else { f with safe := f.bytes.size }
def unsafeN (L : List Fl) : Nat := L.countP fun f => decide (f.safe < f.bytes.size)
/-- The files when the first i of them are done. -/
def crashP (keep turn : List Int) (L : List Fl) (i : Nat) : List Fl := crashL keep turn 0 (L.take i) ++ L.drop i
theorem crashL_cons (keep turn : List Int) (k : Nat) (f : Fl) (r : List Fl) : crashL keep turn k (f :: r) = crash1 keep turn k f :: crashL keep turn (k + if f.safe < f.bytes.size then 1 else 0) r := by
  by_cases h : f.safe < f.bytes.size
  · rw [if_pos h]
    conv => lhs; unfold crashL
    unfold crash1
    rw [if_pos h, if_pos h]
  · rw [if_neg h]
    conv => lhs; unfold crashL
    unfold crash1
    rw [if_neg h, if_neg h]
    rfl
theorem unsafeN_cons (f : Fl) (r : List Fl) : unsafeN (f :: r) = (if f.safe < f.bytes.size then 1 else 0) + unsafeN r := by
  unfold unsafeN
  rw [List.countP_cons]
  by_cases h : f.safe < f.bytes.size
  · simp [h]; omega
  · simp [h]
theorem crashL_append (keep turn : List Int) : ∀ (k : Nat) (A B : List Fl), crashL keep turn k (A ++ B) = crashL keep turn k A ++ crashL keep turn (k + unsafeN A) B
  | k, [], B => rfl
  | k, f :: r, B => by
    rw [List.cons_append, crashL_cons, crashL_cons, crashL_append keep turn _ r B, unsafeN_cons, List.cons_append, Nat.add_assoc]
theorem crashL_one (keep turn : List Int) (k : Nat) (f : Fl) : crashL keep turn k [f] = [crash1 keep turn k f] := by rw [crashL_cons]; rfl
theorem crashP_zero (keep turn : List Int) (L : List Fl) : crashP keep turn L 0 = L := by simp [crashP, crashL]
theorem crashP_all (keep turn : List Int) (L : List Fl) : crashP keep turn L L.length = crashL keep turn 0 L := by simp [crashP]
theorem crashP_get (keep turn : List Int) (L : List Fl) {i : Nat} {f : Fl} (h : L[i]? = some f) : (crashP keep turn L i)[i]? = some f := by
  have hi : i < L.length := (List.getElem?_eq_some_iff.1 h).1
  unfold crashP
  have hl : (crashL keep turn 0 (L.take i)).length = i := by rw [crash_len, List.length_take]; omega
  rw [List.getElem?_append_right (by omega), hl]
  simpa using h
theorem crashP_step (keep turn : List Int) (L : List Fl) {i : Nat} {f : Fl} (h : L[i]? = some f) :
    (crashP keep turn L i).set i (crash1 keep turn (unsafeN (L.take i)) f) = crashP keep turn L (i + 1) := by
  obtain ⟨hi, hf⟩ := List.getElem?_eq_some_iff.1 h
  have hl : (crashL keep turn 0 (L.take i)).length = i := by rw [crash_len, List.length_take]; omega
  have ht : L.take (i + 1) = L.take i ++ [f] := by rw [List.take_add_one, h]; rfl
  have hd : L.drop i = f :: L.drop (i + 1) := by rw [List.drop_eq_getElem_cons hi, hf]
  unfold crashP
  rw [ht, crashL_append, crashL_one, hd, List.set_append_right _ _ (by omega), hl, Nat.sub_self, Nat.zero_add]
  simp
theorem unsafeN_step (L : List Fl) {i : Nat} {f : Fl} (h : L[i]? = some f) : unsafeN (L.take (i + 1)) = unsafeN (L.take i) + if f.safe < f.bytes.size then 1 else 0 := by
  have ht : L.take (i + 1) = L.take i ++ [f] := by rw [List.take_add_one, h]; rfl
  rw [ht]
  unfold unsafeN
  rw [List.countP_append]
  simp [List.countP_cons]
theorem unsafeN_le (L : List Fl) : unsafeN L ≤ L.length := List.countP_le_length
theorem crashP_names (keep turn : List Int) (L : List Fl) (i : Nat) : (crashP keep turn L i).map Fl.name = L.map Fl.name := by
  unfold crashP
  rw [List.map_append, crash_keys, ← List.map_append, List.take_append_drop]
theorem crashP_rise {L : List Fl} (h : Rising L) (keep turn : List Int) (i : Nat) : Rising (crashP keep turn L i) := rising_of_names (crashP_names keep turn L i) h
theorem crashP_len (keep turn : List Int) (L : List Fl) (i : Nat) : (crashP keep turn L i).length = L.length := by
  have := congrArg List.length (crashP_names keep turn L i)
  simpa using this
theorem crashP_used {L : List Fl} (h : SafeOk L) (keep turn : List Int) (i : Nat) : usedF (crashP keep turn L i) ≤ usedF L := by
  have h1 := crash_used keep turn 0 (L.take i) (fun f hf => h f (List.mem_of_mem_take hf))
  have h2 : usedF (L.take i ++ L.drop i) = usedF (L.take i) + usedF (L.drop i) := by simp only [usedF, List.map_append, List.sum_append]
  rw [List.take_append_drop] at h2
  have h3 : usedF (crashP keep turn L i) = usedF (crashL keep turn 0 (L.take i)) + usedF (L.drop i) := by simp [crashP, usedF]
  omega
theorem usedF_set {L : List Fl} (hr : Rising L) {f g : Fl} {i : Nat} (hi : L[i]? = some g) (hk : f.key = g.key) : usedF (L.set i f) + g.bytes.size = usedF L + f.bytes.size := by
  rw [← putF_set hr hi hk]
  exact usedF_put hr (by rw [hk]; exact find_of_idx hr hi)
theorem crash1_key (keep turn : List Int) (k : Nat) (f : Fl) : (crash1 keep turn k f).name = f.name := by
  unfold crash1; split <;> rfl
end Go.Proofs.YtnpgjlhnlakgpaaGreatDoor

/- The plain model of a log on a disk: what each call makes of both. -/
import Derived.Test.YtnpgjlhnlakgpaaDoorWalNm
import Derived.Test.YtnpgjlhnlakgpaaDoorWalY
import Derived.Test.YtnpgjlhnlakgpaaDoorG01
import Derived.Test.YtnpgjlhnlakgpaaDoorPrintF
namespace Go.Proofs.YtnpgjlhnlakgpaaDoor

/-- A log: its segments' numbers, the last one's size, the next record's number, the last safe one's. -/
structure Lg where
  seg : Nat
  nums : List Nat
  size : Nat
  next : Nat
  safe : Nat
def Lg.lastN (l : Lg) : Nat := l.nums.getLastD 0
def Lg.first (l : Lg) : Nat := l.nums.headD 0
def Lg.told (l : Lg) : Nat := max l.safe (l.first - 1)
/-- Sync. -/
def syncW (d : Dk) (l : Lg) : Int × Dk × Lg :=
  if (d.sync (nameN l.lastN)).1 = 0 then (0, (d.sync (nameN l.lastN)).2, { l with safe := l.next - 1 }) else ((d.sync (nameN l.lastN)).1, (d.sync (nameN l.lastN)).2, l)
/-- The Append that an Add does. -/
def appW (d : Dk) (l : Lg) (r : List UInt8) : Int × Dk × Lg :=
  if (d.append (nameN l.lastN) (bs (frameN r))).1 = 0 then (0, (d.append (nameN l.lastN) (bs (frameN r))).2, { l with size := l.size + (r.length + 12), next := l.next + 1 })
  else ((d.append (nameN l.lastN) (bs (frameN r))).1, (d.append (nameN l.lastN) (bs (frameN r))).2, l)
/-- A segment more. -/
def newW (d : Dk) (l : Lg) : Int × Dk × Lg :=
  if (d.create (nameN l.next)).1 = 0 then (0, (d.create (nameN l.next)).2, { l with nums := l.nums ++ [l.next], size := 0 }) else ((d.create (nameN l.next)).1, (d.create (nameN l.next)).2, l)
/-- Add. -/
def addW (d : Dk) (l : Lg) (r : List UInt8) : Int × Dk × Lg :=
  if 65536 < r.length ∨ 999999999999 < l.next then (2, d, l)
  else if l.seg ≤ l.size then
    if (syncW d l).1 = 0 then
      if (newW (syncW d l).2.1 (syncW d l).2.2).1 = 0 then appW (newW (syncW d l).2.1 (syncW d l).2.2).2.1 (newW (syncW d l).2.1 (syncW d l).2.2).2.2 r
      else newW (syncW d l).2.1 (syncW d l).2.2
    else syncW d l
  else appW d l r
/-- Trim: of the numbers what stays. -/
def trimN (n : Int) : Dk → List Nat → Int × Dk × List Nat
  | d, a :: b :: t => if (b : Int) - 1 ≤ n then
      if (d.remove (nameN a)).1 = 0 then trimN n (d.remove (nameN a)).2 (b :: t) else ((d.remove (nameN a)).1, (d.remove (nameN a)).2, a :: b :: t)
    else (0, d, a :: b :: t)
  | d, l => (0, d, l)
def trimW (d : Dk) (l : Lg) (n : Int) : Int × Dk × Lg := ((trimN n d l.nums).1, (trimN n d l.nums).2.1, { l with nums := (trimN n d l.nums).2.2 })
/-- Read from a number on: what was told so far, the segments that are left. -/
def readN (d : Dk) (fr next : Nat) : List (List UInt8) → List Nat → List (List UInt8) × Int
  | out, [] => (out, 0)
  | out, n :: t => if t.headD next ≤ fr then readN d fr next out t else
      if (d.read (nameN n)).2 = 0 then readN d fr next (out ++ (scanF (d.read (nameN n)).1.data.toList).1.drop (fr - n)) t else ([], (d.read (nameN n)).2)

/-! ### A log that stands -/
/-- The numbers of segments of these records. -/
def numsOf : Nat → List (List (List UInt8)) → List Nat
  | _, [] => []
  | a, rs :: t => a :: numsOf (a + rs.length) t
/-- Full segments: their files. -/
def fulls : Nat → List (List (List UInt8)) → List Fl
  | _, [] => []
  | a, rs :: t => ⟨nameN a, bs (framesN rs), (framesN rs).length⟩ :: fulls (a + rs.length) t
theorem fulls_app : ∀ (a : Nat) (x y : List (List (List UInt8))), fulls a (x ++ y) = fulls a x ++ fulls (a + x.flatten.length) y
  | a, [], y => by simp [fulls]
  | a, rs :: x, y => by
    simp only [List.cons_append, fulls, fulls_app (a + rs.length) x y, List.flatten_cons, List.length_append]
    rw [Nat.add_assoc]
theorem numsOf_app : ∀ (a : Nat) (x y : List (List (List UInt8))), numsOf a (x ++ y) = numsOf a x ++ numsOf (a + x.flatten.length) y
  | a, [], y => by simp [numsOf]
  | a, rs :: x, y => by
    simp only [List.cons_append, numsOf, numsOf_app (a + rs.length) x y, List.flatten_cons, List.length_append]
    rw [Nat.add_assoc]
theorem fulls_names : ∀ (a : Nat) (x : List (List (List UInt8))), (fulls a x).map Fl.name = (numsOf a x).map nameN
  | _, [] => rfl
  | a, rs :: x => by simp [fulls, numsOf, fulls_names (a + rs.length) x]
/-- It stands: on the disk d lies the log l, of all records these; a: its first segment's number; its full segments; its last one; how many bytes of that are safe. -/
structure LInv (d : Dk) (l : Lg) (all : List (List UInt8)) (a : Nat) (init : List (List (List UInt8))) (lst : List (List UInt8)) (sb : Nat) : Prop where
  files : d.L = fulls a init ++ [⟨nameN (a + init.flatten.length), bs (framesN lst), sb⟩]
  nums : l.nums = numsOf a init ++ [a + init.flatten.length]
  a1 : 1 ≤ a
  recs : all.drop (a - 1) = init.flatten ++ lst
  next : l.next = a + init.flatten.length + lst.length
  len : all.length + 1 = l.next
  seg1 : 1 ≤ l.seg
  full : ∀ rs ∈ init, l.seg ≤ (framesN rs).length
  size : l.size = (framesN lst).length
  sble : sb ≤ l.size
  safe1 : l.safe + 1 ≤ l.next
  safe2 : (framesN (lst.take (l.safe + 1 - (a + init.flatten.length)))).length ≤ sb
  small : ∀ r ∈ all, r.length ≤ 65536
  max : l.next ≤ 999999999999
  ok : d.Ok
theorem LInv.lastN {d : Dk} {l : Lg} {all : List (List UInt8)} {a : Nat} {init : List (List (List UInt8))} {lst : List (List UInt8)} {sb : Nat} (h : LInv d l all a init lst sb) : l.lastN = a + init.flatten.length := by
  unfold Lg.lastN
  rw [h.nums, List.getLastD_concat]
theorem LInv.first {d : Dk} {l : Lg} {all : List (List UInt8)} {a : Nat} {init : List (List (List UInt8))} {lst : List (List UInt8)} {sb : Nat} (h : LInv d l all a init lst sb) : l.first = a := by
  unfold Lg.first
  rw [h.nums]
  cases init with
  | nil => simp [numsOf]
  | cons rs t => simp [numsOf]
theorem name_key (n : Nat) (b : ByteArray) (s : Nat) : (Fl.mk (nameN n) b s).key = nameL n := rfl
/-- The names of full segments are below what comes behind. -/
theorem fulls_below : ∀ (a : Nat) (x : List (List (List UInt8))), (∀ rs ∈ x, 1 ≤ rs.length) → a + x.flatten.length < 1000000000000 → ∀ f ∈ fulls a x, bytesBefore f.key (nameL (a + x.flatten.length)) = true
  | _, [], _, _, f, hf => by cases hf
  | a, rs :: x, h1, h2, f, hf => by
    have hr := h1 rs (by simp)
    simp only [List.flatten_cons, List.length_append] at h2 ⊢
    rcases List.mem_cons.1 hf with rfl | hf
    · exact name_lt (by omega) h2
    · rw [← Nat.add_assoc] at h2 ⊢
      exact fulls_below (a + rs.length) x (fun q hq => h1 q (by simp [hq])) h2 f hf
theorem frames_pos {rs : List (List UInt8)} (h : 1 ≤ (framesN rs).length) : 1 ≤ rs.length := by
  cases rs with
  | nil => simp [framesN] at h
  | cons r t => simp
theorem LInv.pos {d : Dk} {l : Lg} {all : List (List UInt8)} {a : Nat} {init : List (List (List UInt8))} {lst : List (List UInt8)} {sb : Nat} (h : LInv d l all a init lst sb) : ∀ rs ∈ init, 1 ≤ rs.length := fun rs hr => frames_pos (Nat.le_trans h.seg1 (h.full rs hr))
/-- The last one is found, and put. -/
theorem find_last {X : List Fl} {k : List UInt8} {f : Fl} (hf : f.key = k) (h : ∀ g ∈ X, bytesBefore g.key k = true) : findF k (X ++ [f]) = some f := by
  unfold findF
  rw [List.find?_append]
  have : X.find? (fun f => f.key == k) = none := List.find?_eq_none.2 fun g hg => by
    have := before_ne (h g hg)
    simpa using this
  rw [this]
  simp [hf]
theorem put_last {X : List Fl} {f g : Fl} (hk : g.key = f.key) (h : ∀ x ∈ X, bytesBefore x.key f.key = true) : putF g (X ++ [f]) = X ++ [g] := by
  have hd : delF g.key (X ++ [f]) = X := by
    unfold delF
    rw [List.filter_append, List.filter_eq_self.2 fun x hx => by have := before_ne (h x hx); rw [hk]; simpa using this]
    simp [hk]
  unfold putF
  rw [hd]
  exact ins_last fun x hx => by rw [hk]; exact h x hx
where
  ins_last {X : List Fl} {g : Fl} (h : ∀ x ∈ X, bytesBefore x.key g.key = true) : insF g X = X ++ [g] := by
    induction X with
    | nil => rfl
    | cons x X ih =>
      unfold insF
      rw [if_neg (before_asymm (h x (by simp))), ih fun y hy => h y (by simp [hy])]
      rfl
theorem put_behind {X : List Fl} {g : Fl} (h : ∀ x ∈ X, bytesBefore x.key g.key = true) : putF g X = X ++ [g] := by
  have hd : delF g.key X = X := by
    unfold delF
    exact List.filter_eq_self.2 fun x hx => by have := before_ne (h x hx); simpa using this
  unfold putF
  rw [hd]
  exact put_last.ins_last h
theorem LInv.below {d : Dk} {l : Lg} {all : List (List UInt8)} {a : Nat} {init : List (List (List UInt8))} {lst : List (List UInt8)} {sb : Nat} (h : LInv d l all a init lst sb) : ∀ f ∈ fulls a init, bytesBefore f.key (nameL (a + init.flatten.length)) = true :=
  fulls_below a init h.pos (by have := h.max; have := h.next; omega)
theorem LInv.find {d : Dk} {l : Lg} {all : List (List UInt8)} {a : Nat} {init : List (List (List UInt8))} {lst : List (List UInt8)} {sb : Nat} (h : LInv d l all a init lst sb) : findF (nameN l.lastN).data.toList d.L = some ⟨nameN (a + init.flatten.length), bs (framesN lst), sb⟩ := by
  rw [h.files, h.lastN]
  exact find_last rfl h.below
/-- The power goes: all else stands. -/
theorem LInv.gone {d : Dk} {l : Lg} {all : List (List UInt8)} {a : Nat} {init : List (List (List UInt8))} {lst : List (List UInt8)} {sb : Nat} (h : LInv d l all a init lst sb) : LInv d.gone l all a init lst sb :=
  ⟨h.files, h.nums, h.a1, h.recs, h.next, h.len, h.seg1, h.full, h.size, h.sble, h.safe1, h.safe2, h.small, h.max, h.ok.gone⟩
theorem LInv.sync {d : Dk} {l : Lg} {all : List (List UInt8)} {a : Nat} {init : List (List (List UInt8))} {lst : List (List UInt8)} {sb : Nat} (h : LInv d l all a init lst sb) :
    ((syncW d l).1 = 143 ∧ (syncW d l).2.2 = l ∧ LInv (syncW d l).2.1 l all a init lst sb ∧ (syncW d l).2.1.off = true) ∨ ((syncW d l).1 = 0 ∧ (syncW d l).2.2 = { l with safe := l.next - 1 } ∧ LInv (syncW d l).2.1 (syncW d l).2.2 all a init lst l.size) := by
  have hz : (bs (framesN lst)).size = l.size := by rw [bs_size, h.size]
  have hp : putF ⟨nameN (a + init.flatten.length), bs (framesN lst), l.size⟩ d.L = fulls a init ++ [⟨nameN (a + init.flatten.length), bs (framesN lst), l.size⟩] := by
    rw [h.files]
    exact put_last (f := ⟨nameN (a + init.flatten.length), bs (framesN lst), sb⟩) rfl h.below
  have hs : d.sync (nameN l.lastN) = if d.off then (143, d) else d.act (fulls a init ++ [⟨nameN (a + init.flatten.length), bs (framesN lst), l.size⟩]) := by
    unfold Dk.sync
    rw [h.find]
    simp only
    rw [hz, hp]
  have hok := h.ok.sync (nameN l.lastN)
  unfold syncW
  rw [hs] at hok ⊢
  by_cases ho : d.off = true
  · rw [if_pos ho]
    exact .inl ⟨rfl, rfl, h, ho⟩
  · rw [if_neg ho] at hok ⊢
    cases hr : d.refuses with
    | true => rw [act_no hr]; exact .inl ⟨rfl, rfl, h.gone, rfl⟩
    | false =>
      rw [act_go hr] at hok ⊢
      refine .inr ⟨rfl, rfl, ⟨rfl, h.nums, h.a1, h.recs, h.next, h.len, h.seg1, h.full, h.size, Nat.le_refl _, ?_, ?_, h.small, h.max, hok⟩⟩
      · have := h.len; show l.next - 1 + 1 ≤ l.next; omega
      · show (framesN (lst.take (l.next - 1 + 1 - (a + init.flatten.length)))).length ≤ l.size
        rw [h.size, List.take_of_length_le (by have := h.next; omega)]
        exact Nat.le_refl _
end Go.Proofs.YtnpgjlhnlakgpaaDoor

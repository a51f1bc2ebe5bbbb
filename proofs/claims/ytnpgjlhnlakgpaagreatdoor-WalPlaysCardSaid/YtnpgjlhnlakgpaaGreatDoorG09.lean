/- The plain model of a log on a disk: what each call makes of both. The plain model of a log: Add and Trim leave it standing. The plain model of a log: on a disk whose power stays, with room, every Add is done. The plain model of a log: its files one by one; its bounds; how Add, Sync, Trim go on. -/
import Derived.Test.YtnpgjlhnlakgpaaGreatDoorWalNm
import Derived.Test.YtnpgjlhnlakgpaaGreatDoorG07
import Derived.Test.YtnpgjlhnlakgpaaGreatDoorG01
import Derived.Test.YtnpgjlhnlakgpaaGreatDoorPrintF
namespace Go.Proofs.YtnpgjlhnlakgpaaGreatDoor

/-- A log: its segments' numbers, the last one's size, the next record's number, the last safe one's. -/
structure Lg where
  seg : Nat
  nums : List Nat
  size : Nat
  next : Nat
  safe : Nat
def Lg.lastN (l : Lg) : Nat := l.nums.getLastD 0
def Lg.first (l : Lg) : Nat := l.nums.headD 0
def Lg.told (l : Lg) : Nat := max l.safe (l.first - 1)
/-- Sync. -/
def syncW (d : Dk) (l : Lg) : Int × Dk × Lg :=
  if (d.sync (nameN l.lastN)).1 = 0 then (0, (d.sync (nameN l.lastN)).2, { l with safe := l.next - 1 }) else ((d.sync (nameN l.lastN)).1, (d.sync (nameN l.lastN)).2, l)
/-- The Append that an Add does. -/
def appW (d : Dk) (l : Lg) (r : List UInt8) : Int × Dk × Lg :=
  if (d.append (nameN l.lastN) (bs (frameN r))).1 = 0 then (0, (d.append (nameN l.lastN) (bs (frameN r))).2, { l with size := l.size + (r.length + 12), next := l.next + 1 })
  else ((d.append (nameN l.lastN) (bs (frameN r))).1, (d.append (nameN l.lastN) (bs (frameN r))).2, l)
/-- A segment more. -/
def newW (d : Dk) (l : Lg) : Int × Dk × Lg :=
  if (d.create (nameN l.next)).1 = 0 then (0, (d.create (nameN l.next)).2, { l with nums := l.nums ++ [l.next], size := 0 }) else ((d.create (nameN l.next)).1, (d.create (nameN l.next)).2, l)
/-- Add. -/
def addW (d : Dk) (l : Lg) (r : List UInt8) : Int × Dk × Lg :=
  if 65536 < r.length ∨ 999999999999 < l.next then (2, d, l)
  else if l.seg ≤ l.size then
    if (syncW d l).1 = 0 then
      if (newW (syncW d l).2.1 (syncW d l).2.2).1 = 0 then appW (newW (syncW d l).2.1 (syncW d l).2.2).2.1 (newW (syncW d l).2.1 (syncW d l).2.2).2.2 r
      else newW (syncW d l).2.1 (syncW d l).2.2
    else syncW d l
  else appW d l r
/-- Trim: of the numbers what stays. -/
def trimN (n : Int) : Dk → List Nat → Int × Dk × List Nat
  | d, a :: b :: t => if (b : Int) - 1 ≤ n then
      if (d.remove (nameN a)).1 = 0 then trimN n (d.remove (nameN a)).2 (b :: t) else ((d.remove (nameN a)).1, (d.remove (nameN a)).2, a :: b :: t)
    else (0, d, a :: b :: t)
  | d, l => (0, d, l)
def trimW (d : Dk) (l : Lg) (n : Int) : Int × Dk × Lg := ((trimN n d l.nums).1, (trimN n d l.nums).2.1, { l with nums := (trimN n d l.nums).2.2 })
/-- Read from a number on: what was told so far, the segments that are left. -/
def readN (d : Dk) (fr next : Nat) : List (List UInt8) → List Nat → List (List UInt8) × Int
  | out, [] => (out, 0)
  | out, n :: t => if t.headD next ≤ fr then readN d fr next out t else
      if (d.read (nameN n)).2 = 0 then readN d fr next (out ++ (scanF (d.read (nameN n)).1.data.toList).1.drop (fr - n)) t else ([], (d.read (nameN n)).2)

/-! ### A log that stands -/
/-- The numbers of segments of these records. -/
def numsOf : Nat → List (List (List UInt8)) → List Nat
  | _, [] => []
  | a, rs :: t => a :: numsOf (a + rs.length) t
/-- Full segments: their files. -/
def fulls : Nat → List (List (List UInt8)) → List Fl
  | _, [] => []
  | a, rs :: t => ⟨nameN a, bs (framesN rs), (framesN rs).length⟩ :: fulls (a + rs.length) t
theorem fulls_app : ∀ (a : Nat) (x y : List (List (List UInt8))), fulls a (x ++ y) = fulls a x ++ fulls (a + x.flatten.length) y
  | a, [], y => by simp [fulls]
  | a, rs :: x, y => by
    simp only [List.cons_append, fulls, fulls_app (a + rs.length) x y, List.flatten_cons, List.length_append]
    rw [Nat.add_assoc]
theorem numsOf_app : ∀ (a : Nat) (x y : List (List (List UInt8))), numsOf a (x ++ y) = numsOf a x ++ numsOf (a + x.flatten.length) y
  | a, [], y => by simp [numsOf]
  | a, rs :: x, y => by
    simp only [List.cons_append, numsOf, numsOf_app (a + rs.length) x y, List.flatten_cons, List.length_append]
    rw [Nat.add_assoc]
theorem fulls_names : ∀ (a : Nat) (x : List (List (List UInt8))), (fulls a x).map Fl.name = (numsOf a x).map nameN
  | _, [] => rfl
  | a, rs :: x => by simp [fulls, numsOf, fulls_names (a + rs.length) x]
/-- It stands: on the disk d lies the log l, of all records these; a: its first segment's number; its full segments; its last one; how many bytes of that are safe. -/
structure LInv (d : Dk) (l : Lg) (all : List (List UInt8)) (a : Nat) (init : List (List (List UInt8))) (lst : List (List UInt8)) (sb : Nat) : Prop where
  files : d.L = fulls a init ++ [⟨nameN (a + init.flatten.length), bs (framesN lst), sb⟩]
  nums : l.nums = numsOf a init ++ [a + init.flatten.length]
  a1 : 1 ≤ a
  recs : all.drop (a - 1) = init.flatten ++ lst
  next : l.next = a + init.flatten.length + lst.length
  len : all.length + 1 = l.next
  seg1 : 1 ≤ l.seg
  full : ∀ rs ∈ init, l.seg ≤ (framesN rs).length
  size : l.size = (framesN lst).length
  sble : sb ≤ l.size
  safe1 : l.safe + 1 ≤ l.next
  safe2 : (framesN (lst.take (l.safe + 1 - (a + init.flatten.length)))).length ≤ sb
  small : ∀ r ∈ all, r.length ≤ 65536
  max : l.next ≤ 999999999999
  ok : d.Ok
theorem LInv.lastN {d : Dk} {l : Lg} {all : List (List UInt8)} {a : Nat} {init : List (List (List UInt8))} {lst : List (List UInt8)} {sb : Nat} (h : LInv d l all a init lst sb) : l.lastN = a + init.flatten.length := by
  unfold Lg.lastN
  rw [h.nums, List.getLastD_concat]
theorem LInv.first {d : Dk} {l : Lg} {all : List (List UInt8)} {a : Nat} {init : List (List (List UInt8))} {lst : List (List UInt8)} {sb : Nat} (h : LInv d l all a init lst sb) : l.first = a := by
  unfold Lg.first
  rw [h.nums]
  cases init with
  | nil => simp [numsOf]
  | cons rs t => simp [numsOf]
theorem name_key (n : Nat) (b : ByteArray) (s : Nat) : (Fl.mk (nameN n) b s).key = nameL n := rfl
/-- The names of full segments are below what comes behind. -/
theorem fulls_below : ∀ (a : Nat) (x : List (List (List UInt8))), (∀ rs ∈ x, 1 ≤ rs.length) → a + x.flatten.length < 1000000000000 → ∀ f ∈ fulls a x, bytesBefore f.key (nameL (a + x.flatten.length)) = true
  | _, [], _, _, f, hf => by cases hf
  | a, rs :: x, h1, h2, f, hf => by
    have hr := h1 rs (by simp)
    simp only [List.flatten_cons, List.length_append] at h2 ⊢
    rcases List.mem_cons.1 hf with rfl | hf
    · exact name_lt (by omega) h2
    · rw [← Nat.add_assoc] at h2 ⊢
      exact fulls_below (a + rs.length) x (fun q hq => h1 q (by simp [hq])) h2 f hf
theorem frames_pos {rs : List (List UInt8)} (h : 1 ≤ (framesN rs).length) : 1 ≤ rs.length := by
  cases rs with
  | nil => simp [framesN] at h
  | cons r t => simp
theorem LInv.pos {d : Dk} {l : Lg} {all : List (List UInt8)} {a : Nat} {init : List (List (List UInt8))} {lst : List (List UInt8)} {sb : Nat} (h : LInv d l all a init lst sb) : ∀ rs ∈ init, 1 ≤ rs.length := fun rs hr => frames_pos (Nat.le_trans h.seg1 (h.full rs hr))
/-- The last one is found, and put. -/
theorem find_last {X : List Fl} {k : List UInt8} {f : Fl} (hf : f.key = k) (h : ∀ g ∈ X, bytesBefore g.key k = true) : findF k (X ++ [f]) = some f := by
  unfold findF
  rw [List.find?_append]
  have : X.find? (fun f => f.key == k) = none := List.find?_eq_none.2 fun g hg => by
    have := before_ne (h g hg)
    simpa using this
  rw [this]
  simp [hf]
theorem put_last {X : List Fl} {f g : Fl} (hk : g.key = f.key) (h : ∀ x ∈ X, bytesBefore x.key f.key = true) : putF g (X ++ [f]) = X ++ [g] := by
  have hd : delF g.key (X ++ [f]) = X := by
    unfold delF
    rw [List.filter_append, List.filter_eq_self.2 fun x hx => by have := before_ne (h x hx); rw [hk]; simpa using this]
    simp [hk]
  unfold putF
  rw [hd]
  exact ins_last fun x hx => by rw [hk]; exact h x hx
where
  ins_last {X : List Fl} {g : Fl} (h : ∀ x ∈ X, bytesBefore x.key g.key = true) : insF g X = X ++ [g] := by
    induction X with
    | nil => rfl
    | cons x X ih =>
      unfold insF
      rw [if_neg (before_asymm (h x (by simp))), ih fun y hy => h y (by simp [hy])]
      rfl
theorem put_behind {X : List Fl} {g : Fl} (h : ∀ x ∈ X, bytesBefore x.key g.key = true) : putF g X = X ++ [g] := by
  have hd : delF g.key X = X := by
    unfold delF
    exact List.filter_eq_self.2 fun x hx => by have := before_ne (h x hx); simpa using this
  unfold putF
  rw [hd]
  exact put_last.ins_last h
theorem LInv.below {d : Dk} {l : Lg} {all : List (List UInt8)} {a : Nat} {init : List (List (List UInt8))} {lst : List (List UInt8)} {sb : Nat} (h : LInv d l all a init lst sb) : ∀ f ∈ fulls a init, bytesBefore f.key (nameL (a + init.flatten.length)) = true :=
  fulls_below a init h.pos (by have := h.max; have := h.next; omega)
theorem LInv.find {d : Dk} {l : Lg} {all : List (List UInt8)} {a : Nat} {init : List (List (List UInt8))} {lst : List (List UInt8)} {sb : Nat} (h : LInv d l all a init lst sb) : findF (nameN l.lastN).data.toList d.L = some ⟨nameN (a + init.flatten.length), bs (framesN lst), sb⟩ := by
  rw [h.files, h.lastN]
  exact find_last rfl h.below
/-- The power goes: all else stands. -/
theorem LInv.gone {d : Dk} {l : Lg} {all : List (List UInt8)} {a : Nat} {init : List (List (List UInt8))} {lst : List (List UInt8)} {sb : Nat} (h : LInv d l all a init lst sb) : LInv d.gone l all a init lst sb :=
  ⟨h.files, h.nums, h.a1, h.recs, h.next, h.len, h.seg1, h.full, h.size, h.sble, h.safe1, h.safe2, h.small, h.max, h.ok.gone⟩
theorem LInv.sync {d : Dk} {l : Lg} {all : List (List UInt8)} {a : Nat} {init : List (List (List UInt8))} {lst : List (List UInt8)} {sb : Nat} (h : LInv d l all a init lst sb) :
    ((syncW d l).1 = 143 ∧ (syncW d l).2.2 = l ∧ LInv (syncW d l).2.1 l all a init lst sb ∧ (syncW d l).2.1.off = true) ∨ ((syncW d l).1 = 0 ∧ (syncW d l).2.2 = { l with safe := l.next - 1 } ∧ LInv (syncW d l).2.1 (syncW d l).2.2 all a init lst l.size) := by
  have hz : (bs (framesN lst)).size = l.size := by rw [bs_size, h.size]
  have hp : putF ⟨nameN (a + init.flatten.length), bs (framesN lst), l.size⟩ d.L = fulls a init ++ [⟨nameN (a + init.flatten.length), bs (framesN lst), l.size⟩] := by
    rw [h.files]
    exact put_last (f := ⟨nameN (a + init.flatten.length), bs (framesN lst), sb⟩) rfl h.below
  have hs : d.sync (nameN l.lastN) = if d.off then (143, d) else d.act (fulls a init ++ [⟨nameN (a + init.flatten.length), bs (framesN lst), l.size⟩]) := by
    unfold Dk.sync
    rw [h.find]
    simp only
    rw [hz, hp]
  have hok := h.ok.sync (nameN l.lastN)
  unfold syncW
  rw [hs] at hok ⊢
  by_cases ho : d.off = true
  · rw [if_pos ho]
    exact .inl ⟨rfl, rfl, h, ho⟩
  · rw [if_neg ho] at hok ⊢
    cases hr : d.refuses with
    | true => rw [act_no hr]; exact .inl ⟨rfl, rfl, h.gone, rfl⟩
    | false =>
      rw [act_go hr] at hok ⊢
      refine .inr ⟨rfl, rfl, ⟨rfl, h.nums, h.a1, h.recs, h.next, h.len, h.seg1, h.full, h.size, Nat.le_refl _, ?_, ?_, h.small, h.max, hok⟩⟩
      · have := h.len; show l.next - 1 + 1 ≤ l.next; omega
      · show (framesN (lst.take (l.next - 1 + 1 - (a + init.flatten.length)))).length ≤ l.size
        rw [h.size, List.take_of_length_le (by have := h.next; omega)]
        exact Nat.le_refl _
end Go.Proofs.YtnpgjlhnlakgpaaGreatDoor
namespace Go.Proofs.YtnpgjlhnlakgpaaGreatDoor

section
variable {d : Dk} {l : Lg} {all : List (List UInt8)} {a : Nat} {init : List (List (List UInt8))} {lst : List (List UInt8)} {sb : Nat}
/-- The Append of an Add. -/
theorem LInv.app (h : LInv d l all a init lst sb) (r : List UInt8) (hr : r.length ≤ 65536) (hm : l.next < 999999999999) :
    ((appW d l r).1 ≠ 0 ∧ (appW d l r).2.2 = l ∧ LInv (appW d l r).2.1 l all a init lst sb) ∨
    ((appW d l r).1 = 0 ∧ (appW d l r).2.2 = { l with size := l.size + (r.length + 12), next := l.next + 1 } ∧ LInv (appW d l r).2.1 (appW d l r).2.2 (all ++ [r]) a init (lst ++ [r]) sb) := by
  have hb : bs (framesN lst) ++ bs (frameN r) = bs (framesN (lst ++ [r])) := by rw [bs_append, framesN_app, framesN_cons, framesN_nil, List.append_nil]
  have hp : putF ⟨nameN (a + init.flatten.length), bs (framesN (lst ++ [r])), sb⟩ d.L = fulls a init ++ [⟨nameN (a + init.flatten.length), bs (framesN (lst ++ [r])), sb⟩] := by
    rw [h.files]
    exact put_last (f := ⟨nameN (a + init.flatten.length), bs (framesN lst), sb⟩) rfl h.below
  have hs : d.append (nameN l.lastN) (bs (frameN r)) = if d.off then (143, d) else if d.room - usedF d.L < (bs (frameN r)).size then (142, d) else d.act (fulls a init ++ [⟨nameN (a + init.flatten.length), bs (framesN (lst ++ [r])), sb⟩]) := by
    unfold Dk.append
    rw [h.find]
    simp only
    rw [hb, hp]
  have hok := h.ok.append (nameN l.lastN) (bs (frameN r))
  unfold appW
  rw [hs] at hok ⊢
  by_cases ho : d.off = true
  · rw [if_pos ho]
    exact .inl ⟨by simp, rfl, h⟩
  · rw [if_neg ho] at hok ⊢
    by_cases hroom : d.room - usedF d.L < (bs (frameN r)).size
    · rw [if_pos hroom]
      exact .inl ⟨by simp, rfl, h⟩
    · rw [if_neg hroom] at hok ⊢
      cases hf : d.refuses with
      | true => rw [act_no hf]; exact .inl ⟨by simp, rfl, h.gone⟩
      | false =>
        rw [act_go hf] at hok ⊢
        have hfl : (framesN (lst ++ [r])).length = l.size + (r.length + 12) := by rw [framesN_app, framesN_cons, framesN_nil, List.append_nil, List.length_append, frame_len, h.size]
        refine .inr ⟨rfl, rfl, ⟨rfl, h.nums, h.a1, ?_, ?_, ?_, h.seg1, h.full, hfl.symm, ?_, ?_, ?_, ?_, ?_, hok⟩⟩
        · rw [List.drop_append_of_le_length (by have := h.len; have := h.next; omega), h.recs, List.append_assoc]
        · have := h.next; show l.next + 1 = _; rw [List.length_append, List.length_singleton]; omega
        · have := h.len; show _ = l.next + 1; rw [List.length_append, List.length_singleton]; omega
        · have := h.sble; show sb ≤ l.size + _; omega
        · have := h.safe1; show l.safe + 1 ≤ l.next + 1; omega
        · have h1 := h.safe1
          have h2 := h.next
          show (framesN ((lst ++ [r]).take (l.safe + 1 - (a + init.flatten.length)))).length ≤ sb
          rw [List.take_append_of_le_length (by omega)]
          exact h.safe2
        · intro q hq
          rcases List.mem_append.1 hq with hq | hq
          · exact h.small q hq
          · rw [List.mem_singleton.1 hq]; exact hr
        · show l.next + 1 ≤ 999999999999; omega
/-- A segment more, behind a Sync. -/
theorem LInv.new (h : LInv d l all a init lst l.size) (hf : l.seg ≤ l.size) (hs : l.safe + 1 = l.next) :
    ((newW d l).1 ≠ 0 ∧ (newW d l).2.2 = l ∧ LInv (newW d l).2.1 l all a init lst l.size) ∨
    ((newW d l).1 = 0 ∧ (newW d l).2.2 = { l with nums := l.nums ++ [l.next], size := 0 } ∧ LInv (newW d l).2.1 (newW d l).2.2 all a (init ++ [lst]) [] 0) := by
  have hl1 : 1 ≤ lst.length := frames_pos (by have := h.seg1; have := h.size; omega)
  have hn := h.next
  have hfu : fulls a init ++ [⟨nameN (a + init.flatten.length), bs (framesN lst), l.size⟩] = fulls a (init ++ [lst]) := by
    rw [fulls_app, h.size]; rfl
  have hfl : a + (init ++ [lst]).flatten.length = l.next := by
    rw [List.flatten_append, List.length_append, List.flatten_cons, List.flatten_nil, List.append_nil]; omega
  have hbel : ∀ f ∈ fulls a (init ++ [lst]), bytesBefore f.key (nameL l.next) = true := by
    have := fulls_below a (init ++ [lst]) (fun rs hr => by
      rcases List.mem_append.1 hr with hr | hr
      · exact h.pos rs hr
      · rw [List.mem_singleton.1 hr]; exact hl1) (by have := h.max; omega)
    rwa [hfl] at this
  have hfind : findF (nameN l.next).data.toList d.L = none := by
    rw [h.files, hfu]
    exact find_none fun g hg => before_ne (hbel g hg)
  have hnm : namedB (nameN l.next) = true := by simp [namedB, nameN_size]
  have hp : putF ⟨nameN l.next, ByteArray.empty, 0⟩ d.L = fulls a (init ++ [lst]) ++ [⟨nameN l.next, ByteArray.empty, 0⟩] := by
    rw [h.files, hfu]
    exact put_behind (g := ⟨nameN l.next, ByteArray.empty, 0⟩) hbel
  have hc : d.create (nameN l.next) = if d.off then (143, d) else if 64 ≤ d.L.length then (2, d) else d.act (fulls a (init ++ [lst]) ++ [⟨nameN l.next, ByteArray.empty, 0⟩]) := by
    unfold Dk.create
    rw [hfind, hnm, hp]
    simp
  have hok := h.ok.create (nameN l.next)
  unfold newW
  rw [hc] at hok ⊢
  by_cases ho : d.off = true
  · rw [if_pos ho]; exact .inl ⟨by simp, rfl, h⟩
  · rw [if_neg ho] at hok ⊢
    by_cases hm : 64 ≤ d.L.length
    · rw [if_pos hm]; exact .inl ⟨by simp, rfl, h⟩
    · rw [if_neg hm] at hok ⊢
      cases hr : d.refuses with
      | true => rw [act_no hr]; exact .inl ⟨by simp, rfl, h.gone⟩
      | false =>
        rw [act_go hr] at hok ⊢
        refine .inr ⟨rfl, rfl, ⟨?_, ?_, h.a1, ?_, ?_, h.len, h.seg1, ?_, rfl, Nat.le_refl _, h.safe1, ?_, h.small, h.max, hok⟩⟩
        · rw [hfl]; rfl
        · rw [hfl, numsOf_app, h.nums, List.append_assoc]
          show numsOf a init ++ ([a + init.flatten.length] ++ [l.next]) = numsOf a init ++ [a + init.flatten.length] ++ [l.next]
          simp
        · rw [h.recs]; simp
        · rw [hfl]; simp
        · intro rs hrs
          rcases List.mem_append.1 hrs with hrs | hrs
          · exact h.full rs hrs
          · rw [List.mem_singleton.1 hrs, ← h.size]; exact hf
        · simp [framesN]
/-- Add. -/
theorem LInv.add (h : LInv d l all a init lst sb) (r : List UInt8) (hr : r.length ≤ 65536) (hm : l.next < 999999999999) :
    ∃ init' lst' sb', LInv (addW d l r).2.1 (addW d l r).2.2 (if (addW d l r).1 = 0 then all ++ [r] else all) a init' lst' sb' ∧ (addW d l r).2.2.seg = l.seg ∧ (addW d l r).2.2.next = l.next + (if (addW d l r).1 = 0 then 1 else 0) := by
  have c0 : ¬ (65536 < r.length ∨ 999999999999 < l.next) := by omega
  have fin : ∀ {d : Dk} {l1 : Lg} {init : List (List (List UInt8))} {lst : List (List UInt8)} {sb : Nat}, LInv d l1 all a init lst sb → l1.seg = l.seg → l1.next = l.next →
      ∃ init' lst' sb', LInv (appW d l1 r).2.1 (appW d l1 r).2.2 (if (appW d l1 r).1 = 0 then all ++ [r] else all) a init' lst' sb' ∧ (appW d l1 r).2.2.seg = l.seg ∧ (appW d l1 r).2.2.next = l.next + (if (appW d l1 r).1 = 0 then 1 else 0) := by
    intro d l1 init lst sb h1 hseg hnext
    rcases h1.app r hr (by omega) with ⟨e1, e2, e3⟩ | ⟨e1, e2, e3⟩
    · rw [if_neg e1, if_neg e1, e2]
      exact ⟨_, _, _, e3, hseg, hnext⟩
    · rw [if_pos e1, if_pos e1]
      refine ⟨_, _, _, e3, ?_, ?_⟩
      · rw [e2]; exact hseg
      · rw [e2]; show l1.next + 1 = _; rw [hnext]
  unfold addW
  rw [if_neg c0]
  by_cases hf : l.seg ≤ l.size
  · rw [if_pos hf]
    rcases h.sync with ⟨e1, e2, e3, _⟩ | ⟨e1, e2, e3⟩
    · have hne : ¬ (syncW d l).1 = 0 := by rw [e1]; decide
      rw [if_neg hne, if_neg hne, if_neg hne, e2]
      exact ⟨_, _, _, e3, rfl, rfl⟩
    · rw [if_pos e1]
      have hsz : (syncW d l).2.2.size = l.size := by rw [e2]
      have hse : (syncW d l).2.2.seg = l.seg := by rw [e2]
      have hne : (syncW d l).2.2.next = l.next := by rw [e2]
      have hsa : (syncW d l).2.2.safe + 1 = l.next := by
        rw [e2]; show l.next - 1 + 1 = l.next
        have := h.len; omega
      rw [← hsz] at e3
      rcases e3.new (by omega) (by omega) with ⟨n1, n2, n3⟩ | ⟨n1, n2, n3⟩
      · rw [if_neg n1, if_neg n1, if_neg n1, n2]
        exact ⟨_, _, _, n3, hse, hne⟩
      · rw [if_pos n1]
        exact fin n3 (by rw [n2]; exact hse) (by rw [n2]; exact hne)
  · rw [if_neg hf]
    exact fin h rfl rfl

/-! ### Trim -/
theorem del_first {x : Fl} {X : List Fl} (h : ∀ y ∈ X, bytesBefore x.key y.key = true) : delF x.key (x :: X) = X ∧ findF x.key (x :: X) = some x := by
  constructor
  · unfold delF
    rw [List.filter_cons]
    simp only [beq_self_eq_true, Bool.not_true, Bool.false_eq_true, if_false]
    exact List.filter_eq_self.2 fun y hy => by have := before_ne (h y hy); simpa using Ne.symm this
  · unfold findF; simp
theorem LInv.trim1 {rs : List (List UInt8)} {t : List (List (List UInt8))} (h : LInv d l all a (rs :: t) lst sb) :
    ((d.remove (nameN a)).1 ≠ 0 ∧ LInv (d.remove (nameN a)).2 l all a (rs :: t) lst sb ∧ ((d.off = false → d.armed = false → False))) ∨
    ((d.remove (nameN a)).1 = 0 ∧ LInv (d.remove (nameN a)).2 { l with nums := l.nums.tail } all (a + rs.length) t lst sb ∧ (d.remove (nameN a)).2.off = d.off ∧ (d.remove (nameN a)).2.armed = d.armed ∧ (d.remove (nameN a)).2.room = d.room) := by
  have hrise := h.ok.rise
  have hL : d.L = ⟨nameN a, bs (framesN rs), (framesN rs).length⟩ :: (fulls (a + rs.length) t ++ [⟨nameN (a + rs.length + t.flatten.length), bs (framesN lst), sb⟩]) := by
    rw [h.files]; simp [fulls, Nat.add_assoc]
  rw [hL] at hrise
  obtain ⟨f1, f2⟩ := del_first (x := ⟨nameN a, bs (framesN rs), (framesN rs).length⟩) (List.pairwise_cons.1 hrise).1
  have hc : d.remove (nameN a) = if d.off then (143, d) else d.act (fulls (a + rs.length) t ++ [⟨nameN (a + rs.length + t.flatten.length), bs (framesN lst), sb⟩]) := by
    unfold Dk.remove
    rw [hL, show (nameN a).data.toList = (Fl.mk (nameN a) (bs (framesN rs)) (framesN rs).length).key from rfl, f2, f1]
  have hok := h.ok.remove (nameN a)
  rw [hc] at hok ⊢
  by_cases ho : d.off = true
  · rw [if_pos ho]; exact .inl ⟨by simp, h, fun h1 => by rw [h1] at ho; cases ho⟩
  · rw [if_neg ho] at hok ⊢
    cases hr : d.refuses with
    | true =>
      rw [act_no hr]
      exact .inl ⟨by simp, h.gone, fun _ h2 => by simp [Dk.refuses, h2] at hr⟩
    | false =>
      rw [act_go hr] at hok ⊢
      have e := h.next
      have hpos := h.pos rs (by simp)
      simp only [List.flatten_cons, List.length_append] at e
      refine .inr ⟨rfl, ⟨rfl, ?_, ?_, ?_, ?_, h.len, h.seg1, fun q hq => h.full q (by simp [hq]), h.size, h.sble, h.safe1, ?_, h.small, h.max, hok⟩, rfl, rfl, rfl⟩
      · show l.nums.tail = _
        rw [h.nums]; simp [numsOf, Nat.add_assoc]
      · have := h.a1; omega
      · have := h.recs
        have h2 : (all.drop (a - 1)).drop rs.length = t.flatten ++ lst := by rw [this]; simp
        rw [List.drop_drop] at h2
        rw [← h2]
        congr 1
        have := h.a1; omega
      · show l.next = _; omega
      · have h2 := h.safe2
        simp only [List.flatten_cons, List.length_append] at h2
        rw [← Nat.add_assoc] at h2
        exact h2
/-- The numbers begin so. -/
theorem nums_two (a : Nat) (rs : List (List UInt8)) (t : List (List (List UInt8))) (q : Nat) (hq : q = a + (rs :: t).flatten.length) : ∃ rest, numsOf a (rs :: t) ++ [q] = a :: (a + rs.length) :: rest ∧ numsOf (a + rs.length) t ++ [q] = (a + rs.length) :: rest := by
  cases t with
  | nil => exact ⟨[], by subst hq; simp [numsOf], by subst hq; simp [numsOf]⟩
  | cons rs' t => exact ⟨numsOf (a + rs.length + rs'.length) t ++ [q], by simp [numsOf], by simp [numsOf]⟩
/-- What a Trim does: the log stands; its first number does not sink, and what is gone had numbers up to n. -/
theorem LInv.trim (n : Int) : ∀ (init : List (List (List UInt8))) {d : Dk} {l : Lg} {a : Nat}, LInv d l all a init lst sb →
    ∃ a' init', LInv (trimN n d l.nums).2.1 { l with nums := (trimN n d l.nums).2.2 } all a' init' lst sb ∧ a ≤ a' ∧ (a < a' → (a' : Int) - 1 ≤ n) ∧
      (d.off = false → d.armed = false → (trimN n d l.nums).1 = 0 ∧ (trimN n d l.nums).2.1.off = false ∧ (trimN n d l.nums).2.1.armed = false) ∧ (trimN n d l.nums).2.1.room = d.room
  | [], d, l, a, h => by
    have hn : l.nums = [a + ([] : List (List (List UInt8))).flatten.length] := by rw [h.nums]; rfl
    have e : trimN n d l.nums = (0, d, l.nums) := by rw [hn]; rfl
    rw [e]
    exact ⟨a, [], h, Nat.le_refl _, fun h => by omega, fun h1 h2 => ⟨rfl, h1, h2⟩, rfl⟩
  | rs :: t, d, l, a, h => by
    obtain ⟨rest, e1, e2⟩ := nums_two a rs t _ rfl
    rw [← h.nums] at e1
    have e : trimN n d l.nums = if ((a + rs.length : Nat) : Int) - 1 ≤ n then (if (d.remove (nameN a)).1 = 0 then trimN n (d.remove (nameN a)).2 ((a + rs.length) :: rest) else ((d.remove (nameN a)).1, (d.remove (nameN a)).2, l.nums)) else (0, d, l.nums) := by rw [e1]; rfl
    rw [e]
    by_cases hc : ((a + rs.length : Nat) : Int) - 1 ≤ n
    · rw [if_pos hc]
      rcases h.trim1 with ⟨r1, r2, r3⟩ | ⟨r1, r2, r3, r4, r5⟩
      · rw [if_neg r1]
        exact ⟨a, _, r2, Nat.le_refl _, fun h => by omega, fun h1 h2 => (r3 h1 h2).elim, by unfold Dk.remove Dk.act; (repeat' split) <;> rfl⟩
      · rw [if_pos r1]
        obtain ⟨a', init', i1, i2, i3, i4, i5⟩ := LInv.trim n t r2
        have et : ({ l with nums := l.nums.tail } : Lg).nums = (a + rs.length) :: rest := by show l.nums.tail = _; rw [e1]; rfl
        rw [et] at i1 i4 i5
        refine ⟨a', init', i1, by omega, fun _ => ?_, fun h1 h2 => i4 (r3.trans h1) (r4.trans h2), i5.trans r5⟩
        by_cases hq : a + rs.length < a'
        · exact i3 hq
        · have : a' = a + rs.length := by omega
          rw [this]; exact hc
    · rw [if_neg hc]
      exact ⟨a, _, h, Nat.le_refl _, fun h => by omega, fun h1 h2 => ⟨rfl, h1, h2⟩, rfl⟩

/-! ### Read -/
theorem read_at {L : List Fl} {n : Nat} {b : ByteArray} {s : Nat} (ho : d.off = false) (hL : d.L = L) (hf : findF (nameL n) L = some ⟨nameN n, b, s⟩) : d.read (nameN n) = (b, 0) := by
  unfold Dk.read
  rw [hL, show (nameN n).data.toList = nameL n from rfl, hf, ho]
  rfl
theorem bs_data' (l : List UInt8) : (bs l).data.toList = l := rfl
theorem read_all (ho : d.off = false) (fr next : Nat) : ∀ (init : List (List (List UInt8))) (a : Nat) (out : List (List UInt8)) (Y : List Fl) (s : Nat),
    d.L = Y ++ (fulls a init ++ [⟨nameN (a + init.flatten.length), bs (framesN lst), s⟩]) → Rising d.L → (∀ r ∈ init.flatten ++ lst, r.length ≤ 65536) → next = a + init.flatten.length + lst.length → fr ≤ next →
    readN d fr next out (numsOf a init ++ [a + init.flatten.length]) = (out ++ (init.flatten ++ lst).drop (fr - a), 0)
  | [], a, out, Y, s, hL, hr, hs, hn, hf => by
    simp only [List.flatten_nil, List.length_nil, Nat.add_zero, fulls, numsOf, List.nil_append] at hL hn hs ⊢
    have hfi : findF (nameL a) d.L = some ⟨nameN a, bs (framesN lst), s⟩ := find_of_idx hr (i := Y.length) (g := ⟨nameN a, bs (framesN lst), s⟩) (by rw [hL]; simp)
    rw [show readN d fr next out [a] = if next ≤ fr then (out, 0) else if (d.read (nameN a)).2 = 0 then (out ++ (scanF (d.read (nameN a)).1.data.toList).1.drop (fr - a), 0) else ([], (d.read (nameN a)).2) from rfl]
    by_cases hc : next ≤ fr
    · rw [if_pos hc, List.drop_eq_nil_of_le (by omega), List.append_nil]
    · rw [if_neg hc, read_at ho rfl hfi, if_pos rfl, bs_data']
      have := scan_frames lst [] hs
      rw [List.append_nil, scan_nil] at this
      rw [this]
      simp
  | rs :: t, a, out, Y, s, hL, hr, hs, hn, hf => by
    obtain ⟨rest, e1, e2⟩ := nums_two a rs t _ rfl
    have hfi : findF (nameL a) d.L = some ⟨nameN a, bs (framesN rs), (framesN rs).length⟩ := find_of_idx hr (i := Y.length) (g := ⟨nameN a, bs (framesN rs), (framesN rs).length⟩) (by rw [hL]; simp [fulls])
    have hq : a + (rs :: t).flatten.length = a + rs.length + t.flatten.length := by simp [Nat.add_assoc]
    have ih := fun out => read_all ho fr next t (a + rs.length) out (Y ++ [⟨nameN a, bs (framesN rs), (framesN rs).length⟩]) s (by rw [hL, hq]; simp [fulls]) hr (fun r h => hs r (by rw [List.flatten_cons, List.append_assoc]; exact List.mem_append_right _ h)) (by rw [hn, hq]) hf
    rw [← hq, e2] at ih
    rw [e1]
    rw [show readN d fr next out (a :: (a + rs.length) :: rest) = if a + rs.length ≤ fr then readN d fr next out ((a + rs.length) :: rest) else if (d.read (nameN a)).2 = 0 then readN d fr next (out ++ (scanF (d.read (nameN a)).1.data.toList).1.drop (fr - a)) ((a + rs.length) :: rest) else ([], (d.read (nameN a)).2) from rfl]
    by_cases hc : a + rs.length ≤ fr
    · have hd : (rs ++ (t.flatten ++ lst)).drop (fr - a) = (t.flatten ++ lst).drop (fr - (a + rs.length)) := by
        rw [show fr - a = rs.length + (fr - (a + rs.length)) by omega, ← List.drop_drop, List.drop_left]
      rw [if_pos hc, ih, List.flatten_cons, List.append_assoc, hd]
    · rw [if_neg hc, read_at ho rfl hfi, if_pos rfl, bs_data']
      have := scan_frames rs [] (fun r h => hs r (by simp [h]))
      rw [List.append_nil, scan_nil] at this
      rw [this, ih]
      simp only [List.append_nil, List.flatten_cons, List.append_assoc]
      rw [show fr - (a + rs.length) = 0 by omega, List.drop_zero, List.drop_append_of_le_length (by omega)]
theorem LInv.read (h : LInv d l all a init lst sb) (ho : d.off = false) (fr : Nat) (h1 : a ≤ fr) (h2 : fr ≤ l.next) : readN d fr l.next [] l.nums = (all.drop (fr - 1), 0) := by
  rw [h.nums, read_all ho fr l.next init a [] [] sb (by rw [h.files]; rfl) h.ok.rise (fun r hr => h.small r (List.mem_of_mem_drop (by rw [h.recs]; exact hr))) h.next h2, ← h.recs, List.drop_drop]
  simp only [List.nil_append, Prod.mk.injEq, and_true]
  congr 1
  have := h.a1; omega
end
end Go.Proofs.YtnpgjlhnlakgpaaGreatDoor
namespace Go.Proofs.YtnpgjlhnlakgpaaGreatDoor

section
variable {d : Dk} {l : Lg} {all : List (List UInt8)} {a : Nat} {init : List (List (List UInt8))} {lst : List (List UInt8)} {sb : Nat}
theorem used_app : ∀ (A B : List Fl), usedF (A ++ B) = usedF A + usedF B := fun A B => by simp [usedF]
theorem used_fulls : ∀ (a : Nat) (x : List (List (List UInt8))), usedF (fulls a x) = (framesN x.flatten).length
  | _, [] => rfl
  | a, rs :: t => by
    have h := used_fulls (a + rs.length) t
    simp only [fulls, List.flatten_cons, framesN_app, List.length_append, usedF, List.map_cons, List.sum_cons, bs_size] at h ⊢
    omega
theorem frames_le : ∀ (l : List (List UInt8)), (∀ r ∈ l, r.length ≤ 1000) → (framesN l).length ≤ 1012 * l.length
  | [], _ => by simp [framesN]
  | r :: l, h => by
    have h1 := h r (by simp)
    have h2 := frames_le l (fun q hq => h q (by simp [hq]))
    rw [framesN_cons, List.length_append, frame_len, List.length_cons]
    omega
theorem LInv.used (h : LInv d l all a init lst sb) (hs : ∀ r ∈ all, r.length ≤ 1000) : usedF d.L ≤ 1012 * all.length := by
  rw [h.files, used_app, used_fulls]
  have e : usedF [(⟨nameN (a + init.flatten.length), bs (framesN lst), sb⟩ : Fl)] = (framesN lst).length := by simp [usedF, bs_size]
  rw [e, ← List.length_append, ← framesN_app, ← h.recs]
  have h1 := frames_le (all.drop (a - 1)) (fun r hr => hs r (List.mem_of_mem_drop hr))
  have h2 : (all.drop (a - 1)).length ≤ all.length := by rw [List.length_drop]; omega
  have : 1012 * (all.drop (a - 1)).length ≤ 1012 * all.length := Nat.mul_le_mul_left _ h2
  omega
theorem flatten_ge : ∀ (x : List (List (List UInt8))), (∀ rs ∈ x, 1 ≤ rs.length) → x.length ≤ x.flatten.length
  | [], _ => Nat.zero_le _
  | rs :: t, h => by
    have h1 := h rs (by simp)
    have h2 := flatten_ge t (fun q hq => h q (by simp [hq]))
    simp only [List.length_cons, List.flatten_cons, List.length_append]
    omega
theorem fulls_length : ∀ (a : Nat) (x : List (List (List UInt8))), (fulls a x).length = x.length
  | _, [] => rfl
  | a, rs :: t => by simp [fulls, fulls_length (a + rs.length) t]
theorem LInv.count (h : LInv d l all a init lst sb) : d.L.length ≤ all.length + 1 := by
  have h1 := flatten_ge init h.pos
  have h2 := h.next
  have h3 := h.len
  have h4 := h.a1
  rw [h.files, List.length_append, fulls_length, List.length_singleton]
  omega
/-- The power stays. -/
structure Calm (d : Dk) : Prop where
  off : d.off = false
  armed : d.armed = false
  room : d.room = 1048576
theorem Calm.go (c : Calm d) (L : List Fl) : d.act L = (0, { d.stepped with L := L }) ∧ Calm { d.stepped with L := L } :=
  ⟨act_go (by simp [Dk.refuses, c.armed]), ⟨c.off, c.armed, c.room⟩⟩
theorem LInv.sync_calm (h : LInv d l all a init lst sb) (c : Calm d) : (syncW d l).1 = 0 ∧ Calm (syncW d l).2.1 := by
  have e : ∃ L, d.sync (nameN l.lastN) = d.act L := by
    unfold Dk.sync
    rw [h.find, c.off]
    exact ⟨_, rfl⟩
  obtain ⟨L, e⟩ := e
  unfold syncW
  rw [e, (c.go L).1]
  exact ⟨rfl, (c.go L).2⟩
theorem LInv.app_calm (h : LInv d l all a init lst sb) (c : Calm d) (r : List UInt8) (hr : r.length + 12 ≤ 1048576 - usedF d.L) : (appW d l r).1 = 0 ∧ Calm (appW d l r).2.1 := by
  have e : ∃ L, d.append (nameN l.lastN) (bs (frameN r)) = d.act L := by
    unfold Dk.append
    rw [h.find, c.off, if_neg (by decide)]
    simp only
    rw [if_neg (by rw [bs_size, frame_len, c.room]; omega)]
    exact ⟨_, rfl⟩
  obtain ⟨L, e⟩ := e
  unfold appW
  rw [e, (c.go L).1]
  exact ⟨rfl, (c.go L).2⟩
theorem LInv.new_calm (h : LInv d l all a init lst l.size) (c : Calm d) (hf : l.seg ≤ l.size) (hs : l.safe + 1 = l.next) (hm : d.L.length < 64) : (newW d l).1 = 0 ∧ Calm (newW d l).2.1 := by
  have hi := h.new hf hs
  have e : (d.create (nameN l.next)).1 ≠ 0 → (d.create (nameN l.next)).1 = 141 := by
    unfold Dk.create
    rw [c.off, if_neg (by decide), if_neg (by simp [namedB, nameN_size])]
    split
    · intro _; rfl
    · rw [if_neg (by omega), (c.go _).1]
      intro h; exact absurd rfl h
  have e2 : (d.create (nameN l.next)).1 = 0 → Calm (d.create (nameN l.next)).2 := by
    unfold Dk.create
    rw [c.off, if_neg (by decide), if_neg (by simp [namedB, nameN_size])]
    split
    · intro h; cases h
    · rw [if_neg (by omega), (c.go _).1]
      intro _; exact (c.go _).2
  by_cases h0 : (d.create (nameN l.next)).1 = 0
  · unfold newW
    rw [if_pos h0]
    exact ⟨rfl, e2 h0⟩
  · exfalso
    have hn : (findF (nameN l.next).data.toList d.L).isSome = true := by
      have h1 := e h0
      unfold Dk.create at h1
      rw [c.off, if_neg (by decide), if_neg (by simp [namedB, nameN_size])] at h1
      split at h1
      · assumption
      · rw [if_neg (by omega), (c.go _).1] at h1; cases h1
    rcases hi with ⟨n1, n2, n3⟩ | ⟨n1, n2, n3⟩
    · obtain ⟨f, hf'⟩ := Option.isSome_iff_exists.1 hn
      have hk := findF_key hf'
      have hm' := findF_mem hf'
      rw [h.files] at hm'
      have hnx := h.next
      have hmx := h.max
      have hl1 : 1 ≤ lst.length := frames_pos (by have := h.seg1; have := h.size; omega)
      rcases List.mem_append.1 hm' with hq | hq
      · have := h.below f hq
        rw [hk] at this
        have h2 := name_lt (a := a + init.flatten.length) (b := l.next) (by omega) (by omega)
        exact before_asymm h2 this
      · rw [List.mem_singleton.1 hq] at hk
        have := name_inj (by omega) (by omega) hk
        omega
    · unfold newW at n1
      rw [if_neg h0] at n1
      exact h0 n1
theorem LInv.add_calm (h : LInv d l all a init lst sb) (c : Calm d) (r : List UInt8) (hr : r.length ≤ 1000) (hs : ∀ q ∈ all, q.length ≤ 1000) (hn : all.length < 60) : (addW d l r).1 = 0 ∧ Calm (addW d l r).2.1 := by
  have hlen := h.len
  have c0 : ¬ (65536 < r.length ∨ 999999999999 < l.next) := by omega
  unfold addW
  rw [if_neg c0]
  by_cases hf : l.seg ≤ l.size
  · rw [if_pos hf]
    obtain ⟨s1, s2⟩ := h.sync_calm c
    rcases h.sync with ⟨e1, _⟩ | ⟨_, e2, e3⟩
    · rw [s1] at e1; cases e1
    rw [if_pos s1]
    have hsz : (syncW d l).2.2.size = l.size := by rw [e2]
    have hse : (syncW d l).2.2.seg = l.seg := by rw [e2]
    have hne : (syncW d l).2.2.next = l.next := by rw [e2]
    have hsa : (syncW d l).2.2.safe + 1 = l.next := by rw [e2]; show l.next - 1 + 1 = l.next; omega
    rw [← hsz] at e3
    obtain ⟨n1, n2⟩ := e3.new_calm s2 (by omega) (by omega) (by have := e3.count; omega)
    rcases e3.new (by omega) (by omega) with ⟨m1, _⟩ | ⟨_, _, m3⟩
    · exact absurd n1 m1
    rw [if_pos n1]
    exact m3.app_calm n2 r (by have := m3.used hs; omega)
  · rw [if_neg hf]
    exact h.app_calm c r (by have := h.used hs; omega)
end
end Go.Proofs.YtnpgjlhnlakgpaaGreatDoor
namespace Go.Proofs.YtnpgjlhnlakgpaaGreatDoor

section
variable {d : Dk} {l : Lg} {all : List (List UInt8)} {a : Nat} {init : List (List (List UInt8))} {lst : List (List UInt8)} {sb : Nat}
/-- A file of a log's: its name, its records, how safe. -/
theorem fulls_at : ∀ (x : List (List (List UInt8))) (a j : Nat) (p : List (List UInt8)), x[j]? = some p → (fulls a x)[j]? = some ⟨nameN (a + (x.take j).flatten.length), bs (framesN p), (framesN p).length⟩
  | [], _, _, _, h => by simp at h
  | rs :: t, a, 0, p, h => by simp at h; subst h; simp [fulls]
  | rs :: t, a, j + 1, p, h => by
    have := fulls_at t (a + rs.length) j p (by simpa using h)
    simp only [fulls, List.getElem?_cons_succ, List.take_succ_cons, List.flatten_cons, List.length_append]
    rw [← Nat.add_assoc]
    exact this
theorem LInv.file (h : LInv d l all a init lst sb) (j : Nat) (p : List (List UInt8)) (hp : (init ++ [lst])[j]? = some p) :
    ∃ s, d.L[j]? = some ⟨nameN (a + ((init ++ [lst]).take j).flatten.length), bs (framesN p), s⟩ ∧ (j < init.length → s = (framesN p).length ∧ l.seg ≤ (framesN p).length) ∧ (∀ r ∈ p, r.length ≤ 65536) := by
  have hsm : ∀ r ∈ init.flatten ++ lst, r.length ≤ 65536 := fun r hr => h.small r (List.mem_of_mem_drop (by rw [h.recs]; exact hr))
  by_cases hj : j < init.length
  · rw [List.getElem?_append_left hj] at hp
    refine ⟨(framesN p).length, ?_, fun _ => ⟨rfl, h.full p (List.mem_of_getElem? hp)⟩, fun r hr => hsm r (List.mem_append_left _ (List.mem_flatten.2 ⟨p, List.mem_of_getElem? hp, hr⟩))⟩
    rw [h.files, List.getElem?_append_left (by rw [fulls_length]; exact hj), fulls_at init a j p hp, List.take_append_of_le_length (by omega)]
  · have hj2 : j = init.length := by
      have := (List.getElem?_eq_some_iff.1 hp).1
      simp at this
      omega
    subst hj2
    rw [List.getElem?_append_right (Nat.le_refl _)] at hp
    simp at hp
    subst hp
    refine ⟨sb, ?_, fun h => absurd h hj, fun r hr => hsm r (List.mem_append_right _ hr)⟩
    rw [h.files, List.getElem?_append_right (by rw [fulls_length]; omega), fulls_length, Nat.sub_self, List.take_left]
    rfl
theorem LInv.many (h : LInv d l all a init lst sb) : d.L.length = init.length + 1 ∧ init.length < 64 ∧ l.nums.length = init.length + 1 := by
  have h1 := h.ok.many
  have h2 : ∀ (x : List (List (List UInt8))) (a : Nat), (numsOf a x).length = x.length := fun x => by
    induction x with
    | nil => intro _; rfl
    | cons rs t ih => intro a; simp [numsOf, ih]
  rw [h.files, List.length_append, fulls_length, List.length_singleton] at h1
  exact ⟨by rw [h.files, List.length_append, fulls_length, List.length_singleton], by omega, by rw [h.nums, List.length_append, h2, List.length_singleton]⟩
theorem LInv.total (h : LInv d l all a init lst sb) : a + (init ++ [lst]).flatten.length = l.next := by
  rw [h.next, List.flatten_append, List.length_append, List.flatten_cons, List.flatten_nil, List.append_nil, Nat.add_assoc]
theorem LInv.bytes (h : LInv d l all a init lst sb) : l.size ≤ 4194304 := by
  have h1 := h.ok.used
  have h2 := h.ok.room
  rw [h.files, used_app] at h1
  have e : usedF [(⟨nameN (a + init.flatten.length), bs (framesN lst), sb⟩ : Fl)] = (framesN lst).length := by simp [usedF, bs_size]
  rw [e, ← h.size] at h1
  omega
/-- The start: a log without a record. -/
theorem LInv.start {room : Nat} {seg : Nat} (hr : room ≤ 4194304) (h1 : 1 ≤ seg) : ((Dk.new room).create (nameN 1)).1 = 0 ∧ LInv ((Dk.new room).create (nameN 1)).2 ⟨seg, [1], 0, 1, 0⟩ [] 1 [] [] 0 ∧
    ((Dk.new room).create (nameN 1)).2.off = false ∧ ((Dk.new room).create (nameN 1)).2.armed = false ∧ ((Dk.new room).create (nameN 1)).2.room = room ∧ ((Dk.new room).create (nameN 1)).2.steps = 1 := by
  have hok := (Dk.Ok.new hr).create (nameN 1)
  have e : (Dk.new room).create (nameN 1) = (0, { (Dk.new room).stepped with L := [⟨nameN 1, ByteArray.empty, 0⟩] }) := by
    unfold Dk.create
    rw [if_neg (by simp [Dk.new]), if_neg (by simp [namedB, nameN_size]), if_neg (by simp [Dk.new, findF]), if_neg (by simp [Dk.new])]
    rw [act_go (by simp [Dk.refuses, Dk.new])]
    rfl
  rw [e] at hok ⊢
  exact ⟨rfl, ⟨rfl, rfl, Nat.le_refl _, rfl, rfl, rfl, h1, by simp, rfl, Nat.le_refl _, Nat.le_refl _, by simp [framesN], by simp, by show (1 : Nat) ≤ _; omega, hok⟩, rfl, rfl, rfl, rfl⟩
theorem syncW_seg (d : Dk) (l : Lg) : (syncW d l).2.2.seg = l.seg ∧ (syncW d l).2.2.nums = l.nums ∧ (syncW d l).2.2.next = l.next := by
  unfold syncW
  split <;> exact ⟨rfl, rfl, rfl⟩
theorem act_steps (d : Dk) (L : List Fl) : (d.act L).2.steps ≤ d.steps + 1 := by
  unfold Dk.act
  split
  · show d.steps ≤ _; omega
  · show d.steps + 1 ≤ _; omega
theorem sync_st (d : Dk) (nm : ByteArray) : (d.sync nm).2.steps ≤ d.steps + 1 := by
  unfold Dk.sync
  split
  · show d.steps ≤ _; omega
  · split
    · show d.steps ≤ _; omega
    · exact act_steps _ _
theorem create_st (d : Dk) (nm : ByteArray) : (d.create nm).2.steps ≤ d.steps + 1 := by
  unfold Dk.create
  repeat' split
  all_goals first | (show d.steps ≤ _; omega) | exact act_steps _ _
theorem append_st (d : Dk) (nm b : ByteArray) : (d.append nm b).2.steps ≤ d.steps + 1 := by
  unfold Dk.append
  repeat' split
  all_goals first | (show d.steps ≤ _; omega) | exact act_steps _ _
theorem remove_st (d : Dk) (nm : ByteArray) : (d.remove nm).2.steps ≤ d.steps + 1 := by
  unfold Dk.remove
  repeat' split
  all_goals first | (show d.steps ≤ _; omega) | exact act_steps _ _
theorem syncW_st (d : Dk) (l : Lg) : (syncW d l).2.1.steps ≤ d.steps + 1 := by
  unfold syncW
  split <;> exact sync_st _ _
theorem newW_st (d : Dk) (l : Lg) : (newW d l).2.1.steps ≤ d.steps + 1 := by
  unfold newW
  split <;> exact create_st _ _
theorem appW_st (d : Dk) (l : Lg) (r : List UInt8) : (appW d l r).2.1.steps ≤ d.steps + 1 := by
  unfold appW
  split <;> exact append_st _ _ _
theorem addW_st (d : Dk) (l : Lg) (r : List UInt8) : (addW d l r).2.1.steps ≤ d.steps + 3 := by
  have h1 := syncW_st d l
  have h2 := newW_st (syncW d l).2.1 (syncW d l).2.2
  have h3 := appW_st (newW (syncW d l).2.1 (syncW d l).2.2).2.1 (newW (syncW d l).2.1 (syncW d l).2.2).2.2 r
  have h4 := appW_st d l r
  unfold addW
  repeat' split
  all_goals first | (show d.steps ≤ _; omega) | omega
theorem trimN_st (n : Int) : ∀ (nums : List Nat) (d : Dk), (trimN n d nums).2.1.steps ≤ d.steps + nums.length
  | [], d => Nat.le_refl _
  | [a], d => by show d.steps ≤ _; omega
  | a :: b :: t, d => by
    have h1 := remove_st d (nameN a)
    have h2 := trimN_st n (b :: t) (d.remove (nameN a)).2
    simp only [List.length_cons] at h2 ⊢
    unfold trimN
    split
    · split
      · omega
      · show (d.remove (nameN a)).2.steps ≤ _; omega
    · show d.steps ≤ _; omega
end
end Go.Proofs.YtnpgjlhnlakgpaaGreatDoor

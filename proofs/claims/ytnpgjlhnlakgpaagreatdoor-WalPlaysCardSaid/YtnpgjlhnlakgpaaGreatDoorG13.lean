/- The document's log beside the program's, each on a disk of its own: plain. Both logs stand alike, and every call of both leaves them so: plain. Both logs read alike, and are opened alike: plain. -/
import Derived.Test.YtnpgjlhnlakgpaaGreatDoorG10
import Derived.Test.YtnpgjlhnlakgpaaGreatDoorG01
namespace Go.Proofs.YtnpgjlhnlakgpaaGreatDoor
open Go.Lib

/-- The document's log. -/
structure Rg where
  seg : Nat
  nums : List Nat
  all : List (List UInt8)
  last : Nat
def Rg.first (r : Rg) : Nat := r.nums.headD 0
def Rg.next (r : Rg) : Nat := r.first + r.all.length
def Rg.lastN (r : Rg) : Nat := r.nums.getLastD 0
def rsyncW (d : Dk) (r : Rg) : Int × Dk × Rg :=
  if (d.sync (nameN r.lastN)).1 = 0 then (0, (d.sync (nameN r.lastN)).2, { r with last := r.next - 1 }) else ((d.sync (nameN r.lastN)).1, (d.sync (nameN r.lastN)).2, r)
def rappW (d : Dk) (r : Rg) (x : List UInt8) : Int × Dk × Rg :=
  if (d.append (nameN r.lastN) (bs (frameN x))).1 = 0 then (0, (d.append (nameN r.lastN) (bs (frameN x))).2, { r with all := r.all ++ [x] })
  else ((d.append (nameN r.lastN) (bs (frameN x))).1, (d.append (nameN r.lastN) (bs (frameN x))).2, r)
def rnewW (d : Dk) (r : Rg) : Int × Dk × Rg :=
  if (d.create (nameN r.next)).1 = 0 then (0, (d.create (nameN r.next)).2, { r with nums := r.nums ++ [r.next] }) else ((d.create (nameN r.next)).1, (d.create (nameN r.next)).2, r)
def raddW (d : Dk) (r : Rg) (x : List UInt8) : Int × Dk × Rg :=
  if 65536 < x.length ∨ 999999999999 < r.next then (2, d, r)
  else if (d.read (nameN r.lastN)).2 = 0 then
    if r.seg ≤ (d.read (nameN r.lastN)).1.size then
      if (rsyncW d r).1 = 0 then
        if (rnewW (rsyncW d r).2.1 (rsyncW d r).2.2).1 = 0 then rappW (rnewW (rsyncW d r).2.1 (rsyncW d r).2.2).2.1 (rnewW (rsyncW d r).2.1 (rsyncW d r).2.2).2.2 x
        else rnewW (rsyncW d r).2.1 (rsyncW d r).2.2
      else rsyncW d r
    else rappW d r x
  else ((d.read (nameN r.lastN)).2, d, r)
def rtrimN (n : Int) : Dk → List Nat → List (List UInt8) → Int × Dk × List Nat × List (List UInt8)
  | d, a :: b :: t, all => if (b : Int) - 1 ≤ n then
      if (d.remove (nameN a)).1 = 0 then rtrimN n (d.remove (nameN a)).2 (b :: t) (all.drop (b - a)) else ((d.remove (nameN a)).1, (d.remove (nameN a)).2, a :: b :: t, all)
    else (0, d, a :: b :: t, all)
  | d, l, all => (0, d, l, all)
def rtrimW (d : Dk) (r : Rg) (n : Int) : Int × Dk × Rg := ((rtrimN n d r.nums r.all).1, (rtrimN n d r.nums r.all).2.1, { r with nums := (rtrimN n d r.nums r.all).2.2.1, all := (rtrimN n d r.nums r.all).2.2.2 })
/-- Read from a number on that may be. -/
def rreadW (d : Dk) (r : Rg) (fr : Nat) : List (List UInt8) × Int := if d.off = true ∧ fr < r.next then ([], 143) else (r.all.drop (fr - r.first), 0)
/-- All segments looked at by the document. -/
def rrecN (d : Dk) : List (List UInt8) → Nat → List Nat → Int × List (List UInt8) × Nat
  | all, wh, [] => (0, all, wh)
  | all, wh, n :: t =>
    if (t ≠ [] ∧ ((scanF (d.read (nameN n)).1.data.toList).2 ≠ (d.read (nameN n)).1.size ∨ t.headD 0 ≠ n + (scanF (d.read (nameN n)).1.data.toList).1.length)) ∨
       (t = [] ∧ 999999999999 + 1 < n + (scanF (d.read (nameN n)).1.data.toList).1.length) then
      (150, all ++ (scanF (d.read (nameN n)).1.data.toList).1, wh)
    else rrecN d (all ++ (scanF (d.read (nameN n)).1.data.toList).1) (scanF (d.read (nameN n)).1.data.toList).2 t
def rmendW (d : Dk) (r : Rg) (wh : Nat) : Int × Dk × Rg :=
  if wh < (d.read (nameN r.lastN)).1.size then
    if (d.cut (nameN r.lastN) (wh : Int)).1 = 0 then rsyncW (d.cut (nameN r.lastN) (wh : Int)).2 r else ((d.cut (nameN r.lastN) (wh : Int)).1, (d.cut (nameN r.lastN) (wh : Int)).2, r)
  else rsyncW d r
def ropenW (d : Dk) (seg : Nat) : Int × Dk × Rg :=
  if d.off then (143, d, ⟨seg, [], [], 0⟩) else match numsL d.L with
    | none => (150, d, ⟨seg, [], [], 0⟩)
    | some [] => ((d.create (nameN 1)).1, (d.create (nameN 1)).2, ⟨seg, [1], [], 0⟩)
    | some (n :: t) =>
      if (rrecN d [] 0 (n :: t)).1 = 0 then rmendW d ⟨seg, n :: t, (rrecN d [] 0 (n :: t)).2.1, 0⟩ (rrecN d [] 0 (n :: t)).2.2
      else ((rrecN d [] 0 (n :: t)).1, d, ⟨seg, n :: t, (rrecN d [] 0 (n :: t)).2.1, 0⟩)

/-! ### What a call makes of one file -/
/-- The segment n lies on the disk, whole: these records. -/
def HasS (d : Dk) (n : Nat) (rs : List (List UInt8)) : Prop := ∃ s, findF (nameL n) d.L = some ⟨nameN n, bs (framesN rs), s⟩
def Segs (d : Dk) : Nat → List (List (List UInt8)) → Prop
  | _, [] => True
  | a, rs :: t => HasS d a rs ∧ Segs d (a + rs.length) t
/-- All other files are as before. -/
def Oth (d d' : Dk) (n : Nat) : Prop := ∀ k, k ≠ nameL n → findF k d'.L = findF k d.L
theorem HasS.of {d d' : Dk} {n : Nat} {rs : List (List UInt8)} (h : HasS d n rs) (e : findF (nameL n) d'.L = findF (nameL n) d.L) : HasS d' n rs := by
  obtain ⟨s, hs⟩ := h
  exact ⟨s, e.trans hs⟩
theorem Segs.app : ∀ {d : Dk} {a : Nat} (X Y : List (List (List UInt8))), Segs d a (X ++ Y) ↔ Segs d a X ∧ Segs d (a + X.flatten.length) Y
  | d, a, [], Y => by simp [Segs]
  | d, a, rs :: X, Y => by
    simp only [List.cons_append, Segs, Segs.app X Y, List.flatten_cons, List.length_append]
    rw [Nat.add_assoc, and_assoc]
theorem Segs.of : ∀ {d d' : Dk} {a : Nat} (X : List (List (List UInt8))), (∀ n, a ≤ n → n < a + X.flatten.length → findF (nameL n) d'.L = findF (nameL n) d.L) → (∀ rs ∈ X, 1 ≤ rs.length) → Segs d a X → Segs d' a X
  | d, d', a, [], _, _, _ => trivial
  | d, d', a, rs :: X, h, hp, hs => by
    have h1 := hp rs (by simp)
    simp only [List.flatten_cons, List.length_append] at h
    exact ⟨hs.1.of (h a (Nat.le_refl _) (by omega)), Segs.of X (fun n h2 h3 => h n (by omega) (by omega)) (fun q hq => hp q (by simp [hq])) hs.2⟩
theorem Segs.keep {d d' : Dk} {a n : Nat} {X : List (List (List UInt8))} (h : Segs d a X) (hp : ∀ rs ∈ X, 1 ≤ rs.length) (ho : Oth d d' n) (h1 : a + X.flatten.length ≤ n ∨ n < a) (h2 : a + X.flatten.length < 1000000000001) (h3 : n < 1000000000000) : Segs d' a X :=
  Segs.of X (fun m h4 h5 => ho _ (fun e => by have := name_inj (by omega) h3 e; omega)) hp h
theorem act_L (d : Dk) (L : List Fl) : ((d.act L).1 = 0 ∧ (d.act L).2.L = L ∧ (d.act L).2.off = d.off) ∨ ((d.act L).1 = 143 ∧ (d.act L).2.L = d.L ∧ (d.act L).2.off = true) := by
  unfold Dk.act
  split
  · exact .inr ⟨rfl, rfl, rfl⟩
  · exact .inl ⟨rfl, rfl, rfl⟩
theorem read_has {d : Dk} {n : Nat} {rs : List (List UInt8)} (h : HasS d n rs) (ho : d.off = false) : d.read (nameN n) = (bs (framesN rs), 0) := by
  obtain ⟨s, hs⟩ := h
  unfold Dk.read
  rw [ho, if_neg (by decide), nameN_data, hs]
theorem read_off {d : Dk} (ho : d.off = true) (nm : ByteArray) : d.read nm = (ByteArray.empty, 143) := by
  unfold Dk.read
  rw [if_pos ho]
theorem sync_fx {d : Dk} {n : Nat} {rs : List (List UInt8)} (h : HasS d n rs) : HasS (d.sync (nameN n)).2 n rs ∧ Oth d (d.sync (nameN n)).2 n := by
  obtain ⟨s, hs⟩ := id h
  unfold Dk.sync
  split
  · exact ⟨h, fun k _ => rfl⟩
  · rw [nameN_data, hs]
    simp only
    rcases act_L d (putF { (⟨nameN n, bs (framesN rs), s⟩ : Fl) with safe := (bs (framesN rs)).size } d.L) with ⟨_, e, _⟩ | ⟨_, e, _⟩
    · refine ⟨⟨(bs (framesN rs)).size, ?_⟩, fun k hk => ?_⟩
      · rw [e]; exact findF_put_same (f := ⟨nameN n, bs (framesN rs), (bs (framesN rs)).size⟩) d.L
      · rw [e]; exact findF_put_other (f := ⟨nameN n, bs (framesN rs), (bs (framesN rs)).size⟩) (fun e => hk e.symm) d.L
    · exact ⟨h.of (by rw [e]), fun k _ => by rw [e]⟩
theorem append_fx {d : Dk} {n : Nat} {rs : List (List UInt8)} (h : HasS d n rs) (x : List UInt8) :
    Oth d (d.append (nameN n) (bs (frameN x))).2 n ∧ (((d.append (nameN n) (bs (frameN x))).1 = 0 ∧ HasS (d.append (nameN n) (bs (frameN x))).2 n (rs ++ [x])) ∨ ((d.append (nameN n) (bs (frameN x))).1 ≠ 0 ∧ HasS (d.append (nameN n) (bs (frameN x))).2 n rs)) := by
  obtain ⟨s, hs⟩ := id h
  have hb : bs (framesN rs) ++ bs (frameN x) = bs (framesN (rs ++ [x])) := by rw [bs_append, framesN_app, framesN_cons, framesN_nil, List.append_nil]
  unfold Dk.append
  split
  · exact ⟨fun k _ => rfl, .inr ⟨by simp, h⟩⟩
  · rw [nameN_data, hs]
    simp only
    split
    · exact ⟨fun k _ => rfl, .inr ⟨by simp, h⟩⟩
    · rw [hb]
      rcases act_L d (putF ⟨nameN n, bs (framesN (rs ++ [x])), s⟩ d.L) with ⟨e0, e, _⟩ | ⟨e0, e, _⟩
      · refine ⟨fun k hk => ?_, .inl ⟨e0, s, ?_⟩⟩
        · rw [e]; exact findF_put_other (f := ⟨nameN n, bs (framesN (rs ++ [x])), s⟩) (fun e => hk e.symm) d.L
        · rw [e]; exact findF_put_same (f := ⟨nameN n, bs (framesN (rs ++ [x])), s⟩) d.L
      · exact ⟨fun k _ => by rw [e], .inr ⟨by rw [e0]; decide, h.of (by rw [e])⟩⟩
theorem create_fx (d : Dk) (n : Nat) :
    Oth d (d.create (nameN n)).2 n ∧ (((d.create (nameN n)).1 = 0 ∧ HasS (d.create (nameN n)).2 n [] ∧ findF (nameL n) d.L = none) ∨ ((d.create (nameN n)).1 ≠ 0 ∧ (d.create (nameN n)).2.L = d.L)) := by
  unfold Dk.create
  repeat' split
  · exact ⟨fun k _ => rfl, .inr ⟨by simp, rfl⟩⟩
  · exact ⟨fun k _ => rfl, .inr ⟨by simp, rfl⟩⟩
  · exact ⟨fun k _ => rfl, .inr ⟨by simp, rfl⟩⟩
  · exact ⟨fun k _ => rfl, .inr ⟨by simp, rfl⟩⟩
  · rename_i hf _
    rcases act_L d (putF ⟨nameN n, ByteArray.empty, 0⟩ d.L) with ⟨e0, e, _⟩ | ⟨e0, e, _⟩
    · refine ⟨fun k hk => ?_, .inl ⟨e0, ⟨0, ?_⟩, by simpa [nameN_data] using hf⟩⟩
      · rw [e]; exact findF_put_other (f := ⟨nameN n, ByteArray.empty, 0⟩) (fun e => hk e.symm) d.L
      · rw [e]; exact findF_put_same (f := ⟨nameN n, ByteArray.empty, 0⟩) d.L
    · exact ⟨fun k _ => by rw [e], .inr ⟨by rw [e0]; decide, e⟩⟩
theorem remove_fx (d : Dk) (n : Nat) : Oth d (d.remove (nameN n)).2 n ∧ ((d.remove (nameN n)).1 ≠ 0 → (d.remove (nameN n)).2.L = d.L) := by
  unfold Dk.remove
  split
  · exact ⟨fun k _ => rfl, fun _ => rfl⟩
  · split
    · exact ⟨fun k _ => rfl, fun _ => rfl⟩
    · rcases act_L d (delF (nameN n).data.toList d.L) with ⟨e0, e, _⟩ | ⟨e0, e, _⟩
      · exact ⟨fun k hk => by rw [e]; exact findF_del_other hk d.L, fun h => absurd e0 h⟩
      · exact ⟨fun k _ => by rw [e], fun _ => e⟩
theorem cut_fx {d : Dk} {n : Nat} {f : Fl} (hf : findF (nameL n) d.L = some f) (rs : List (List UInt8)) (z : Nat) (hz : z = (framesN rs).length) (hb : f.bytes.data.toList.take z = framesN rs) (ho : d.off = false) (hl : z ≤ f.bytes.size) :
    Oth d (d.cut (nameN n) (z : Int)).2 n ∧ ((d.cut (nameN n) (z : Int)).1 = 0 → HasS (d.cut (nameN n) (z : Int)).2 n rs ∧ (d.cut (nameN n) (z : Int)).2.off = false) := by
  have hk := findF_key hf
  have hnm : f.name = nameN n := ba_of_list hk
  have hex : f.bytes.extract 0 z = bs (framesN rs) := by
    apply ba_of_list
    rw [ByteArray.data_extract, bs_data', ← hb]
    simp
  unfold Dk.cut
  rw [if_neg (by rw [ho]; decide), nameN_data, hf]
  simp only
  rw [if_neg (by omega), Int.toNat_natCast, hex, hnm]
  rcases act_L d (putF ⟨nameN n, bs (framesN rs), min f.safe z⟩ d.L) with ⟨e0, e, e2⟩ | ⟨e0, e, _⟩
  · refine ⟨fun k hk => ?_, fun _ => ⟨⟨min f.safe z, ?_⟩, e2.trans ho⟩⟩
    · rw [e]; exact findF_put_other (f := ⟨nameN n, bs (framesN rs), min f.safe z⟩) (fun e => hk e.symm) d.L
    · rw [e]; exact findF_put_same (f := ⟨nameN n, bs (framesN rs), min f.safe z⟩) d.L
  · exact ⟨fun k _ => by rw [e], fun h => by rw [e0] at h; exact absurd h (by decide)⟩
end Go.Proofs.YtnpgjlhnlakgpaaGreatDoor
namespace Go.Proofs.YtnpgjlhnlakgpaaGreatDoor
open Go.Lib

/-- Both logs stand alike over the disk d: their segments lie on it, whole. -/
structure Pin (d : Dk) (l : Lg) (r : Rg) (a : Nat) (init : List (List (List UInt8))) (lst : List (List UInt8)) : Prop where
  segs : Segs d a init
  lastf : HasS d (a + init.flatten.length) lst
  nums : l.nums = numsOf a init ++ [a + init.flatten.length]
  rnums : r.nums = l.nums
  seg : r.seg = l.seg
  seg1 : 1 ≤ l.seg
  segb : l.seg ≤ 65536
  a1 : 1 ≤ a
  all : r.all = init.flatten ++ lst
  next : l.next = a + init.flatten.length + lst.length
  size : l.size = (framesN lst).length
  safe : r.last = l.safe
  safeb : l.safe ≤ 1000000000000
  pos : ∀ rs ∈ init, 1 ≤ rs.length
  small : ∀ x ∈ init.flatten ++ lst, x.length ≤ 65536
  qmax : a + init.flatten.length ≤ 999999999999
  nmax : l.next ≤ 1000000000000
  ok : d.Ok
section
variable {d : Dk} {l : Lg} {r : Rg} {a : Nat} {init : List (List (List UInt8))} {lst : List (List UInt8)}
theorem Pin.lastN (h : Pin d l r a init lst) : l.lastN = a + init.flatten.length := by
  unfold Lg.lastN
  rw [h.nums, List.getLastD_concat]
theorem Pin.rlastN (h : Pin d l r a init lst) : r.lastN = a + init.flatten.length := by
  unfold Rg.lastN
  rw [h.rnums, h.nums, List.getLastD_concat]
theorem Pin.first (h : Pin d l r a init lst) : l.first = a := by
  unfold Lg.first
  rw [h.nums]
  cases init with
  | nil => simp [numsOf]
  | cons rs t => simp [numsOf]
theorem Pin.rfirst (h : Pin d l r a init lst) : r.first = a := by
  unfold Rg.first
  rw [h.rnums]
  exact h.first
theorem Pin.rnext (h : Pin d l r a init lst) : r.next = l.next := by
  unfold Rg.next
  rw [h.rfirst, h.all, h.next, List.length_append, Nat.add_assoc]
theorem Pin.told (h : Pin d l r a init lst) : l.told = max r.last (r.first - 1) := by
  unfold Lg.told
  rw [h.first, h.rfirst, h.safe]
/-- The last segment alone is touched. -/
theorem Pin.lastly (h : Pin d l r a init lst) {d' : Dk} (ho : Oth d d' (a + init.flatten.length)) : Segs d' a init := by
  have := h.qmax
  exact h.segs.keep h.pos ho (.inl (Nat.le_refl _)) (by omega) (by omega)
theorem Pin.gone' (h : Pin d l r a init lst) {d' : Dk} (e : d'.L = d.L) (hok : d'.Ok) : Pin d' l r a init lst :=
  ⟨Segs.of init (fun n _ _ => by rw [e]) h.pos h.segs, h.lastf.of (by rw [e]), h.nums, h.rnums, h.seg, h.seg1, h.segb, h.a1, h.all, h.next, h.size, h.safe, h.safeb, h.pos, h.small, h.qmax, h.nmax, hok⟩
theorem Pin.sync (h : Pin d l r a init lst) : (rsyncW d r).1 = (syncW d l).1 ∧ (rsyncW d r).2.1 = (syncW d l).2.1 ∧ Pin (syncW d l).2.1 (syncW d l).2.2 (rsyncW d r).2.2 a init lst := by
  obtain ⟨h1, h2⟩ := sync_fx h.lastf
  have hok := h.ok.sync (nameN (a + init.flatten.length))
  have hn := h.nmax
  unfold rsyncW syncW
  rw [h.rlastN, h.lastN, h.rnext]
  split
  · exact ⟨rfl, rfl, ⟨h.lastly h2, h1, h.nums, h.rnums, h.seg, h.seg1, h.segb, h.a1, h.all, h.next, h.size, rfl, by show l.next - 1 ≤ _; omega, h.pos, h.small, h.qmax, h.nmax, hok⟩⟩
  · exact ⟨rfl, rfl, ⟨h.lastly h2, h1, h.nums, h.rnums, h.seg, h.seg1, h.segb, h.a1, h.all, h.next, h.size, h.safe, h.safeb, h.pos, h.small, h.qmax, h.nmax, hok⟩⟩
theorem Pin.app (h : Pin d l r a init lst) (x : List UInt8) (hx : x.length ≤ 65536) (hm : l.next ≤ 999999999999) :
    (rappW d r x).1 = (appW d l x).1 ∧ (rappW d r x).2.1 = (appW d l x).2.1 ∧ ∃ lst', Pin (appW d l x).2.1 (appW d l x).2.2 (rappW d r x).2.2 a init lst' := by
  obtain ⟨h2, h1⟩ := append_fx h.lastf x
  have hok := h.ok.append (nameN (a + init.flatten.length)) (bs (frameN x))
  unfold rappW appW
  rw [h.rlastN, h.lastN]
  rcases h1 with ⟨e, h1⟩ | ⟨e, h1⟩
  · rw [if_pos e, if_pos e]
    refine ⟨rfl, rfl, lst ++ [x], ⟨h.lastly h2, h1, h.nums, h.rnums, h.seg, h.seg1, h.segb, h.a1, ?_, ?_, ?_, h.safe, h.safeb, h.pos, ?_, h.qmax, ?_, hok⟩⟩
    · show r.all ++ [x] = _; rw [h.all, List.append_assoc]
    · show l.next + 1 = _; rw [h.next, List.length_append]; rfl
    · show l.size + (x.length + 12) = _; rw [h.size, framesN_app, framesN_cons, framesN_nil, List.append_nil, List.length_append, frame_len]
    · intro y hy
      rw [← List.append_assoc] at hy
      rcases List.mem_append.1 hy with hy | hy
      · exact h.small y hy
      · rw [List.mem_singleton.1 hy]; exact hx
    · show l.next + 1 ≤ _; omega
  · rw [if_neg e, if_neg e]
    exact ⟨rfl, rfl, lst, ⟨h.lastly h2, h1, h.nums, h.rnums, h.seg, h.seg1, h.segb, h.a1, h.all, h.next, h.size, h.safe, h.safeb, h.pos, h.small, h.qmax, h.nmax, hok⟩⟩
theorem Pin.new (h : Pin d l r a init lst) (hf : l.seg ≤ l.size) (hm : l.next ≤ 999999999999) :
    (rnewW d r).1 = (newW d l).1 ∧ (rnewW d r).2.1 = (newW d l).2.1 ∧ ∃ init' lst', Pin (newW d l).2.1 (newW d l).2.2 (rnewW d r).2.2 a init' lst' := by
  obtain ⟨h2, h1⟩ := create_fx d l.next
  have hok := h.ok.create (nameN l.next)
  have hl1 : 1 ≤ lst.length := frames_pos (by have := h.seg1; have := h.size; omega)
  have hn := h.next
  unfold rnewW newW
  rw [h.rnext]
  rcases h1 with ⟨e, h1, h3⟩ | ⟨e, h1⟩
  · rw [if_pos e, if_pos e]
    have hfl : a + (init ++ [lst]).flatten.length = l.next := by
      rw [List.flatten_append, List.length_append, List.flatten_cons, List.flatten_nil, List.append_nil]; omega
    have hp : ∀ rs ∈ init ++ [lst], 1 ≤ rs.length := fun rs hr => by
      rcases List.mem_append.1 hr with hr | hr
      · exact h.pos rs hr
      · rw [List.mem_singleton.1 hr]; exact hl1
    have hS : Segs d a (init ++ [lst]) := (Segs.app init [lst]).2 ⟨h.segs, h.lastf, trivial⟩
    refine ⟨rfl, rfl, init ++ [lst], [], ⟨?_, ?_, ?_, ?_, h.seg, h.seg1, h.segb, h.a1, ?_, ?_, rfl, h.safe, h.safeb, hp, ?_, ?_, h.nmax, hok⟩⟩
    · exact hS.keep hp h2 (.inl (by omega)) (by omega) (by omega)
    · rw [hfl]; exact h1
    · show l.nums ++ [l.next] = _
      rw [hfl, numsOf_app, h.nums]
      rfl
    · show r.nums ++ [l.next] = l.nums ++ [l.next]
      rw [h.rnums]
    · show r.all = _; rw [h.all]; simp
    · show l.next = _; rw [hfl]; rfl
    · intro y hy
      refine h.small y ?_
      simpa using hy
    · rw [hfl]; exact hm
  · rw [if_neg e, if_neg e]
    exact ⟨rfl, rfl, init, lst, h.gone' h1 hok⟩
theorem Pin.add (h : Pin d l r a init lst) (x : List UInt8) :
    (raddW d r x).1 = (addW d l x).1 ∧ (raddW d r x).2.1 = (addW d l x).2.1 ∧ ∃ init' lst', Pin (addW d l x).2.1 (addW d l x).2.2 (raddW d r x).2.2 a init' lst' := by
  unfold raddW addW
  rw [h.rnext]
  by_cases hc : 65536 < x.length ∨ 999999999999 < l.next
  · rw [if_pos hc, if_pos hc]
    exact ⟨rfl, rfl, init, lst, h⟩
  · rw [if_neg hc, if_neg hc]
    have hx : x.length ≤ 65536 := by omega
    have hm : l.next ≤ 999999999999 := by omega
    cases ho : d.off with
    | true =>
      have hro := read_off ho (nameN r.lastN)
      rw [hro, if_neg (by decide)]
      have hsy : syncW d l = (143, d, l) := by unfold syncW Dk.sync; simp [ho]
      have hap : appW d l x = (143, d, l) := by unfold appW Dk.append; simp [ho]
      split
      · rw [hsy, if_neg (by simp)]
        exact ⟨rfl, rfl, init, lst, h⟩
      · rw [hap]
        exact ⟨rfl, rfl, init, lst, h⟩
    | false =>
      have hrd := read_has h.lastf ho
      rw [h.rlastN, hrd, if_pos rfl, h.seg]
      simp only
      rw [bs_size, ← h.size]
      by_cases hf : l.seg ≤ l.size
      · rw [if_pos hf, if_pos hf]
        obtain ⟨s1, s2, s3⟩ := h.sync
        rw [s1]
        by_cases e : (syncW d l).1 = 0
        · rw [if_pos e, if_pos e]
          have hsz : (syncW d l).2.2.size = l.size ∧ (syncW d l).2.2.seg = l.seg ∧ (syncW d l).2.2.next = l.next := by unfold syncW; split <;> exact ⟨rfl, rfl, rfl⟩
          rw [s2]
          obtain ⟨n1, n2, i', l', n3⟩ := s3.new (by rw [hsz.1, hsz.2.1]; exact hf) (by rw [hsz.2.2]; exact hm)
          rw [n1]
          by_cases e2 : (newW (syncW d l).2.1 (syncW d l).2.2).1 = 0
          · rw [if_pos e2, if_pos e2]
            have hnx : (newW (syncW d l).2.1 (syncW d l).2.2).2.2.next = l.next := by unfold newW; split <;> exact hsz.2.2
            obtain ⟨a1, a2, l'', a3⟩ := n3.app x hx (by rw [hnx]; exact hm)
            rw [n2]
            exact ⟨a1, a2, i', l'', a3⟩
          · rw [if_neg e2, if_neg e2]
            exact ⟨n1, n2, i', l', n3⟩
        · rw [if_neg e, if_neg e]
          exact ⟨s1, s2, init, lst, s3⟩
      · rw [if_neg hf, if_neg hf]
        obtain ⟨a1, a2, l'', a3⟩ := h.app x hx hm
        exact ⟨a1, a2, init, l'', a3⟩
end
theorem Pin.trim (n : Int) : ∀ (init : List (List (List UInt8))) {d : Dk} {l : Lg} {r : Rg} {a : Nat} {lst : List (List UInt8)}, Pin d l r a init lst →
    (rtrimN n d r.nums r.all).1 = (trimN n d l.nums).1 ∧ (rtrimN n d r.nums r.all).2.1 = (trimN n d l.nums).2.1 ∧
      ∃ a' init', Pin (trimN n d l.nums).2.1 { l with nums := (trimN n d l.nums).2.2 } { r with nums := (rtrimN n d r.nums r.all).2.2.1, all := (rtrimN n d r.nums r.all).2.2.2 } a' init' lst
  | [], d, l, r, a, lst, h => by
    have hn : l.nums = [a + ([] : List (List (List UInt8))).flatten.length] := by rw [h.nums]; rfl
    have hr : r.nums = [a + ([] : List (List (List UInt8))).flatten.length] := by rw [h.rnums, hn]
    have e1 : trimN n d l.nums = (0, d, l.nums) := by rw [hn]; rfl
    have e2 : rtrimN n d r.nums r.all = (0, d, r.nums, r.all) := by rw [hr]; rfl
    rw [e1, e2]
    exact ⟨rfl, rfl, a, [], h⟩
  | rs :: t, d, l, r, a, lst, h => by
    obtain ⟨rest, f1, f2⟩ := nums_two a rs t _ rfl
    have hq : a + (rs :: t).flatten.length = a + rs.length + t.flatten.length := by simp [Nat.add_assoc]
    have hn : l.nums = a :: (a + rs.length) :: rest := by rw [h.nums]; exact f1
    have hr : r.nums = a :: (a + rs.length) :: rest := by rw [h.rnums, hn]
    have hrl := h.pos rs (by simp)
    rw [hn, hr]
    have u1 : trimN n d (a :: (a + rs.length) :: rest) = if ((a + rs.length : Nat) : Int) - 1 ≤ n then
      if (d.remove (nameN a)).1 = 0 then trimN n (d.remove (nameN a)).2 ((a + rs.length) :: rest) else ((d.remove (nameN a)).1, (d.remove (nameN a)).2, a :: (a + rs.length) :: rest)
      else (0, d, a :: (a + rs.length) :: rest) := rfl
    have u2 : rtrimN n d (a :: (a + rs.length) :: rest) r.all = if ((a + rs.length : Nat) : Int) - 1 ≤ n then
      if (d.remove (nameN a)).1 = 0 then rtrimN n (d.remove (nameN a)).2 ((a + rs.length) :: rest) (r.all.drop (a + rs.length - a)) else ((d.remove (nameN a)).1, (d.remove (nameN a)).2, a :: (a + rs.length) :: rest, r.all)
      else (0, d, a :: (a + rs.length) :: rest, r.all) := rfl
    rw [u1, u2]
    obtain ⟨o1, o2⟩ := remove_fx d a
    have hok := h.ok.remove (nameN a)
    have hself : ∀ d', d'.L = d.L → d'.Ok → Pin d' { l with nums := a :: (a + rs.length) :: rest } { r with nums := a :: (a + rs.length) :: rest, all := r.all } a (rs :: t) lst := fun d' e hk => by
      have := h.gone' e hk
      exact ⟨this.segs, this.lastf, by rw [← hn]; exact this.nums, rfl, this.seg, this.seg1, this.segb, this.a1, this.all, this.next, this.size, this.safe, this.safeb, this.pos, this.small, this.qmax, this.nmax, hk⟩
    split
    · by_cases e : (d.remove (nameN a)).1 = 0
      · rw [if_pos e, if_pos e]
        have hq9 := h.qmax
        have hnx := h.next
        rw [hq] at hq9 hnx
        have hp : Pin (d.remove (nameN a)).2 { l with nums := (a + rs.length) :: rest } { r with nums := (a + rs.length) :: rest, all := r.all.drop (a + rs.length - a) } (a + rs.length) t lst := by
          refine ⟨?_, ?_, ?_, rfl, h.seg, h.seg1, h.segb, by omega, ?_, hnx, h.size, h.safe, h.safeb, fun q hq => h.pos q (by simp [hq]), ?_, hq9, h.nmax, hok⟩
          · exact h.segs.2.keep (fun q hq => h.pos q (by simp [hq])) o1 (.inr (by omega)) (by omega) (by omega)
          · have hl := h.lastf
            rw [hq] at hl
            exact hl.of (o1 _ (fun e => by have := name_inj (by omega) (by omega) e; omega))
          · show (a + rs.length) :: rest = _
            rw [← f2, hq]
          · show r.all.drop _ = _
            rw [h.all, show a + rs.length - a = rs.length by omega]
            simp
          · intro x hx
            refine h.small x ?_
            simp only [List.flatten_cons, List.mem_append] at hx ⊢
            rcases hx with hx | hx
            · exact .inl (.inr hx)
            · exact .inr hx
        exact Pin.trim n t hp
      · rw [if_neg e, if_neg e]
        exact ⟨rfl, rfl, a, rs :: t, hself _ (o2 e) hok⟩
    · exact ⟨rfl, rfl, a, rs :: t, hself d rfl h.ok⟩
end Go.Proofs.YtnpgjlhnlakgpaaGreatDoor
namespace Go.Proofs.YtnpgjlhnlakgpaaGreatDoor
open Go.Lib

theorem nums_head (b : Nat) (t : List (List (List UInt8))) : (numsOf b t).headD (b + t.flatten.length) = b := by
  cases t with
  | nil => simp [numsOf]
  | cons rs t => simp [numsOf]
theorem scan_whole (rs : List (List UInt8)) (h : ∀ x ∈ rs, x.length ≤ 65536) : scanF (framesN rs) = (rs, (framesN rs).length) := by
  have := scan_frames rs [] h
  rw [List.append_nil, scan_nil] at this
  simpa using this
theorem readN_on {d : Dk} (ho : d.off = false) (fr : Nat) : ∀ (S : List (List (List UInt8))) (a : Nat) (out : List (List UInt8)), Segs d a S → (∀ x ∈ S.flatten, x.length ≤ 65536) →
    readN d fr (a + S.flatten.length) out (numsOf a S) = (out ++ S.flatten.drop (fr - a), 0)
  | [], a, out, _, _ => by simp [numsOf, readN]
  | rs :: t, a, out, h, hs => by
    have hf : a + (rs :: t).flatten.length = (a + rs.length) + t.flatten.length := by simp [Nat.add_assoc]
    rw [hf]
    simp only [numsOf, readN]
    rw [nums_head]
    have h1 : ∀ x ∈ t.flatten, x.length ≤ 65536 := fun x hx => hs x (by simp only [List.flatten_cons, List.mem_append]; exact .inr hx)
    have h2 : ∀ x ∈ rs, x.length ≤ 65536 := fun x hx => hs x (by simp only [List.flatten_cons, List.mem_append]; exact .inl hx)
    by_cases hc : a + rs.length ≤ fr
    · rw [if_pos hc, readN_on ho fr t (a + rs.length) out h.2 h1, List.flatten_cons]
      rw [show fr - a = rs.length + (fr - (a + rs.length)) by omega, List.drop_length_add_append]
    · rw [if_neg hc, read_has h.1 ho, if_pos rfl, readN_on ho fr t (a + rs.length) _ h.2 h1]
      simp only
      rw [bs_data', scan_whole rs h2, List.append_assoc, List.flatten_cons, List.drop_append_of_le_length (by omega), show fr - (a + rs.length) = 0 by omega, List.drop_zero]
theorem readN_off {d : Dk} (ho : d.off = true) (fr : Nat) : ∀ (S : List (List (List UInt8))) (a : Nat) (out : List (List UInt8)),
    readN d fr (a + S.flatten.length) out (numsOf a S) = if fr < a + S.flatten.length ∧ S ≠ [] then ([], 143) else (out, 0)
  | [], a, out => by simp [numsOf, readN]
  | rs :: t, a, out => by
    have hf : a + (rs :: t).flatten.length = (a + rs.length) + t.flatten.length := by simp [Nat.add_assoc]
    rw [hf]
    simp only [numsOf, readN]
    rw [nums_head]
    by_cases hc : a + rs.length ≤ fr
    · rw [if_pos hc, readN_off ho fr t (a + rs.length) out]
      by_cases ht : t = []
      · subst ht
        rw [if_neg (by simp), if_neg (by simp; omega)]
      · simp [ht]
    · rw [if_neg hc, read_off ho, if_neg (by simp), if_pos ⟨by omega, by simp⟩]
theorem Pin.read {d : Dk} {l : Lg} {r : Rg} {a : Nat} {init : List (List (List UInt8))} {lst : List (List UInt8)} (h : Pin d l r a init lst) (fr : Nat) :
    readN d fr l.next [] l.nums = rreadW d r fr := by
  have hS : Segs d a (init ++ [lst]) := (Segs.app init [lst]).2 ⟨h.segs, h.lastf, trivial⟩
  have hfl : (init ++ [lst]).flatten = init.flatten ++ lst := by simp
  have hn : l.nums = numsOf a (init ++ [lst]) := by rw [h.nums, numsOf_app]; rfl
  have hx : l.next = a + (init ++ [lst]).flatten.length := by rw [hfl, List.length_append, h.next, Nat.add_assoc]
  unfold rreadW
  rw [h.rnext, h.rfirst]
  cases ho : d.off with
  | false =>
    rw [if_neg (by simp), hn, hx, readN_on ho fr _ a [] hS (by rw [hfl]; exact h.small), hfl, h.all, List.nil_append]
  | true =>
    rw [hn, hx, readN_off ho]
    by_cases hc : fr < a + (init ++ [lst]).flatten.length
    · rw [if_pos ⟨hc, by simp⟩, if_pos ⟨rfl, hc⟩]
    · rw [if_neg (fun q => hc q.1), if_neg (fun q => hc q.2), h.all, ← hfl, List.drop_eq_nil_of_le (by omega)]

/-! ### Open -/
theorem digs_back : ∀ (k : Nat) (l : List UInt8), l.length = k → l.all digB = true → digs k (valB l) = l ∧ valB l < 10 ^ k
  | 0, l, hl, _ => by
    have : l = [] := List.length_eq_zero_iff.1 hl
    subst this
    exact ⟨rfl, by decide⟩
  | k + 1, l, hl, hd => by
    obtain ⟨l', c, rfl⟩ : ∃ l' c, l = l' ++ [c] := by
      have hne : l ≠ [] := fun e => by rw [e] at hl; simp at hl
      exact ⟨_, _, (List.dropLast_concat_getLast hne).symm⟩
    have hl' : l'.length = k := by simpa using hl
    rw [List.all_append, Bool.and_eq_true] at hd
    obtain ⟨h1, h2⟩ := digs_back k l' hl' hd.1
    have hc : 48 ≤ c.toNat ∧ c.toNat ≤ 57 := by simpa [digB] using hd.2
    have hv : valB (l' ++ [c]) = 10 * valB l' + (c.toNat - 48) := by unfold valB; rw [List.foldl_append]; rfl
    rw [hv]
    refine ⟨?_, by rw [Nat.pow_succ]; omega⟩
    simp only [digs]
    rw [show (10 * valB l' + (c.toNat - 48)) / 10 = valB l' by omega, show (10 * valB l' + (c.toNat - 48)) % 10 = c.toNat - 48 by omega, h1, show 48 + (c.toNat - 48) = c.toNat by omega, UInt8.ofNat_toNat]
theorem num_back {k : List UInt8} {n : Nat} (hp : hasPrefix k preL = true) (h : numK k = some n) : k = nameL n ∧ 0 < n ∧ n < 1000000000000 := by
  unfold numK at h
  split at h
  · rename_i h1
    split at h
    · rename_i h2
      split at h
      · rename_i h3
        obtain ⟨e1, e2⟩ := digs_back 12 _ h1 h2
        have hn := Option.some.inj h
        rw [hn] at e1 e2 h3
        refine ⟨?_, h3, by omega⟩
        unfold nameL
        rw [e1]
        unfold trimPrefix
        rw [hp, if_pos rfl]
        have : k.take preL.length = preL := (List.prefix_iff_eq_take.1 (List.isPrefixOf_iff_prefix.1 hp)).symm
        conv => lhs; rw [← List.take_append_drop preL.length k, this]
      · cases h
    · cases h
  · cases h
theorem numsL_back : ∀ {L : List Fl} {ns : List Nat}, numsL L = some ns → ∀ n ∈ ns, (0 < n ∧ n < 1000000000000) ∧ ∃ f ∈ L, f.key = nameL n
  | [], ns, h => by cases h; intro n hn; cases hn
  | f :: r, ns, h => by
    unfold numsL at h
    split at h
    · rename_i hp
      split at h
      · cases h
      · rename_i m hm
        obtain ⟨ns', h1, rfl⟩ := Option.map_eq_some_iff.1 h
        intro n hn
        rcases List.mem_cons.1 hn with rfl | hn
        · obtain ⟨e, b⟩ := num_back hp hm
          exact ⟨b, f, by simp, e⟩
        · obtain ⟨b, g, hg, e⟩ := numsL_back h1 n hn
          exact ⟨b, g, by simp [hg], e⟩
    · intro n hn
      obtain ⟨b, g, hg, e⟩ := numsL_back h n hn
      exact ⟨b, g, by simp [hg], e⟩
theorem numsL_ne : ∀ {L : List Fl} {ns : List Nat}, Rising L → numsL L = some ns → ns.Pairwise (· ≠ ·)
  | [], ns, _, h => by cases h; exact .nil
  | f :: r, ns, hr, h => by
    obtain ⟨h1, h2⟩ := List.pairwise_cons.1 hr
    unfold numsL at h
    split at h
    · rename_i hp
      split at h
      · cases h
      · rename_i m hm
        obtain ⟨ns', h3, rfl⟩ := Option.map_eq_some_iff.1 h
        obtain ⟨e, -⟩ := num_back hp hm
        refine List.pairwise_cons.2 ⟨fun n hn => ?_, numsL_ne h2 h3⟩
        obtain ⟨-, g, hg, e2⟩ := numsL_back h3 n hn
        intro he
        have hb := h1 g hg
        rw [e, e2, he, WideAt.bytes_irrefl] at hb
        cases hb
    · exact numsL_ne h2 h
theorem find_mem {L : List Fl} {f : Fl} (hr : Rising L) (hf : f ∈ L) : findF f.key L = some f := by
  obtain ⟨i, hi⟩ := List.getElem?_of_mem hf
  exact find_of_idx hr hi
/-- What was looked at. -/
structure RecOk (d : Dk) (nums : List Nat) (all : List (List UInt8)) (P : Int × Nat × Nat × Nat) (R : Int × List (List UInt8) × Nat) (a : Nat) (init : List (List (List UInt8))) (lst : List (List UInt8)) (f : Fl) : Prop where
  nums : nums = numsOf a init ++ [a + init.flatten.length]
  segs : Segs d a init
  file : findF (nameL (a + init.flatten.length)) d.L = some f
  scan : scanF f.bytes.data.toList = (lst, P.2.2.1)
  have_ : P.2.2.2 = f.bytes.size
  nx : P.2.1 = a + init.flatten.length + lst.length
  pos : ∀ rs ∈ init, 1 ≤ rs.length
  small : ∀ x ∈ init.flatten ++ lst, x.length ≤ 65536
  res : R = if 999999999999 + 1 < P.2.1 then (150, R.2) else (0, all ++ (init.flatten ++ lst), P.2.2.1)
theorem rec_same {d : Dk} (ho : d.off = false) : ∀ (t : List Nat) (n : Nat) (nx sz hv : Nat) (all : List (List UInt8)) (wh : Nat), (∀ m ∈ n :: t, ∃ f, findF (nameL m) d.L = some f) → (n :: t).Pairwise (· ≠ ·) →
    (((recN d nx sz hv (n :: t)).1 = 150 ∧ (rrecN d all wh (n :: t)).1 = 150) ∨
     ((recN d nx sz hv (n :: t)).1 = 0 ∧ ∃ init lst f, RecOk d (n :: t) all (recN d nx sz hv (n :: t)) (rrecN d all wh (n :: t)) n init lst f))
  | [], n, nx, sz, hv, all, wh, hfs, _ => by
    right
    obtain ⟨f, hf⟩ := hfs n (by simp)
    have hrd : d.read (nameN n) = (f.bytes, 0) := by unfold Dk.read; rw [ho, if_neg (by decide), nameN_data, hf]
    simp only [recN, rrecN]
    rw [hrd, if_pos rfl, if_neg (fun h => h.1 rfl)]
    refine ⟨rfl, [], (scanF f.bytes.data.toList).1, f, ⟨rfl, trivial, hf, rfl, rfl, rfl, by simp, by simpa using (scanF_back f.bytes.data.toList).2.2, ?_⟩⟩
    simp only
    by_cases hc : 999999999999 + 1 < n + (scanF f.bytes.data.toList).1.length
    · rw [if_pos (.inr ⟨trivial, hc⟩), if_pos (by simpa using hc)]
    · rw [if_neg (by rintro (h | h); exact h.1 rfl; exact hc h.2), if_neg (by simpa using hc)]
      simp
  | m :: t, n, nx, sz, hv, all, wh, hfs, hne => by
    obtain ⟨f, hf⟩ := hfs n (by simp)
    have hrd : d.read (nameN n) = (f.bytes, 0) := by unfold Dk.read; rw [ho, if_neg (by decide), nameN_data, hf]
    obtain ⟨hb1, hb2, hb3⟩ := scanF_back f.bytes.data.toList
    have hsz : f.bytes.data.toList.length = f.bytes.size := by simp
    obtain ⟨hn1, hn2⟩ := List.pairwise_cons.1 hne
    have u1 : recN d nx sz hv (n :: m :: t) = if (scanF f.bytes.data.toList).2 < f.bytes.size ∨ n + (scanF f.bytes.data.toList).1.length ≠ m then (150, n + (scanF f.bytes.data.toList).1.length, (scanF f.bytes.data.toList).2, f.bytes.size)
        else recN d (n + (scanF f.bytes.data.toList).1.length) (scanF f.bytes.data.toList).2 f.bytes.size (m :: t) := by
      conv => lhs; unfold recN
      rw [hrd, if_pos rfl]
      simp
    have u2 : rrecN d all wh (n :: m :: t) = if (scanF f.bytes.data.toList).2 ≠ f.bytes.size ∨ m ≠ n + (scanF f.bytes.data.toList).1.length then (150, all ++ (scanF f.bytes.data.toList).1, wh)
        else rrecN d (all ++ (scanF f.bytes.data.toList).1) (scanF f.bytes.data.toList).2 (m :: t) := by
      conv => lhs; unfold rrecN
      rw [hrd]
      simp
    rw [u1, u2]
    by_cases hc : (scanF f.bytes.data.toList).2 < f.bytes.size ∨ n + (scanF f.bytes.data.toList).1.length ≠ m
    · rw [if_pos hc, if_pos (by omega)]
      exact .inl ⟨rfl, rfl⟩
    · rw [if_neg hc, if_neg (by omega)]
      have hm : m = n + (scanF f.bytes.data.toList).1.length := by omega
      rcases rec_same ho t m (n + (scanF f.bytes.data.toList).1.length) (scanF f.bytes.data.toList).2 f.bytes.size (all ++ (scanF f.bytes.data.toList).1) (scanF f.bytes.data.toList).2 (fun q hq => hfs q (by simp at hq ⊢; exact .inr hq)) hn2 with ih | ⟨ih0, init, lst, f', ih⟩
      · exact .inl ih
      · right
        refine ⟨ih0, (scanF f.bytes.data.toList).1 :: init, lst, f', ?_⟩
        have hq : n + ((scanF f.bytes.data.toList).1 :: init).flatten.length = m + init.flatten.length := by rw [List.flatten_cons, List.length_append, hm, Nat.add_assoc]
        have hnm : f.name = nameN n := ba_of_list (findF_key hf)
        have hfb : f.bytes = bs (framesN (scanF f.bytes.data.toList).1) := by
          apply ba_of_list
          rw [bs_data', ← hb1, List.take_of_length_le (by omega)]
        refine ⟨?_, ⟨⟨f.safe, ?_⟩, ?_⟩, by rw [hq]; exact ih.file, ih.scan, ih.have_, by rw [hq]; exact ih.nx, ?_, ?_, ?_⟩
        · rw [ih.nums, hq]; simp [numsOf, hm]
        · rw [hf, ← hnm, ← hfb]
        · rw [← hm]; exact ih.segs
        · intro rs hrs
          rcases List.mem_cons.1 hrs with rfl | hrs
          · have := hn1 m (by simp)
            omega
          · exact ih.pos rs hrs
        · intro x hx
          rw [List.flatten_cons, List.append_assoc] at hx
          rcases List.mem_append.1 hx with hx | hx
          · exact hb3 x hx
          · exact ih.small x hx
        · rw [List.flatten_cons, List.append_assoc, ← List.append_assoc all]
          exact ih.res
theorem open_same {d : Dk} (hok : d.Ok) {seg : Nat} (h1 : 1 ≤ seg) (h2 : seg ≤ 65536) :
    (ropenW d seg).1 = (openW d seg).1 ∧ (ropenW d seg).2.1 = (openW d seg).2.1 ∧ ((openW d seg).1 = 0 → ∃ a init lst, Pin (openW d seg).2.1 (openW d seg).2.2 (ropenW d seg).2.2 a init lst) := by
  unfold ropenW openW
  cases ho : d.off with
  | true => exact ⟨rfl, rfl, fun h => by simp at h⟩
  | false =>
    rw [if_neg (by decide), if_neg (by decide)]
    cases hn : numsL d.L with
    | none => exact ⟨rfl, rfl, fun h => by simp at h⟩
    | some ns =>
      match ns, hn with
      | [], hn =>
        refine ⟨rfl, rfl, fun h => ?_⟩
        rcases (create_fx d 1).2 with ⟨_, e, _⟩ | ⟨e, _⟩
        · exact ⟨1, [], [], ⟨trivial, e, rfl, rfl, rfl, h1, h2, Nat.le_refl _, rfl, rfl, rfl, rfl, by simp, by simp, by simp, by simp, by simp, hok.create _⟩⟩
        · exact absurd h e
      | n :: t, hn =>
        simp only
        have hb := numsL_back hn
        have hfs : ∀ m ∈ n :: t, ∃ f, findF (nameL m) d.L = some f := fun m hm => by
          obtain ⟨-, f, hf, e⟩ := hb m hm
          exact ⟨f, by rw [← e]; exact find_mem hok.rise hf⟩
        unfold recW
        rcases rec_same ho t n 0 0 0 [] 0 hfs (numsL_ne hok.rise hn) with ⟨e1, e2⟩ | ⟨e1, init, lst, f, H⟩
        · rw [e1, e2, if_neg (by decide), if_neg (by decide)]
          exact ⟨rfl, rfl, fun h => by simp at h⟩
        · obtain ⟨P, hP⟩ : ∃ P, recN d 0 0 0 (n :: t) = P := ⟨_, rfl⟩
          obtain ⟨R, hR⟩ : ∃ R, rrecN d [] 0 (n :: t) = R := ⟨_, rfl⟩
          rw [hP] at e1 H ⊢
          rw [hR] at H ⊢
          rw [e1, if_pos rfl]
          have hres := H.res
          by_cases hc : 999999999999 + 1 < P.2.1
          · rw [if_pos hc] at hres ⊢
            rw [hres, if_neg (by simp)]
            exact ⟨rfl, rfl, fun h => by simp at h⟩
          · rw [if_neg hc] at hres ⊢
            rw [hres, if_pos rfl]
            simp only [List.nil_append]
            obtain ⟨p1, p2, p3, p4⟩ := P
            obtain ⟨H1, H2, H3, H4, H5, H6, H7, H8, -⟩ := H
            simp only at H4 H5 H6 hc e1 ⊢
            have hlast : (n :: t).getLastD 0 = n + init.flatten.length := by rw [H1, List.getLastD_concat]
            have hrd : d.read (nameN (n + init.flatten.length)) = (f.bytes, 0) := by unfold Dk.read; rw [ho, if_neg (by decide), nameN_data, H3]
            have hbk := scanF_back f.bytes.data.toList
            rw [H4] at hbk
            simp only at hbk
            have hsz : f.bytes.data.toList.length = f.bytes.size := by simp
            have hqm : n + init.flatten.length ≤ 999999999999 := by
              have := (hb (n + init.flatten.length) (by rw [H1]; simp)).1.2
              omega
            have hn1 := (hb n (by simp)).1.1
            have hp3 : p3 = (framesN lst).length := by rw [← hbk.1, List.length_take]; omega
            have mk : ∀ d' : Dk, Segs d' n init → HasS d' (n + init.flatten.length) lst → d'.Ok → Pin d' ⟨seg, n :: t, p3, p2, 0⟩ ⟨seg, n :: t, init.flatten ++ lst, 0⟩ n init lst := fun d' g1 g2 g3 =>
              ⟨g1, g2, H1, rfl, rfl, h1, h2, hn1, rfl, H6, hp3, rfl, Nat.zero_le _, H7, H8, hqm, by show p2 ≤ _; omega, g3⟩
            have fin : ∀ d' : Dk, Pin d' ⟨seg, n :: t, p3, p2, 0⟩ ⟨seg, n :: t, init.flatten ++ lst, 0⟩ n init lst →
                (rsyncW d' ⟨seg, n :: t, init.flatten ++ lst, 0⟩).1 = (syncW d' ⟨seg, n :: t, p3, p2, 0⟩).1 ∧ (rsyncW d' ⟨seg, n :: t, init.flatten ++ lst, 0⟩).2.1 = (syncW d' ⟨seg, n :: t, p3, p2, 0⟩).2.1 ∧
                ((syncW d' ⟨seg, n :: t, p3, p2, 0⟩).1 = 0 → ∃ a init' lst', Pin (syncW d' ⟨seg, n :: t, p3, p2, 0⟩).2.1 (syncW d' ⟨seg, n :: t, p3, p2, 0⟩).2.2 (rsyncW d' ⟨seg, n :: t, init.flatten ++ lst, 0⟩).2.2 a init' lst') := fun d' hp => by
              obtain ⟨s1, s2, s3⟩ := hp.sync
              exact ⟨s1, s2, fun _ => ⟨_, _, _, s3⟩⟩
            unfold rmendW mendW Rg.lastN Lg.lastN
            simp only
            rw [hlast, hrd, H5]
            simp only
            by_cases hlt : p3 < f.bytes.size
            · rw [if_pos hlt, if_pos hlt]
              obtain ⟨o1, o2⟩ := cut_fx H3 lst p3 hp3 hbk.1 ho (by omega)
              by_cases e : (d.cut (nameN (n + init.flatten.length)) (p3 : Int)).1 = 0
              · rw [if_pos e, if_pos e]
                exact fin _ (mk _ (H2.keep H7 o1 (.inl (Nat.le_refl _)) (by omega) (by omega)) (o2 e).1 (hok.cut _ _))
              · rw [if_neg e, if_neg e]
                exact ⟨rfl, rfl, fun h => absurd h e⟩
            · rw [if_neg hlt, if_neg hlt]
              refine fin d (mk d H2 ⟨f.safe, ?_⟩ hok)
              have hnm : f.name = nameN (n + init.flatten.length) := ba_of_list (findF_key H3)
              have hfb : f.bytes = bs (framesN lst) := by
                apply ba_of_list
                rw [bs_data', ← hbk.1, List.take_of_length_le (by omega)]
              rw [H3, ← hnm, ← hfb]
end Go.Proofs.YtnpgjlhnlakgpaaGreatDoor

/- The plain model of a log: Add and Trim leave it standing. -/
import Derived.Test.YtnpgjlhnlakgpaaDoorWalLg
namespace Go.Proofs.YtnpgjlhnlakgpaaDoor

section
variable {d : Dk} {l : Lg} {all : List (List UInt8)} {a : Nat} {init : List (List (List UInt8))} {lst : List (List UInt8)} {sb : Nat}
/-- The Append of an Add. -/
theorem LInv.app (h : LInv d l all a init lst sb) (r : List UInt8) (hr : r.length ≤ 65536) (hm : l.next < 999999999999) :
    ((appW d l r).1 ≠ 0 ∧ (appW d l r).2.2 = l ∧ LInv (appW d l r).2.1 l all a init lst sb) ∨
    ((appW d l r).1 = 0 ∧ (appW d l r).2.2 = { l with size := l.size + (r.length + 12), next := l.next + 1 } ∧ LInv (appW d l r).2.1 (appW d l r).2.2 (all ++ [r]) a init (lst ++ [r]) sb) := by
  have hb : bs (framesN lst) ++ bs (frameN r) = bs (framesN (lst ++ [r])) := by rw [bs_append, framesN_app, framesN_cons, framesN_nil, List.append_nil]
  have hp : putF ⟨nameN (a + init.flatten.length), bs (framesN (lst ++ [r])), sb⟩ d.L = fulls a init ++ [⟨nameN (a + init.flatten.length), bs (framesN (lst ++ [r])), sb⟩] := by
    rw [h.files]
    exact put_last (f := ⟨nameN (a + init.flatten.length), bs (framesN lst), sb⟩) rfl h.below
  have hs : d.append (nameN l.lastN) (bs (frameN r)) = if d.off then (143, d) else if d.room - usedF d.L < (bs (frameN r)).size then (142, d) else d.act (fulls a init ++ [⟨nameN (a + init.flatten.length), bs (framesN (lst ++ [r])), sb⟩]) := by
    unfold Dk.append
    rw [h.find]
    simp only
    rw [hb, hp]
  have hok := h.ok.append (nameN l.lastN) (bs (frameN r))
  unfold appW
  rw [hs] at hok ⊢
  by_cases ho : d.off = true
  · rw [if_pos ho]
    exact .inl ⟨by simp, rfl, h⟩
  · rw [if_neg ho] at hok ⊢
    by_cases hroom : d.room - usedF d.L < (bs (frameN r)).size
    · rw [if_pos hroom]
      exact .inl ⟨by simp, rfl, h⟩
    · rw [if_neg hroom] at hok ⊢
      cases hf : d.refuses with
      | true => rw [act_no hf]; exact .inl ⟨by simp, rfl, h.gone⟩
      | false =>
        rw [act_go hf] at hok ⊢
        have hfl : (framesN (lst ++ [r])).length = l.size + (r.length + 12) := by rw [framesN_app, framesN_cons, framesN_nil, List.append_nil, List.length_append, frame_len, h.size]
        refine .inr ⟨rfl, rfl, ⟨rfl, h.nums, h.a1, ?_, ?_, ?_, h.seg1, h.full, hfl.symm, ?_, ?_, ?_, ?_, ?_, hok⟩⟩
        · rw [List.drop_append_of_le_length (by have := h.len; have := h.next; omega), h.recs, List.append_assoc]
        · have := h.next; show l.next + 1 = _; rw [List.length_append, List.length_singleton]; omega
        · have := h.len; show _ = l.next + 1; rw [List.length_append, List.length_singleton]; omega
        · have := h.sble; show sb ≤ l.size + _; omega
        · have := h.safe1; show l.safe + 1 ≤ l.next + 1; omega
        · have h1 := h.safe1
          have h2 := h.next
          show (framesN ((lst ++ [r]).take (l.safe + 1 - (a + init.flatten.length)))).length ≤ sb
          rw [List.take_append_of_le_length (by omega)]
          exact h.safe2
        · intro q hq
          rcases List.mem_append.1 hq with hq | hq
          · exact h.small q hq
          · rw [List.mem_singleton.1 hq]; exact hr
        · show l.next + 1 ≤ 999999999999; omega
/-- A segment more, behind a Sync. -/
theorem LInv.new (h : LInv d l all a init lst l.size) (hf : l.seg ≤ l.size) (hs : l.safe + 1 = l.next) :
    ((newW d l).1 ≠ 0 ∧ (newW d l).2.2 = l ∧ LInv (newW d l).2.1 l all a init lst l.size) ∨
    ((newW d l).1 = 0 ∧ (newW d l).2.2 = { l with nums := l.nums ++ [l.next], size := 0 } ∧ LInv (newW d l).2.1 (newW d l).2.2 all a (init ++ [lst]) [] 0) := by
  have hl1 : 1 ≤ lst.length := frames_pos (by have := h.seg1; have := h.size; omega)
  have hn := h.next
  have hfu : fulls a init ++ [⟨nameN (a + init.flatten.length), bs (framesN lst), l.size⟩] = fulls a (init ++ [lst]) := by
    rw [fulls_app, h.size]; rfl
  have hfl : a + (init ++ [lst]).flatten.length = l.next := by
    rw [List.flatten_append, List.length_append, List.flatten_cons, List.flatten_nil, List.append_nil]; omega
  have hbel : ∀ f ∈ fulls a (init ++ [lst]), bytesBefore f.key (nameL l.next) = true := by
    have := fulls_below a (init ++ [lst]) (fun rs hr => by
      rcases List.mem_append.1 hr with hr | hr
      · exact h.pos rs hr
      · rw [List.mem_singleton.1 hr]; exact hl1) (by have := h.max; omega)
    rwa [hfl] at this
  have hfind : findF (nameN l.next).data.toList d.L = none := by
    rw [h.files, hfu]
    exact find_none fun g hg => before_ne (hbel g hg)
  have hnm : namedB (nameN l.next) = true := by simp [namedB, nameN_size]
  have hp : putF ⟨nameN l.next, ByteArray.empty, 0⟩ d.L = fulls a (init ++ [lst]) ++ [⟨nameN l.next, ByteArray.empty, 0⟩] := by
    rw [h.files, hfu]
    exact put_behind (g := ⟨nameN l.next, ByteArray.empty, 0⟩) hbel
  have hc : d.create (nameN l.next) = if d.off then (143, d) else if 64 ≤ d.L.length then (2, d) else d.act (fulls a (init ++ [lst]) ++ [⟨nameN l.next, ByteArray.empty, 0⟩]) := by
    unfold Dk.create
    rw [hfind, hnm, hp]
    simp
  have hok := h.ok.create (nameN l.next)
  unfold newW
  rw [hc] at hok ⊢
  by_cases ho : d.off = true
  · rw [if_pos ho]; exact .inl ⟨by simp, rfl, h⟩
  · rw [if_neg ho] at hok ⊢
    by_cases hm : 64 ≤ d.L.length
    · rw [if_pos hm]; exact .inl ⟨by simp, rfl, h⟩
    · rw [if_neg hm] at hok ⊢
      cases hr : d.refuses with
      | true => rw [act_no hr]; exact .inl ⟨by simp, rfl, h.gone⟩
      | false =>
        rw [act_go hr] at hok ⊢
        refine .inr ⟨rfl, rfl, ⟨?_, ?_, h.a1, ?_, ?_, h.len, h.seg1, ?_, rfl, Nat.le_refl _, h.safe1, ?_, h.small, h.max, hok⟩⟩
        · rw [hfl]; rfl
        · rw [hfl, numsOf_app, h.nums, List.append_assoc]
          show numsOf a init ++ ([a + init.flatten.length] ++ [l.next]) = numsOf a init ++ [a + init.flatten.length] ++ [l.next]
          simp
        · rw [h.recs]; simp
        · rw [hfl]; simp
        · intro rs hrs
          rcases List.mem_append.1 hrs with hrs | hrs
          · exact h.full rs hrs
          · rw [List.mem_singleton.1 hrs, ← h.size]; exact hf
        · simp [framesN]
/-- Add. -/
theorem LInv.add (h : LInv d l all a init lst sb) (r : List UInt8) (hr : r.length ≤ 65536) (hm : l.next < 999999999999) :
    ∃ init' lst' sb', LInv (addW d l r).2.1 (addW d l r).2.2 (if (addW d l r).1 = 0 then all ++ [r] else all) a init' lst' sb' ∧ (addW d l r).2.2.seg = l.seg ∧ (addW d l r).2.2.next = l.next + (if (addW d l r).1 = 0 then 1 else 0) := by
  have c0 : ¬ (65536 < r.length ∨ 999999999999 < l.next) := by omega
  have fin : ∀ {d : Dk} {l1 : Lg} {init : List (List (List UInt8))} {lst : List (List UInt8)} {sb : Nat}, LInv d l1 all a init lst sb → l1.seg = l.seg → l1.next = l.next →
      ∃ init' lst' sb', LInv (appW d l1 r).2.1 (appW d l1 r).2.2 (if (appW d l1 r).1 = 0 then all ++ [r] else all) a init' lst' sb' ∧ (appW d l1 r).2.2.seg = l.seg ∧ (appW d l1 r).2.2.next = l.next + (if (appW d l1 r).1 = 0 then 1 else 0) := by
    intro d l1 init lst sb h1 hseg hnext
    rcases h1.app r hr (by omega) with ⟨e1, e2, e3⟩ | ⟨e1, e2, e3⟩
    · rw [if_neg e1, if_neg e1, e2]
      exact ⟨_, _, _, e3, hseg, hnext⟩
    · rw [if_pos e1, if_pos e1]
      refine ⟨_, _, _, e3, ?_, ?_⟩
      · rw [e2]; exact hseg
      · rw [e2]; show l1.next + 1 = _; rw [hnext]
  unfold addW
  rw [if_neg c0]
  by_cases hf : l.seg ≤ l.size
  · rw [if_pos hf]
    rcases h.sync with ⟨e1, e2, e3, _⟩ | ⟨e1, e2, e3⟩
    · have hne : ¬ (syncW d l).1 = 0 := by rw [e1]; decide
      rw [if_neg hne, if_neg hne, if_neg hne, e2]
      exact ⟨_, _, _, e3, rfl, rfl⟩
    · rw [if_pos e1]
      have hsz : (syncW d l).2.2.size = l.size := by rw [e2]
      have hse : (syncW d l).2.2.seg = l.seg := by rw [e2]
      have hne : (syncW d l).2.2.next = l.next := by rw [e2]
      have hsa : (syncW d l).2.2.safe + 1 = l.next := by
        rw [e2]; show l.next - 1 + 1 = l.next
        have := h.len; omega
      rw [← hsz] at e3
      rcases e3.new (by omega) (by omega) with ⟨n1, n2, n3⟩ | ⟨n1, n2, n3⟩
      · rw [if_neg n1, if_neg n1, if_neg n1, n2]
        exact ⟨_, _, _, n3, hse, hne⟩
      · rw [if_pos n1]
        exact fin n3 (by rw [n2]; exact hse) (by rw [n2]; exact hne)
  · rw [if_neg hf]
    exact fin h rfl rfl

/-! ### Trim -/
theorem del_first {x : Fl} {X : List Fl} (h : ∀ y ∈ X, bytesBefore x.key y.key = true) : delF x.key (x :: X) = X ∧ findF x.key (x :: X) = some x := by
  constructor
  · unfold delF
    rw [List.filter_cons]
    simp only [beq_self_eq_true, Bool.not_true, Bool.false_eq_true, if_false]
    exact List.filter_eq_self.2 fun y hy => by have := before_ne (h y hy); simpa using Ne.symm this
  · unfold findF; simp
theorem LInv.trim1 {rs : List (List UInt8)} {t : List (List (List UInt8))} (h : LInv d l all a (rs :: t) lst sb) :
    ((d.remove (nameN a)).1 ≠ 0 ∧ LInv (d.remove (nameN a)).2 l all a (rs :: t) lst sb ∧ ((d.off = false → d.armed = false → False))) ∨
    ((d.remove (nameN a)).1 = 0 ∧ LInv (d.remove (nameN a)).2 { l with nums := l.nums.tail } all (a + rs.length) t lst sb ∧ (d.remove (nameN a)).2.off = d.off ∧ (d.remove (nameN a)).2.armed = d.armed ∧ (d.remove (nameN a)).2.room = d.room) := by
  have hrise := h.ok.rise
  have hL : d.L = ⟨nameN a, bs (framesN rs), (framesN rs).length⟩ :: (fulls (a + rs.length) t ++ [⟨nameN (a + rs.length + t.flatten.length), bs (framesN lst), sb⟩]) := by
    rw [h.files]; simp [fulls, Nat.add_assoc]
  rw [hL] at hrise
  obtain ⟨f1, f2⟩ := del_first (x := ⟨nameN a, bs (framesN rs), (framesN rs).length⟩) (List.pairwise_cons.1 hrise).1
  have hc : d.remove (nameN a) = if d.off then (143, d) else d.act (fulls (a + rs.length) t ++ [⟨nameN (a + rs.length + t.flatten.length), bs (framesN lst), sb⟩]) := by
    unfold Dk.remove
    rw [hL, show (nameN a).data.toList = (Fl.mk (nameN a) (bs (framesN rs)) (framesN rs).length).key from rfl, f2, f1]
  have hok := h.ok.remove (nameN a)
  rw [hc] at hok ⊢
  by_cases ho : d.off = true
  · rw [if_pos ho]; exact .inl ⟨by simp, h, fun h1 => by rw [h1] at ho; cases ho⟩
  · rw [if_neg ho] at hok ⊢
    cases hr : d.refuses with
    | true =>
      rw [act_no hr]
      exact .inl ⟨by simp, h.gone, fun _ h2 => by simp [Dk.refuses, h2] at hr⟩
    | false =>
      rw [act_go hr] at hok ⊢
      have e := h.next
      have hpos := h.pos rs (by simp)
      simp only [List.flatten_cons, List.length_append] at e
      refine .inr ⟨rfl, ⟨rfl, ?_, ?_, ?_, ?_, h.len, h.seg1, fun q hq => h.full q (by simp [hq]), h.size, h.sble, h.safe1, ?_, h.small, h.max, hok⟩, rfl, rfl, rfl⟩
      · show l.nums.tail = _
        rw [h.nums]; simp [numsOf, Nat.add_assoc]
      · have := h.a1; omega
      · have := h.recs
        have h2 : (all.drop (a - 1)).drop rs.length = t.flatten ++ lst := by rw [this]; simp
        rw [List.drop_drop] at h2
        rw [← h2]
        congr 1
        have := h.a1; omega
      · show l.next = _; omega
      · have h2 := h.safe2
        simp only [List.flatten_cons, List.length_append] at h2
        rw [← Nat.add_assoc] at h2
        exact h2
/-- The numbers begin so. -/
theorem nums_two (a : Nat) (rs : List (List UInt8)) (t : List (List (List UInt8))) (q : Nat) (hq : q = a + (rs :: t).flatten.length) : ∃ rest, numsOf a (rs :: t) ++ [q] = a :: (a + rs.length) :: rest ∧ numsOf (a + rs.length) t ++ [q] = (a + rs.length) :: rest := by
  cases t with
  | nil => exact ⟨[], by subst hq; simp [numsOf], by subst hq; simp [numsOf]⟩
  | cons rs' t => exact ⟨numsOf (a + rs.length + rs'.length) t ++ [q], by simp [numsOf], by simp [numsOf]⟩
/-- What a Trim does: the log stands; its first number does not sink, and what is gone had numbers up to n. -/
theorem LInv.trim (n : Int) : ∀ (init : List (List (List UInt8))) {d : Dk} {l : Lg} {a : Nat}, LInv d l all a init lst sb →
    ∃ a' init', LInv (trimN n d l.nums).2.1 { l with nums := (trimN n d l.nums).2.2 } all a' init' lst sb ∧ a ≤ a' ∧ (a < a' → (a' : Int) - 1 ≤ n) ∧
      (d.off = false → d.armed = false → (trimN n d l.nums).1 = 0 ∧ (trimN n d l.nums).2.1.off = false ∧ (trimN n d l.nums).2.1.armed = false) ∧ (trimN n d l.nums).2.1.room = d.room
  | [], d, l, a, h => by
    have hn : l.nums = [a + ([] : List (List (List UInt8))).flatten.length] := by rw [h.nums]; rfl
    have e : trimN n d l.nums = (0, d, l.nums) := by rw [hn]; rfl
    rw [e]
    exact ⟨a, [], h, Nat.le_refl _, fun h => by omega, fun h1 h2 => ⟨rfl, h1, h2⟩, rfl⟩
  | rs :: t, d, l, a, h => by
    obtain ⟨rest, e1, e2⟩ := nums_two a rs t _ rfl
    rw [← h.nums] at e1
    have e : trimN n d l.nums = if ((a + rs.length : Nat) : Int) - 1 ≤ n then (if (d.remove (nameN a)).1 = 0 then trimN n (d.remove (nameN a)).2 ((a + rs.length) :: rest) else ((d.remove (nameN a)).1, (d.remove (nameN a)).2, l.nums)) else (0, d, l.nums) := by rw [e1]; rfl
    rw [e]
    by_cases hc : ((a + rs.length : Nat) : Int) - 1 ≤ n
    · rw [if_pos hc]
      rcases h.trim1 with ⟨r1, r2, r3⟩ | ⟨r1, r2, r3, r4, r5⟩
      · rw [if_neg r1]
        exact ⟨a, _, r2, Nat.le_refl _, fun h => by omega, fun h1 h2 => (r3 h1 h2).elim, by unfold Dk.remove Dk.act; (repeat' split) <;> rfl⟩
      · rw [if_pos r1]
        obtain ⟨a', init', i1, i2, i3, i4, i5⟩ := LInv.trim n t r2
        have et : ({ l with nums := l.nums.tail } : Lg).nums = (a + rs.length) :: rest := by show l.nums.tail = _; rw [e1]; rfl
        rw [et] at i1 i4 i5
        refine ⟨a', init', i1, by omega, fun _ => ?_, fun h1 h2 => i4 (r3.trans h1) (r4.trans h2), i5.trans r5⟩
        by_cases hq : a + rs.length < a'
        · exact i3 hq
        · have : a' = a + rs.length := by omega
          rw [this]; exact hc
    · rw [if_neg hc]
      exact ⟨a, _, h, Nat.le_refl _, fun h => by omega, fun h1 h2 => ⟨rfl, h1, h2⟩, rfl⟩

/-! ### Read -/
theorem read_at {L : List Fl} {n : Nat} {b : ByteArray} {s : Nat} (ho : d.off = false) (hL : d.L = L) (hf : findF (nameL n) L = some ⟨nameN n, b, s⟩) : d.read (nameN n) = (b, 0) := by
  unfold Dk.read
  rw [hL, show (nameN n).data.toList = nameL n from rfl, hf, ho]
  rfl
theorem bs_data' (l : List UInt8) : (bs l).data.toList = l := rfl
theorem read_all (ho : d.off = false) (fr next : Nat) : ∀ (init : List (List (List UInt8))) (a : Nat) (out : List (List UInt8)) (Y : List Fl) (s : Nat),
    d.L = Y ++ (fulls a init ++ [⟨nameN (a + init.flatten.length), bs (framesN lst), s⟩]) → Rising d.L → (∀ r ∈ init.flatten ++ lst, r.length ≤ 65536) → next = a + init.flatten.length + lst.length → fr ≤ next →
    readN d fr next out (numsOf a init ++ [a + init.flatten.length]) = (out ++ (init.flatten ++ lst).drop (fr - a), 0)
  | [], a, out, Y, s, hL, hr, hs, hn, hf => by
    simp only [List.flatten_nil, List.length_nil, Nat.add_zero, fulls, numsOf, List.nil_append] at hL hn hs ⊢
    have hfi : findF (nameL a) d.L = some ⟨nameN a, bs (framesN lst), s⟩ := find_of_idx hr (i := Y.length) (g := ⟨nameN a, bs (framesN lst), s⟩) (by rw [hL]; simp)
    rw [show readN d fr next out [a] = if next ≤ fr then (out, 0) else if (d.read (nameN a)).2 = 0 then (out ++ (scanF (d.read (nameN a)).1.data.toList).1.drop (fr - a), 0) else ([], (d.read (nameN a)).2) from rfl]
    by_cases hc : next ≤ fr
    · rw [if_pos hc, List.drop_eq_nil_of_le (by omega), List.append_nil]
    · rw [if_neg hc, read_at ho rfl hfi, if_pos rfl, bs_data']
      have := scan_frames lst [] hs
      rw [List.append_nil, scan_nil] at this
      rw [this]
      simp
  | rs :: t, a, out, Y, s, hL, hr, hs, hn, hf => by
    obtain ⟨rest, e1, e2⟩ := nums_two a rs t _ rfl
    have hfi : findF (nameL a) d.L = some ⟨nameN a, bs (framesN rs), (framesN rs).length⟩ := find_of_idx hr (i := Y.length) (g := ⟨nameN a, bs (framesN rs), (framesN rs).length⟩) (by rw [hL]; simp [fulls])
    have hq : a + (rs :: t).flatten.length = a + rs.length + t.flatten.length := by simp [Nat.add_assoc]
    have ih := fun out => read_all ho fr next t (a + rs.length) out (Y ++ [⟨nameN a, bs (framesN rs), (framesN rs).length⟩]) s (by rw [hL, hq]; simp [fulls]) hr (fun r h => hs r (by rw [List.flatten_cons, List.append_assoc]; exact List.mem_append_right _ h)) (by rw [hn, hq]) hf
    rw [← hq, e2] at ih
    rw [e1]
    rw [show readN d fr next out (a :: (a + rs.length) :: rest) = if a + rs.length ≤ fr then readN d fr next out ((a + rs.length) :: rest) else if (d.read (nameN a)).2 = 0 then readN d fr next (out ++ (scanF (d.read (nameN a)).1.data.toList).1.drop (fr - a)) ((a + rs.length) :: rest) else ([], (d.read (nameN a)).2) from rfl]
    by_cases hc : a + rs.length ≤ fr
    · have hd : (rs ++ (t.flatten ++ lst)).drop (fr - a) = (t.flatten ++ lst).drop (fr - (a + rs.length)) := by
        rw [show fr - a = rs.length + (fr - (a + rs.length)) by omega, ← List.drop_drop, List.drop_left]
      rw [if_pos hc, ih, List.flatten_cons, List.append_assoc, hd]
    · rw [if_neg hc, read_at ho rfl hfi, if_pos rfl, bs_data']
      have := scan_frames rs [] (fun r h => hs r (by simp [h]))
      rw [List.append_nil, scan_nil] at this
      rw [this, ih]
      simp only [List.append_nil, List.flatten_cons, List.append_assoc]
      rw [show fr - (a + rs.length) = 0 by omega, List.drop_zero, List.drop_append_of_le_length (by omega)]
theorem LInv.read (h : LInv d l all a init lst sb) (ho : d.off = false) (fr : Nat) (h1 : a ≤ fr) (h2 : fr ≤ l.next) : readN d fr l.next [] l.nums = (all.drop (fr - 1), 0) := by
  rw [h.nums, read_all ho fr l.next init a [] [] sb (by rw [h.files]; rfl) h.ok.rise (fun r hr => h.small r (List.mem_of_mem_drop (by rw [h.recs]; exact hr))) h.next h2, ← h.recs, List.drop_drop]
  simp only [List.nil_append, Prod.mk.injEq, and_true]
  congr 1
  have := h.a1; omega
end
end Go.Proofs.YtnpgjlhnlakgpaaDoor

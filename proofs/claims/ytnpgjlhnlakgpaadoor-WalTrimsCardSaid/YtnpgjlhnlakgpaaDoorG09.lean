/- The plain model of a log: on a disk whose power stays, with room, every Add is done. The plain model of a log: its files one by one; its bounds; how Add, Sync, Trim go on. -/
import Derived.Test.YtnpgjlhnlakgpaaDoorWalLh
namespace Go.Proofs.YtnpgjlhnlakgpaaDoor

section
variable {d : Dk} {l : Lg} {all : List (List UInt8)} {a : Nat} {init : List (List (List UInt8))} {lst : List (List UInt8)} {sb : Nat}
theorem used_app : ∀ (A B : List Fl), usedF (A ++ B) = usedF A + usedF B := fun A B => by simp [usedF]
theorem used_fulls : ∀ (a : Nat) (x : List (List (List UInt8))), usedF (fulls a x) = (framesN x.flatten).length
  | _, [] => rfl
  | a, rs :: t => by
    have h := used_fulls (a + rs.length) t
    simp only [fulls, List.flatten_cons, framesN_app, List.length_append, usedF, List.map_cons, List.sum_cons, bs_size] at h ⊢
    omega
theorem frames_le : ∀ (l : List (List UInt8)), (∀ r ∈ l, r.length ≤ 1000) → (framesN l).length ≤ 1012 * l.length
  | [], _ => by simp [framesN]
  | r :: l, h => by
    have h1 := h r (by simp)
    have h2 := frames_le l (fun q hq => h q (by simp [hq]))
    rw [framesN_cons, List.length_append, frame_len, List.length_cons]
    omega
theorem LInv.used (h : LInv d l all a init lst sb) (hs : ∀ r ∈ all, r.length ≤ 1000) : usedF d.L ≤ 1012 * all.length := by
  rw [h.files, used_app, used_fulls]
  have e : usedF [(⟨nameN (a + init.flatten.length), bs (framesN lst), sb⟩ : Fl)] = (framesN lst).length := by simp [usedF, bs_size]
  rw [e, ← List.length_append, ← framesN_app, ← h.recs]
  have h1 := frames_le (all.drop (a - 1)) (fun r hr => hs r (List.mem_of_mem_drop hr))
  have h2 : (all.drop (a - 1)).length ≤ all.length := by rw [List.length_drop]; omega
  have : 1012 * (all.drop (a - 1)).length ≤ 1012 * all.length := Nat.mul_le_mul_left _ h2
  omega
theorem flatten_ge : ∀ (x : List (List (List UInt8))), (∀ rs ∈ x, 1 ≤ rs.length) → x.length ≤ x.flatten.length
  | [], _ => Nat.zero_le _
  | rs :: t, h => by
    have h1 := h rs (by simp)
    have h2 := flatten_ge t (fun q hq => h q (by simp [hq]))
    simp only [List.length_cons, List.flatten_cons, List.length_append]
    omega
theorem fulls_length : ∀ (a : Nat) (x : List (List (List UInt8))), (fulls a x).length = x.length
  | _, [] => rfl
  | a, rs :: t => by simp [fulls, fulls_length (a + rs.length) t]
theorem LInv.count (h : LInv d l all a init lst sb) : d.L.length ≤ all.length + 1 := by
  have h1 := flatten_ge init h.pos
  have h2 := h.next
  have h3 := h.len
  have h4 := h.a1
  rw [h.files, List.length_append, fulls_length, List.length_singleton]
  omega
/-- The power stays. -/
structure Calm (d : Dk) : Prop where
  off : d.off = false
  armed : d.armed = false
  room : d.room = 1048576
theorem Calm.go (c : Calm d) (L : List Fl) : d.act L = (0, { d.stepped with L := L }) ∧ Calm { d.stepped with L := L } :=
  ⟨act_go (by simp [Dk.refuses, c.armed]), ⟨c.off, c.armed, c.room⟩⟩
theorem LInv.sync_calm (h : LInv d l all a init lst sb) (c : Calm d) : (syncW d l).1 = 0 ∧ Calm (syncW d l).2.1 := by
  have e : ∃ L, d.sync (nameN l.lastN) = d.act L := by
    unfold Dk.sync
    rw [h.find, c.off]
    exact ⟨_, rfl⟩
  obtain ⟨L, e⟩ := e
  unfold syncW
  rw [e, (c.go L).1]
  exact ⟨rfl, (c.go L).2⟩
theorem LInv.app_calm (h : LInv d l all a init lst sb) (c : Calm d) (r : List UInt8) (hr : r.length + 12 ≤ 1048576 - usedF d.L) : (appW d l r).1 = 0 ∧ Calm (appW d l r).2.1 := by
  have e : ∃ L, d.append (nameN l.lastN) (bs (frameN r)) = d.act L := by
    unfold Dk.append
    rw [h.find, c.off, if_neg (by decide)]
    simp only
    rw [if_neg (by rw [bs_size, frame_len, c.room]; omega)]
    exact ⟨_, rfl⟩
  obtain ⟨L, e⟩ := e
  unfold appW
  rw [e, (c.go L).1]
  exact ⟨rfl, (c.go L).2⟩
theorem LInv.new_calm (h : LInv d l all a init lst l.size) (c : Calm d) (hf : l.seg ≤ l.size) (hs : l.safe + 1 = l.next) (hm : d.L.length < 64) : (newW d l).1 = 0 ∧ Calm (newW d l).2.1 := by
  have hi := h.new hf hs
  have e : (d.create (nameN l.next)).1 ≠ 0 → (d.create (nameN l.next)).1 = 141 := by
    unfold Dk.create
    rw [c.off, if_neg (by decide), if_neg (by simp [namedB, nameN_size])]
    split
    · intro _; rfl
    · rw [if_neg (by omega), (c.go _).1]
      intro h; exact absurd rfl h
  have e2 : (d.create (nameN l.next)).1 = 0 → Calm (d.create (nameN l.next)).2 := by
    unfold Dk.create
    rw [c.off, if_neg (by decide), if_neg (by simp [namedB, nameN_size])]
    split
    · intro h; cases h
    · rw [if_neg (by omega), (c.go _).1]
      intro _; exact (c.go _).2
  by_cases h0 : (d.create (nameN l.next)).1 = 0
  · unfold newW
    rw [if_pos h0]
    exact ⟨rfl, e2 h0⟩
  · exfalso
    have hn : (findF (nameN l.next).data.toList d.L).isSome = true := by
      have h1 := e h0
      unfold Dk.create at h1
      rw [c.off, if_neg (by decide), if_neg (by simp [namedB, nameN_size])] at h1
      split at h1
      · assumption
      · rw [if_neg (by omega), (c.go _).1] at h1; cases h1
    rcases hi with ⟨n1, n2, n3⟩ | ⟨n1, n2, n3⟩
    · obtain ⟨f, hf'⟩ := Option.isSome_iff_exists.1 hn
      have hk := findF_key hf'
      have hm' := findF_mem hf'
      rw [h.files] at hm'
      have hnx := h.next
      have hmx := h.max
      have hl1 : 1 ≤ lst.length := frames_pos (by have := h.seg1; have := h.size; omega)
      rcases List.mem_append.1 hm' with hq | hq
      · have := h.below f hq
        rw [hk] at this
        have h2 := name_lt (a := a + init.flatten.length) (b := l.next) (by omega) (by omega)
        exact before_asymm h2 this
      · rw [List.mem_singleton.1 hq] at hk
        have := name_inj (by omega) (by omega) hk
        omega
    · unfold newW at n1
      rw [if_neg h0] at n1
      exact h0 n1
theorem LInv.add_calm (h : LInv d l all a init lst sb) (c : Calm d) (r : List UInt8) (hr : r.length ≤ 1000) (hs : ∀ q ∈ all, q.length ≤ 1000) (hn : all.length < 60) : (addW d l r).1 = 0 ∧ Calm (addW d l r).2.1 := by
  have hlen := h.len
  have c0 : ¬ (65536 < r.length ∨ 999999999999 < l.next) := by omega
  unfold addW
  rw [if_neg c0]
  by_cases hf : l.seg ≤ l.size
  · rw [if_pos hf]
    obtain ⟨s1, s2⟩ := h.sync_calm c
    rcases h.sync with ⟨e1, _⟩ | ⟨_, e2, e3⟩
    · rw [s1] at e1; cases e1
    rw [if_pos s1]
    have hsz : (syncW d l).2.2.size = l.size := by rw [e2]
    have hse : (syncW d l).2.2.seg = l.seg := by rw [e2]
    have hne : (syncW d l).2.2.next = l.next := by rw [e2]
    have hsa : (syncW d l).2.2.safe + 1 = l.next := by rw [e2]; show l.next - 1 + 1 = l.next; omega
    rw [← hsz] at e3
    obtain ⟨n1, n2⟩ := e3.new_calm s2 (by omega) (by omega) (by have := e3.count; omega)
    rcases e3.new (by omega) (by omega) with ⟨m1, _⟩ | ⟨_, _, m3⟩
    · exact absurd n1 m1
    rw [if_pos n1]
    exact m3.app_calm n2 r (by have := m3.used hs; omega)
  · rw [if_neg hf]
    exact h.app_calm c r (by have := h.used hs; omega)
end
end Go.Proofs.YtnpgjlhnlakgpaaDoor
namespace Go.Proofs.YtnpgjlhnlakgpaaDoor

section
variable {d : Dk} {l : Lg} {all : List (List UInt8)} {a : Nat} {init : List (List (List UInt8))} {lst : List (List UInt8)} {sb : Nat}
/-- A file of a log's: its name, its records, how safe. -/
theorem fulls_at : ∀ (x : List (List (List UInt8))) (a j : Nat) (p : List (List UInt8)), x[j]? = some p → (fulls a x)[j]? = some ⟨nameN (a + (x.take j).flatten.length), bs (framesN p), (framesN p).length⟩
  | [], _, _, _, h => by simp at h
  | rs :: t, a, 0, p, h => by simp at h; subst h; simp [fulls]
  | rs :: t, a, j + 1, p, h => by
    have := fulls_at t (a + rs.length) j p (by simpa using h)
    simp only [fulls, List.getElem?_cons_succ, List.take_succ_cons, List.flatten_cons, List.length_append]
    rw [← Nat.add_assoc]
    exact this
theorem LInv.file (h : LInv d l all a init lst sb) (j : Nat) (p : List (List UInt8)) (hp : (init ++ [lst])[j]? = some p) :
    ∃ s, d.L[j]? = some ⟨nameN (a + ((init ++ [lst]).take j).flatten.length), bs (framesN p), s⟩ ∧ (j < init.length → s = (framesN p).length ∧ l.seg ≤ (framesN p).length) ∧ (∀ r ∈ p, r.length ≤ 65536) := by
  have hsm : ∀ r ∈ init.flatten ++ lst, r.length ≤ 65536 := fun r hr => h.small r (List.mem_of_mem_drop (by rw [h.recs]; exact hr))
  by_cases hj : j < init.length
  · rw [List.getElem?_append_left hj] at hp
    refine ⟨(framesN p).length, ?_, fun _ => ⟨rfl, h.full p (List.mem_of_getElem? hp)⟩, fun r hr => hsm r (List.mem_append_left _ (List.mem_flatten.2 ⟨p, List.mem_of_getElem? hp, hr⟩))⟩
    rw [h.files, List.getElem?_append_left (by rw [fulls_length]; exact hj), fulls_at init a j p hp, List.take_append_of_le_length (by omega)]
  · have hj2 : j = init.length := by
      have := (List.getElem?_eq_some_iff.1 hp).1
      simp at this
      omega
    subst hj2
    rw [List.getElem?_append_right (Nat.le_refl _)] at hp
    simp at hp
    subst hp
    refine ⟨sb, ?_, fun h => absurd h hj, fun r hr => hsm r (List.mem_append_right _ hr)⟩
    rw [h.files, List.getElem?_append_right (by rw [fulls_length]; omega), fulls_length, Nat.sub_self, List.take_left]
    rfl
theorem LInv.many (h : LInv d l all a init lst sb) : d.L.length = init.length + 1 ∧ init.length < 64 ∧ l.nums.length = init.length + 1 := by
  have h1 := h.ok.many
  have h2 : ∀ (x : List (List (List UInt8))) (a : Nat), (numsOf a x).length = x.length := fun x => by
    induction x with
    | nil => intro _; rfl
    | cons rs t ih => intro a; simp [numsOf, ih]
  rw [h.files, List.length_append, fulls_length, List.length_singleton] at h1
  exact ⟨by rw [h.files, List.length_append, fulls_length, List.length_singleton], by omega, by rw [h.nums, List.length_append, h2, List.length_singleton]⟩
theorem LInv.total (h : LInv d l all a init lst sb) : a + (init ++ [lst]).flatten.length = l.next := by
  rw [h.next, List.flatten_append, List.length_append, List.flatten_cons, List.flatten_nil, List.append_nil, Nat.add_assoc]
theorem LInv.bytes (h : LInv d l all a init lst sb) : l.size ≤ 4194304 := by
  have h1 := h.ok.used
  have h2 := h.ok.room
  rw [h.files, used_app] at h1
  have e : usedF [(⟨nameN (a + init.flatten.length), bs (framesN lst), sb⟩ : Fl)] = (framesN lst).length := by simp [usedF, bs_size]
  rw [e, ← h.size] at h1
  omega
/-- The start: a log without a record. -/
theorem LInv.start {room : Nat} {seg : Nat} (hr : room ≤ 4194304) (h1 : 1 ≤ seg) : ((Dk.new room).create (nameN 1)).1 = 0 ∧ LInv ((Dk.new room).create (nameN 1)).2 ⟨seg, [1], 0, 1, 0⟩ [] 1 [] [] 0 ∧
    ((Dk.new room).create (nameN 1)).2.off = false ∧ ((Dk.new room).create (nameN 1)).2.armed = false ∧ ((Dk.new room).create (nameN 1)).2.room = room ∧ ((Dk.new room).create (nameN 1)).2.steps = 1 := by
  have hok := (Dk.Ok.new hr).create (nameN 1)
  have e : (Dk.new room).create (nameN 1) = (0, { (Dk.new room).stepped with L := [⟨nameN 1, ByteArray.empty, 0⟩] }) := by
    unfold Dk.create
    rw [if_neg (by simp [Dk.new]), if_neg (by simp [namedB, nameN_size]), if_neg (by simp [Dk.new, findF]), if_neg (by simp [Dk.new])]
    rw [act_go (by simp [Dk.refuses, Dk.new])]
    rfl
  rw [e] at hok ⊢
  exact ⟨rfl, ⟨rfl, rfl, Nat.le_refl _, rfl, rfl, rfl, h1, by simp, rfl, Nat.le_refl _, Nat.le_refl _, by simp [framesN], by simp, by show (1 : Nat) ≤ _; omega, hok⟩, rfl, rfl, rfl, rfl⟩
theorem syncW_seg (d : Dk) (l : Lg) : (syncW d l).2.2.seg = l.seg ∧ (syncW d l).2.2.nums = l.nums ∧ (syncW d l).2.2.next = l.next := by
  unfold syncW
  split <;> exact ⟨rfl, rfl, rfl⟩
theorem act_steps (d : Dk) (L : List Fl) : (d.act L).2.steps ≤ d.steps + 1 := by
  unfold Dk.act
  split
  · show d.steps ≤ _; omega
  · show d.steps + 1 ≤ _; omega
theorem sync_st (d : Dk) (nm : ByteArray) : (d.sync nm).2.steps ≤ d.steps + 1 := by
  unfold Dk.sync
  split
  · show d.steps ≤ _; omega
  · split
    · show d.steps ≤ _; omega
    · exact act_steps _ _
theorem create_st (d : Dk) (nm : ByteArray) : (d.create nm).2.steps ≤ d.steps + 1 := by
  unfold Dk.create
  repeat' split
  all_goals first | (show d.steps ≤ _; omega) | exact act_steps _ _
theorem append_st (d : Dk) (nm b : ByteArray) : (d.append nm b).2.steps ≤ d.steps + 1 := by
  unfold Dk.append
  repeat' split
  all_goals first | (show d.steps ≤ _; omega) | exact act_steps _ _
theorem remove_st (d : Dk) (nm : ByteArray) : (d.remove nm).2.steps ≤ d.steps + 1 := by
  unfold Dk.remove
  repeat' split
  all_goals first | (show d.steps ≤ _; omega) | exact act_steps _ _
theorem syncW_st (d : Dk) (l : Lg) : (syncW d l).2.1.steps ≤ d.steps + 1 := by
  unfold syncW
  split <;> exact sync_st _ _
theorem newW_st (d : Dk) (l : Lg) : (newW d l).2.1.steps ≤ d.steps + 1 := by
  unfold newW
  split <;> exact create_st _ _
theorem appW_st (d : Dk) (l : Lg) (r : List UInt8) : (appW d l r).2.1.steps ≤ d.steps + 1 := by
  unfold appW
  split <;> exact append_st _ _ _
theorem addW_st (d : Dk) (l : Lg) (r : List UInt8) : (addW d l r).2.1.steps ≤ d.steps + 3 := by
  have h1 := syncW_st d l
  have h2 := newW_st (syncW d l).2.1 (syncW d l).2.2
  have h3 := appW_st (newW (syncW d l).2.1 (syncW d l).2.2).2.1 (newW (syncW d l).2.1 (syncW d l).2.2).2.2 r
  have h4 := appW_st d l r
  unfold addW
  repeat' split
  all_goals first | (show d.steps ≤ _; omega) | omega
theorem trimN_st (n : Int) : ∀ (nums : List Nat) (d : Dk), (trimN n d nums).2.1.steps ≤ d.steps + nums.length
  | [], d => Nat.le_refl _
  | [a], d => by show d.steps ≤ _; omega
  | a :: b :: t, d => by
    have h1 := remove_st d (nameN a)
    have h2 := trimN_st n (b :: t) (d.remove (nameN a)).2
    simp only [List.length_cons] at h2 ⊢
    unfold trimN
    split
    · split
      · omega
      · show (d.remove (nameN a)).2.steps ≤ _; omega
    · show d.steps ≤ _; omega
end
end Go.Proofs.YtnpgjlhnlakgpaaDoor

/- The plain law of renames: at every moment of writing a new file and giving it an elder one's name a crash leaves the elder bytes or the new ones. -/
import Derived.Test.YtnpgjlhnlakgpaaDoorVfsOk
namespace Go.Proofs.YtnpgjlhnlakgpaaDoor
open Go.RowKit Go.Maps

theorem findF_ins_same {f : Fl} : ∀ {L : List Fl}, (∀ g ∈ L, g.key ≠ f.key) → findF f.key (insF f L) = some f
  | [], _ => by simp [insF, findF]
  | y :: r, h => by
    unfold insF
    split
    · simp [findF]
    · have hy : (y.key == f.key) = false := by simpa using h y (by simp)
      unfold findF
      rw [List.find?_cons, hy]
      exact findF_ins_same (fun g hg => h g (by simp [hg]))
theorem findF_ins_other {f : Fl} {k : List UInt8} (hk : f.key ≠ k) : ∀ {L : List Fl}, findF k (insF f L) = findF k L
  | [] => by simp [insF, findF, hk]
  | y :: r => by
    have hf : (f.key == k) = false := by simpa using hk
    unfold insF
    split
    · unfold findF; rw [List.find?_cons, hf]
    · unfold findF
      rw [List.find?_cons, List.find?_cons]
      have ih := findF_ins_other hk (L := r)
      unfold findF at ih
      rw [ih]
theorem findF_del_same (k : List UInt8) (L : List Fl) : findF k (delF k L) = none := by
  unfold findF delF
  rw [List.find?_eq_none]
  intro x hx
  have := (List.mem_filter.1 hx).2
  simpa using this
theorem findF_del_other {k k' : List UInt8} (hk : k ≠ k') (L : List Fl) : findF k (delF k' L) = findF k L := by
  unfold findF delF
  induction L with
  | nil => rfl
  | cons y r ih =>
    rw [List.filter_cons]
    by_cases hy : y.key = k'
    · have h1 : (!(y.key == k')) = false := by simp [hy]
      have h2 : (y.key == k) = false := by simp [hy]; exact fun e => hk e.symm
      simp only [h1, Bool.false_eq_true, if_false]
      rw [ih, List.find?_cons, h2]
    · have h1 : (!(y.key == k')) = true := by simpa using hy
      simp only [h1, if_true]
      rw [List.find?_cons, List.find?_cons, ih]
theorem findF_put_same (f : Fl) (L : List Fl) : findF f.key (putF f L) = some f :=
  findF_ins_same fun g hg => by have := (List.mem_filter.1 hg).2; simpa using this
theorem findF_put_other {f : Fl} {k : List UInt8} (hk : f.key ≠ k) (L : List Fl) : findF k (putF f L) = findF k L := by
  unfold putF
  rw [findF_ins_other hk, findF_del_other (fun e => hk e.symm)]
theorem act_go {d : Dk} {L : List Fl} (h : d.refuses = false) : d.act L = (0, { d.stepped with L := L }) := by simp [Dk.act, h]
theorem act_no {d : Dk} {L : List Fl} (h : d.refuses = true) : d.act L = (143, d.gone) := by simp [Dk.act, h]
theorem key_ne {a b : ByteArray} (h : a ≠ b) : a.data.toList ≠ b.data.toList := fun e => h (ba_of_list e)

/-- The disk that is written, behind each of the calls. -/
def renD (pt nw elder fresh : ByteArray) (n : Nat) : Dk :=
  (((((((Dk.new 262144).create pt).2.append pt elder).2.sync pt).2.arm n).create nw).2.append nw fresh).2
def renD3 (pt elder : ByteArray) : Dk := ⟨262144, [⟨pt, elder, elder.size⟩], false, false, 0, 3⟩

theorem ren_one {pt elder : ByteArray} (hp : namedB pt = true) (he : elder.size ≤ 65536) :
    (Dk.new 262144).create pt = (0, ⟨262144, [⟨pt, ByteArray.empty, 0⟩], false, false, 0, 1⟩) ∧
    (Dk.append ⟨262144, [⟨pt, ByteArray.empty, 0⟩], false, false, 0, 1⟩ pt elder) = (0, ⟨262144, [⟨pt, elder, 0⟩], false, false, 0, 2⟩) ∧
    (Dk.sync ⟨262144, [⟨pt, elder, 0⟩], false, false, 0, 2⟩ pt) = (0, renD3 pt elder) := by
  refine ⟨?_, ?_, ?_⟩
  · simp [Dk.create, Dk.new, hp, findF, Dk.act, Dk.refuses, Dk.stepped, putF, insF, delF]
  · have h : ¬ (262144 - usedF [⟨pt, ByteArray.empty, 0⟩] < elder.size) := by simp [usedF]; omega
    simp only [usedF, List.map_cons, List.map_nil, List.sum_cons, List.sum_nil] at h
    simp [Dk.append, findF, Dk.act, Dk.refuses, Dk.stepped, putF, insF, delF, usedF]
    omega
  · simp [Dk.sync, findF, Dk.act, Dk.refuses, Dk.stepped, putF, insF, delF, renD3]

/-- What stands under the elder name, whatever is done to the new one. -/
theorem ren_two {pt nw elder fresh : ByteArray} (hn : namedB nw = true) (hp : namedB pt = true) (hne : nw ≠ pt) (hf : fresh.size ≤ 65536) (he : elder.size ≤ 65536) (n : Nat) (hn6 : n < 6) (keep turn : List Int) :
    ((((((((renD3 pt elder).arm n).create nw).2.append nw fresh).2.sync nw).2.rename nw pt).2.crash keep turn).read pt) = (if 4 ≤ n then fresh else elder, 0) := by
  have k1 := key_ne hne
  have k2 := key_ne hne.symm
  have b1 : (pt.data.toList == nw.data.toList) = false := by simpa using k2
  have b2 : (nw.data.toList == pt.data.toList) = false := by simpa using k1
  have P0 : findF pt.data.toList [(⟨pt, elder, elder.size⟩ : Fl)] = some ⟨pt, elder, elder.size⟩ := by simp [findF]
  have N0 : findF nw.data.toList [(⟨pt, elder, elder.size⟩ : Fl)] = none := by
    unfold findF; rw [List.find?_cons]
    have b3 : (Fl.key ⟨pt, elder, elder.size⟩ == nw.data.toList) = false := b1
    rw [b3]; rfl
  have P1 : findF pt.data.toList (putF ⟨nw, ByteArray.empty, 0⟩ [(⟨pt, elder, elder.size⟩ : Fl)]) = some ⟨pt, elder, elder.size⟩ := by rw [findF_put_other (f := ⟨nw, ByteArray.empty, 0⟩) k1]; exact P0
  have N1 : findF nw.data.toList (putF ⟨nw, ByteArray.empty, 0⟩ [(⟨pt, elder, elder.size⟩ : Fl)]) = some ⟨nw, ByteArray.empty, 0⟩ := findF_put_same ⟨nw, ByteArray.empty, 0⟩ _
  have u1 : usedF (putF ⟨nw, ByteArray.empty, 0⟩ [(⟨pt, elder, elder.size⟩ : Fl)]) = elder.size := by
    rw [usedF_new (f := ⟨nw, ByteArray.empty, 0⟩) N0]; simp [usedF]
  generalize hL1 : putF ⟨nw, ByteArray.empty, 0⟩ [(⟨pt, elder, elder.size⟩ : Fl)] = L1 at *
  have P2 : findF pt.data.toList (putF ⟨nw, fresh, 0⟩ L1) = some ⟨pt, elder, elder.size⟩ := by rw [findF_put_other (f := ⟨nw, fresh, 0⟩) k1]; exact P1
  have N2 : findF nw.data.toList (putF ⟨nw, fresh, 0⟩ L1) = some ⟨nw, fresh, 0⟩ := findF_put_same ⟨nw, fresh, 0⟩ _
  generalize hL2 : putF ⟨nw, fresh, 0⟩ L1 = L2 at *
  have P3 : findF pt.data.toList (putF ⟨nw, fresh, fresh.size⟩ L2) = some ⟨pt, elder, elder.size⟩ := by rw [findF_put_other (f := ⟨nw, fresh, fresh.size⟩) k1]; exact P2
  have N3 : findF nw.data.toList (putF ⟨nw, fresh, fresh.size⟩ L2) = some ⟨nw, fresh, fresh.size⟩ := findF_put_same ⟨nw, fresh, fresh.size⟩ _
  generalize hL3 : putF ⟨nw, fresh, fresh.size⟩ L2 = L3 at *
  have P4 : findF pt.data.toList (putF ⟨pt, fresh, fresh.size⟩ (delF nw.data.toList L3)) = some ⟨pt, fresh, fresh.size⟩ := findF_put_same ⟨pt, fresh, fresh.size⟩ _
  generalize hL4 : putF ⟨pt, fresh, fresh.size⟩ (delF nw.data.toList L3) = L4 at *
  have c0 := findF_crash (keep := keep) (turn := turn) 0 _ P0 rfl
  have c1 := findF_crash (keep := keep) (turn := turn) 0 _ P1 rfl
  have c2 := findF_crash (keep := keep) (turn := turn) 0 _ P2 rfl
  have c3 := findF_crash (keep := keep) (turn := turn) 0 _ P3 rfl
  have c4 := findF_crash (keep := keep) (turn := turn) 0 _ P4 rfl
  have s1 : (findF nw.data.toList [(⟨pt, elder, elder.size⟩ : Fl)]).isSome = false := by rw [N0]; rfl
  have r1 : ¬ (262144 - usedF L1 < fresh.size) := by omega
  have cr : (renD3 pt elder).off = false := rfl
  have A : ((renD3 pt elder).arm n) = ⟨262144, [⟨pt, elder, elder.size⟩], false, true, n, 3⟩ := by simp [Dk.arm, renD3]
  rw [A]
  match n, hn6 with
  | 0, _ => simp [Dk.create, Dk.append, Dk.sync, Dk.rename, Dk.crash, Dk.read, hn, s1, Dk.act, Dk.refuses, Dk.gone, c0]
  | 1, _ => simp [Dk.create, Dk.append, Dk.sync, Dk.rename, Dk.crash, Dk.read, hn, s1, Dk.act, Dk.refuses, Dk.stepped, Dk.gone, c1, hL1, N1, r1]
  | 2, _ => simp [Dk.create, Dk.append, Dk.sync, Dk.rename, Dk.crash, Dk.read, hn, s1, Dk.act, Dk.refuses, Dk.stepped, Dk.gone, c2, hL1, N1, r1, hL2, N2]
  | 3, _ => simp [Dk.create, Dk.append, Dk.sync, Dk.rename, Dk.crash, Dk.read, hn, hp, s1, Dk.act, Dk.refuses, Dk.stepped, Dk.gone, c3, hL1, N1, r1, hL2, N2, hL3, N3, hne]
  | 4, _ => simp [Dk.create, Dk.append, Dk.sync, Dk.rename, Dk.crash, Dk.read, hn, hp, s1, Dk.act, Dk.refuses, Dk.stepped, c4, hL1, N1, r1, hL2, N2, hL3, N3, hne, hL4]
  | 5, _ => simp [Dk.create, Dk.append, Dk.sync, Dk.rename, Dk.crash, Dk.read, hn, hp, s1, Dk.act, Dk.refuses, Dk.stepped, c4, hL1, N1, r1, hL2, N2, hL3, N3, hne, hL4]
end Go.Proofs.YtnpgjlhnlakgpaaDoor

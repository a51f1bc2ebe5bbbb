/- The plain model of a log: opening anew behind crashes. -/
import Derived.Test.YtnpgjlhnlakgpaaDoorWalLi
import Derived.Test.YtnpgjlhnlakgpaaDoorG12
namespace Go.Proofs.YtnpgjlhnlakgpaaDoor
open Go.Lib

theorem cut_st (d : Dk) (nm : ByteArray) (n : Int) : (d.cut nm n).2.steps ≤ d.steps + 1 := by
  unfold Dk.cut
  split
  · show d.steps ≤ _; omega
  · split
    · show d.steps ≤ _; omega
    · split
      · show d.steps ≤ _; omega
      · unfold Dk.act
        split
        · show d.steps ≤ _; omega
        · show d.steps + 1 ≤ _; omega
theorem mendW_st (d : Dk) (l : Lg) (hv : Nat) : (mendW d l hv).2.1.steps ≤ d.steps + 2 := by
  have h1 := cut_st d (nameN l.lastN) (l.size : Int)
  have h2 := syncW_st (d.cut (nameN l.lastN) (l.size : Int)).2 l
  have h3 := syncW_st d l
  unfold mendW
  split
  · split
    · omega
    · simp only; omega
  · omega
theorem recW_st (d : Dk) (seg : Nat) (nums : List Nat) : (recW d seg nums).2.1.steps ≤ d.steps + 2 := by
  unfold recW
  split
  · split
    · simp only; omega
    · exact mendW_st _ _ _
  · simp only; omega
theorem openW_st (d : Dk) (seg : Nat) : (openW d seg).2.1.steps ≤ d.steps + 2 := by
  unfold openW
  split
  · simp only; omega
  · split
    · simp only; omega
    · have := create_st d (nameN 1)
      simp only; omega
    · exact recW_st _ _ _
theorem act_calm {d : Dk} (h : d.armed = false) (L : List Fl) : (d.act L).1 = 0 ∧ (d.act L).2.off = d.off ∧ (d.act L).2.armed = false := by
  rw [act_go (by simp [Dk.refuses, h])]
  exact ⟨rfl, rfl, h⟩
theorem read_calm {d : Dk} (ho : d.off = false) (nm : ByteArray) : (d.read nm).2 ≠ 143 := by
  unfold Dk.read
  rw [ho, if_neg (by decide)]
  split <;> simp
theorem recN_calm {d : Dk} (ho : d.off = false) : ∀ (nums : List Nat) (nx sz hv : Nat), (recN d nx sz hv nums).1 ≠ 143
  | [], _, _, _ => by simp [recN]
  | n :: t, nx, sz, hv => by
    simp only [recN]
    split
    · split
      · simp
      · exact recN_calm ho t _ _ _
    · exact read_calm ho _
theorem sync_calm {d : Dk} (ho : d.off = false) (ha : d.armed = false) (nm : ByteArray) : (d.sync nm).1 ≠ 143 := by
  unfold Dk.sync
  rw [ho, if_neg (by decide)]
  split
  · simp
  · rw [(act_calm ha _).1]; decide
theorem cut_calm {d : Dk} (ho : d.off = false) (ha : d.armed = false) (nm : ByteArray) (n : Int) : (d.cut nm n).1 ≠ 143 ∧ (d.cut nm n).2.off = false ∧ (d.cut nm n).2.armed = false := by
  unfold Dk.cut
  rw [ho, if_neg (by decide)]
  split
  · exact ⟨by simp, ho, ha⟩
  · split
    · exact ⟨by simp, ho, ha⟩
    · exact ⟨by rw [(act_calm ha _).1]; decide, by rw [(act_calm ha _).2.1, ho], (act_calm ha _).2.2⟩
theorem syncW_calm {d : Dk} (ho : d.off = false) (ha : d.armed = false) (l : Lg) : (syncW d l).1 ≠ 143 := by
  have h := sync_calm ho ha (nameN l.lastN)
  unfold syncW
  split
  · simp
  · exact h
theorem mendW_calm {d : Dk} (ho : d.off = false) (ha : d.armed = false) (l : Lg) (hv : Nat) : (mendW d l hv).1 ≠ 143 := by
  obtain ⟨h1, h2, h3⟩ := cut_calm ho ha (nameN l.lastN) (l.size : Int)
  unfold mendW
  split
  · split
    · exact syncW_calm h2 h3 l
    · exact h1
  · exact syncW_calm ho ha l
theorem recW_calm {d : Dk} (ho : d.off = false) (ha : d.armed = false) (seg : Nat) (nums : List Nat) : (recW d seg nums).1 ≠ 143 := by
  unfold recW
  split
  · split
    · simp
    · exact mendW_calm ho ha _ _
  · exact recN_calm ho _ _ _ _
theorem openW_calm {d : Dk} (ho : d.off = false) (ha : d.armed = false) (seg : Nat) (hn : ∃ n t, numsL d.L = some (n :: t)) : (openW d seg).1 ≠ 143 := by
  obtain ⟨n, t, hn⟩ := hn
  unfold openW
  rw [if_neg (by rw [ho]; decide), hn]
  exact recW_calm ho ha _ _
theorem sync_off {d : Dk} (ho : d.off = false) (ha : d.armed = false) (nm : ByteArray) : (d.sync nm).2.off = false := by
  unfold Dk.sync
  rw [ho, if_neg (by decide)]
  split
  · exact ho
  · rw [(act_calm ha _).2.1, ho]
theorem create_off {d : Dk} (ho : d.off = false) (ha : d.armed = false) (nm : ByteArray) : (d.create nm).2.off = false := by
  unfold Dk.create
  rw [ho, if_neg (by decide)]
  split
  · exact ho
  · split
    · exact ho
    · split
      · exact ho
      · rw [(act_calm ha _).2.1, ho]
theorem syncW_off {d : Dk} (ho : d.off = false) (ha : d.armed = false) (l : Lg) : (syncW d l).2.1.off = false := by
  have h := sync_off ho ha (nameN l.lastN)
  unfold syncW
  split <;> exact h
theorem mendW_off {d : Dk} (ho : d.off = false) (ha : d.armed = false) (l : Lg) (hv : Nat) : (mendW d l hv).2.1.off = false := by
  obtain ⟨h1, h2, h3⟩ := cut_calm ho ha (nameN l.lastN) (l.size : Int)
  unfold mendW
  split
  · split
    · exact syncW_off h2 h3 l
    · exact h2
  · exact syncW_off ho ha l
theorem openW_off {d : Dk} (ho : d.off = false) (ha : d.armed = false) (seg : Nat) : (openW d seg).2.1.off = false := by
  unfold openW
  rw [if_neg (by rw [ho]; decide)]
  split
  · exact ho
  · exact create_off ho ha _
  · unfold recW
    split
    · split
      · exact ho
      · exact mendW_off ho ha _ _
    · exact ho
section
variable {d : Dk} {l : Lg} {all : List (List UInt8)} {a : Nat} {init : List (List (List UInt8))} {lst : List (List UInt8)} {sb : Nat} {C : ByteArray} {seg : Nat}
theorem CInv.some_num (h : CInv d seg all a init lst C) : ∃ n t, numsL d.L = some (n :: t) := by
  have hlen := h.len
  have hmax := h.max
  have ha := h.a1
  have hnl : numsL d.L = some (numsOf a init ++ [a + init.flatten.length]) := by
    refine numsL_names _ _ ?_ ?_
    · rw [h.files]; simp [fulls_names]
    · intro n hn
      have := CInv.opens.nums_bd init a n hn
      omega
  rw [hnl]
  cases init with
  | nil => exact ⟨_, _, rfl⟩
  | cons rs t => exact ⟨_, _, rfl⟩
/-- What is left behind the crash is known. -/
def CR (d : Dk) (keep turn : List Int) (seg : Nat) (all : List (List UInt8)) (a : Nat) (init : List (List (List UInt8))) (lst : List (List UInt8)) : Prop := d.Ok ∧ ∃ C, CInv (d.crash keep turn) seg all a init lst C
theorem CInv.cr (h : CInv d seg all a init lst C) (keep turn : List Int) : CR d keep turn seg all a init lst := ⟨h.ok, C, (h.crash keep turn).1⟩
theorem LInv.cr (h : LInv d l all a init lst sb) (hs : l.safe + 1 = l.next) (hseg : l.seg = seg) (keep turn : List Int) : CR d keep turn seg all a init lst := by
  obtain ⟨j, C, hj, hc, hsj, _⟩ := h.crash keep turn
  have h1 := h.next
  have h2 := h.len
  have h3 := h.a1
  obtain rfl : j = lst.length := by omega
  rw [List.take_length, List.take_of_length_le (by omega), hseg] at hc
  exact ⟨h.ok, C, hc⟩
/-- Crash, and Open with so much power. -/
theorem CR.armed {keep turn : List Int} (h : CR d keep turn seg all a init lst) (n : Int) (hn : n < 9223372036854775808) :
    ((openW ((d.crash keep turn).arm n) seg).1 = 143 ∨ (openW ((d.crash keep turn).arm n) seg).1 = 0) ∧ CR (openW ((d.crash keep turn).arm n) seg).2.1 keep turn seg all a init lst := by
  obtain ⟨_, C, hc⟩ := h
  have hoff : ((d.crash keep turn).arm n).off = false := by unfold Dk.arm; split <;> rfl
  rcases (hc.arm n hn).opens hoff with ⟨h1, C', h2⟩ | ⟨h1, h2, h3, h4⟩
  · exact ⟨.inl h1, h2.cr keep turn⟩
  · exact ⟨.inr h1, h2.cr h4 h3 keep turn⟩
theorem CR.last {keep turn : List Int} (h : CR d keep turn seg all a init lst) :
    (openW (d.crash keep turn) seg).1 = 0 ∧ LInv (openW (d.crash keep turn) seg).2.1 (openW (d.crash keep turn) seg).2.2 all a init lst (openW (d.crash keep turn) seg).2.2.size ∧ (openW (d.crash keep turn) seg).2.2.seg = seg ∧ (openW (d.crash keep turn) seg).2.2.safe + 1 = (openW (d.crash keep turn) seg).2.2.next := by
  obtain ⟨_, C, hc⟩ := h
  rcases hc.opens rfl with ⟨h1, _⟩ | h1
  · exact absurd h1 (openW_calm rfl rfl seg hc.some_num)
  · exact h1
end
end Go.Proofs.YtnpgjlhnlakgpaaDoor

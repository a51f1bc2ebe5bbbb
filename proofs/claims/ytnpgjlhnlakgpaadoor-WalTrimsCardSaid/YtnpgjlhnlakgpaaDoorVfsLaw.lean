/- The plain laws of a disk: what is safe stays; an armed power lets just so many steps through; the room is never passed. -/
import Derived.Test.YtnpgjlhnlakgpaaDoorVfsRenL
namespace Go.Proofs.YtnpgjlhnlakgpaaDoor
open Go.RowKit Go.Maps

/-- A call. -/
structure Opn where
  kind : Int
  on : Int
  n : Int
  name : ByteArray
  data : ByteArray
  keep : List Int
  turn : List Int
def smallB (o : Opn) : Bool := decide (o.data.size ≤ 65536) && decide (o.name.size ≤ 65536)
def doesD (d : Dk) (o : Opn) : Int × Dk :=
  if o.kind = 1 then d.create o.name else if o.kind = 2 then d.append o.name o.data else if o.kind = 3 then d.sync o.name else if o.kind = 4 then d.cut o.name o.n else
  if o.kind = 5 then d.rename o.name o.data else if o.kind = 6 then d.remove o.name else (1, d)
theorem Dk.Ok.does {d : Dk} (h : d.Ok) (o : Opn) : (doesD d o).2.Ok := by
  unfold doesD
  split
  · exact h.create _
  split
  · exact h.append _ _
  split
  · exact h.sync _
  split
  · exact h.cut _ _
  split
  · exact h.rename _ _
  split
  · exact h.remove _
  · exact h
/-- A disk behind calls, each if it is small. -/
def playD (d : Dk) : List Opn → Dk
  | [] => d
  | o :: r => playD (if smallB o then (doesD d o).2 else d) r
theorem playD_snoc : ∀ (d : Dk) (l : List Opn) (o : Opn), playD d (l ++ [o]) = if smallB o then (doesD (playD d l) o).2 else playD d l
  | _, [], _ => rfl
  | d, x :: r, o => by
    show playD _ (r ++ [o]) = _
    rw [playD_snoc]; rfl
theorem Dk.Ok.play : ∀ {d : Dk}, d.Ok → ∀ l, (playD d l).Ok
  | _, h, [] => h
  | d, h, o :: r => by
    show (playD _ r).Ok
    refine Dk.Ok.play ?_ r
    split
    · exact h.does o
    · exact h

/-- Whether the power is on, a call is done, or refused for the power, or refused for what it asks. -/
theorem does_cases {d : Dk} (hoff : d.off = false) (o : Opn) : (∃ L, doesD d o = d.act L) ∨ ∃ e, doesD d o = (e, d) ∧ e ≠ 0 ∧ e ≠ 143 := by
  unfold doesD
  split
  · unfold Dk.create; rw [hoff]
    simp only [Bool.false_eq_true, if_false]
    split
    · exact .inr ⟨_, rfl, by decide, by decide⟩
    split
    · exact .inr ⟨_, rfl, by decide, by decide⟩
    split
    · exact .inr ⟨_, rfl, by decide, by decide⟩
    · exact .inl ⟨_, rfl⟩
  split
  · unfold Dk.append; rw [hoff]
    simp only [Bool.false_eq_true, if_false]
    split
    · exact .inr ⟨_, rfl, by decide, by decide⟩
    split
    · exact .inr ⟨_, rfl, by decide, by decide⟩
    · exact .inl ⟨_, rfl⟩
  split
  · unfold Dk.sync; rw [hoff]
    simp only [Bool.false_eq_true, if_false]
    split
    · exact .inr ⟨_, rfl, by decide, by decide⟩
    · exact .inl ⟨_, rfl⟩
  split
  · unfold Dk.cut; rw [hoff]
    simp only [Bool.false_eq_true, if_false]
    split
    · exact .inr ⟨_, rfl, by decide, by decide⟩
    split
    · exact .inr ⟨_, rfl, by decide, by decide⟩
    · exact .inl ⟨_, rfl⟩
  split
  · unfold Dk.rename; rw [hoff]
    simp only [Bool.false_eq_true, if_false]
    split
    · exact .inr ⟨_, rfl, by decide, by decide⟩
    split
    · exact .inr ⟨_, rfl, by decide, by decide⟩
    split
    · exact .inl ⟨_, rfl⟩
    · exact .inl ⟨_, rfl⟩
  split
  · unfold Dk.remove; rw [hoff]
    simp only [Bool.false_eq_true, if_false]
    split
    · exact .inr ⟨_, rfl, by decide, by decide⟩
    · exact .inl ⟨_, rfl⟩
  · exact .inr ⟨_, rfl, by decide, by decide⟩
theorem does_off {d : Dk} (hoff : d.off = true) (o : Opn) (h1 : 1 ≤ o.kind) (h6 : o.kind ≤ 6) : doesD d o = (143, d) := by
  unfold doesD
  split
  · unfold Dk.create; rw [if_pos hoff]
  split
  · unfold Dk.append; rw [if_pos hoff]
  split
  · unfold Dk.sync; rw [if_pos hoff]
  split
  · unfold Dk.cut; rw [if_pos hoff]
  split
  · unfold Dk.rename; rw [if_pos hoff]
  split
  · unfold Dk.remove; rw [if_pos hoff]
  · omega

/-! ### VfsArms -/
/-- What holds of an armed disk behind some of the calls: n steps were to be let through, s0 had been done when it was armed. -/
structure ArmR (d : Dk) (n s0 : Nat) : Prop where
  on : d.off = false → d.armed = true ∧ d.steps ≤ s0 + n ∧ s0 ≤ d.steps ∧ d.left = n - (d.steps - s0)
  off : d.off = true → d.steps = s0 + n
/-- The answer to a call is one that may be. -/
def armOk (d : Dk) (n s0 : Nat) (o : Opn) : Bool :=
  let r := doesD d o
  if d.off then r.1 == 143 && (r.2.off && (r.2.steps == d.steps && r.2.L == d.L))
  else if r.1 == 0 then r.2.steps == d.steps + 1 && (decide (r.2.steps - s0 ≤ n) && !r.2.off)
  else if r.1 == 143 then r.2.off && (r.2.steps - s0 == n && r.2.L == d.L)
  else !r.2.off && (r.2.steps == d.steps && r.2.L == d.L)
theorem ArmR.step {d : Dk} {n s0 : Nat} (h : ArmR d n s0) {o : Opn} (h1 : 1 ≤ o.kind) (h6 : o.kind ≤ 6) : ArmR (doesD d o).2 n s0 ∧ armOk d n s0 o = true := by
  by_cases hoff : d.off = true
  · have e := does_off hoff o h1 h6
    refine ⟨by rw [e]; exact h, ?_⟩
    unfold armOk
    simp [e, hoff]
  · have hoff' : d.off = false := by simpa using hoff
    obtain ⟨ha, hb, hc, hd⟩ := h.on hoff'
    rcases does_cases hoff' o with ⟨L, e⟩ | ⟨k, e, k0, k1⟩
    · by_cases hr : d.refuses = true
      · rw [act_no hr] at e
        have hl : d.left = 0 := by simp [Dk.refuses, ha] at hr; exact hr
        refine ⟨?_, ?_⟩
        · rw [e]
          refine ⟨fun h => ?_, fun _ => ?_⟩
          · simp [Dk.gone] at h
          · show d.steps = _; omega
        · unfold armOk
          simp only [e, hoff']
          simp [Dk.gone]
          omega
      · have hr' : d.refuses = false := by simpa using hr
        rw [act_go hr'] at e
        have hl : d.left ≠ 0 := by simp [Dk.refuses, ha] at hr; exact hr
        refine ⟨?_, ?_⟩
        · rw [e]
          refine ⟨fun _ => ⟨ha, ?_, ?_, ?_⟩, fun h => ?_⟩
          · show d.steps + 1 ≤ _; omega
          · show _ ≤ d.steps + 1; omega
          · show (if d.armed then d.left - 1 else d.left) = n - (d.steps + 1 - s0)
            rw [if_pos ha]; omega
          · have : d.off = true := h
            rw [hoff'] at this; cases this
        · unfold armOk
          simp only [e, hoff']
          simp [Dk.stepped, hoff']
          omega
    · refine ⟨by rw [e]; exact h, ?_⟩
      unfold armOk
      simp only [e, hoff']
      simp [k0, k1]
theorem ArmR.start {d : Dk} (hoff : d.off = false) (n : Nat) : ArmR (d.arm n) n d.steps := by
  unfold Dk.arm
  rw [if_neg (by simp [hoff])]
  refine ⟨fun _ => ⟨by simp, by simp, by simp, by simp⟩, fun h => ?_⟩
  have : d.off = true := h
  rw [hoff] at this; cases this
/-- A disk that was never armed keeps its power. -/
theorem does_on {d : Dk} (hoff : d.off = false) (ha : d.armed = false) (o : Opn) : (doesD d o).2.off = false ∧ (doesD d o).2.armed = false := by
  rcases does_cases hoff o with ⟨L, e⟩ | ⟨k, e, _⟩
  · rw [act_go (by simp [Dk.refuses, ha])] at e
    rw [e]; exact ⟨hoff, ha⟩
  · rw [e]; exact ⟨hoff, ha⟩
theorem play_on : ∀ {d : Dk}, d.off = false → d.armed = false → ∀ l, (playD d l).off = false ∧ (playD d l).armed = false
  | _, h, ha, [] => ⟨h, ha⟩
  | d, h, ha, o :: r => by
    show (playD _ r).off = false ∧ (playD _ r).armed = false
    split
    · exact play_on (does_on h ha o).1 (does_on h ha o).2 r
    · exact play_on h ha r
theorem does_room {d : Dk} (o : Opn) : (doesD d o).2.room = d.room := by
  have ha : ∀ L, (d.act L).2.room = d.room := fun L => by unfold Dk.act; split <;> rfl
  unfold doesD Dk.create Dk.append Dk.sync Dk.cut Dk.rename Dk.remove
  repeat' split
  all_goals first | rfl | exact ha _
theorem play_room : ∀ (d : Dk) (l : List Opn), (playD d l).room = d.room
  | _, [] => rfl
  | d, o :: r => by
    show (playD _ r).room = _
    rw [play_room]
    split
    · exact does_room o
    · rfl
theorem does_steps {d : Dk} (o : Opn) : (doesD d o).2.steps ≤ d.steps + 1 := by
  have ha : ∀ L, (d.act L).2.steps ≤ d.steps + 1 := fun L => by
    unfold Dk.act; split
    · exact Nat.le_succ _
    · exact Nat.le_refl _
  unfold doesD Dk.create Dk.append Dk.sync Dk.cut Dk.rename Dk.remove
  repeat' split
  all_goals first | exact Nat.le_succ _ | exact ha _
theorem play_steps : ∀ (d : Dk) (l : List Opn), (playD d l).steps ≤ d.steps + l.length
  | _, [] => Nat.le_refl _
  | d, o :: r => by
    show (playD _ r).steps ≤ _
    have := play_steps (if smallB o then (doesD d o).2 else d) r
    have h2 : (if smallB o then (doesD d o).2 else d).steps ≤ d.steps + 1 := by
      split
      · exact does_steps o
      · exact Nat.le_succ _
    simp only [List.length_cons]
    omega

/-! ### VfsRoom -/
theorem append_room {d : Dk} (hoff : d.off = false) (ha : d.armed = false) (nm data : ByteArray) :
    (d.append nm data).1 = 140 ∨ ((d.append nm data).1 = 142 ∧ d.room - usedF d.L < data.size) ∨ ((d.append nm data).1 = 0 ∧ ¬ d.room - usedF d.L < data.size) := by
  unfold Dk.append
  rw [if_neg (by simp [hoff])]
  split
  · exact .inl rfl
  split
  · rename_i h; exact .inr (.inl ⟨rfl, h⟩)
  · rename_i h
    rw [act_go (by simp [Dk.refuses, ha])]
    exact .inr (.inr ⟨rfl, h⟩)

/-! ### VfsSafe -/
/-- In how many of the first k places two texts differ. -/
def unl (a b : List UInt8) : Nat → Nat
  | 0 => 0
  | k + 1 => unl a b k + if a.getD k 0 = b.getD k 0 then 0 else 1
theorem unl_same {a b : List UInt8} : ∀ k, (∀ i, i < k → a.getD i 0 = b.getD i 0) → unl a b k = 0
  | 0, _ => rfl
  | k + 1, h => by
    unfold unl
    rw [if_pos (h k (by omega)), unl_same k (fun i hi => h i (by omega))]
theorem unl_one {a b : List UInt8} {j : Nat} : ∀ k, (∀ i, i < k → i ≠ j → a.getD i 0 = b.getD i 0) → unl a b k ≤ 1
  | 0, _ => Nat.zero_le _
  | k + 1, h => by
    unfold unl
    by_cases hk : k = j
    · rw [unl_same k (fun i hi => h i (by omega) (by omega))]
      split <;> omega
    · rw [if_pos (h k (by omega) hk)]
      exact unl_one k (fun i hi hj => h i (by omega) hj)
/-- What stays of a file: its safe bytes, and behind them a beginning of the others in which at most one byte was turned. -/
theorem staysB_like (f : Fl) (keep turn : Int) :
    (staysB f keep turn).data.toList.take f.safe = f.bytes.data.toList.take f.safe ∧ unl f.bytes.data.toList (staysB f keep turn).data.toList (staysB f keep turn).size ≤ 1 := by
  have hm : (if 0 < keep then (keep % ((f.bytes.size - f.safe + 1 : Nat) : Int)).toNat else 0) ≤ f.bytes.size - f.safe := by
    split
    · have h1 := Int.emod_lt_of_pos keep (b := ((f.bytes.size - f.safe + 1 : Nat) : Int)) (by omega)
      omega
    · omega
  have hlen : f.bytes.data.toList.length = f.bytes.size := by simp
  unfold staysB
  simp only []
  generalize (if 0 < keep then (keep % ((f.bytes.size - f.safe + 1 : Nat) : Int)).toNat else 0) = m at *
  split
  · have e : (f.bytes.extract 0 (f.safe + m)).data.toList = f.bytes.data.toList.take (f.safe + m) := by simp
    refine ⟨?_, ?_⟩
    · rw [e, List.take_take]; congr 1; omega
    · rw [e]
      refine Nat.le_trans (Nat.le_of_eq (unl_same _ fun i hi => ?_)) (Nat.zero_le _)
      rw [ByteArray.size_extract] at hi
      rw [List.getD_eq_getElem?_getD, List.getD_eq_getElem?_getD, List.getElem?_take_of_lt (by omega)]
  · generalize (turn / 256 % (m : Int)).toNat = x at *
    refine ⟨?_, ?_⟩
    · refine List.ext_getElem? fun i => ?_
      simp only [List.getElem?_take, List.getElem?_modify]
      by_cases hi : i < f.safe
      · rw [if_pos hi, if_pos hi, if_pos (by omega)]
        have hne : ¬ f.safe + x = i := by omega
        simp [hne]
      · rw [if_neg hi, if_neg hi]
    · refine unl_one (j := f.safe + x) _ fun i hi hj => ?_
      have hi2 : i < f.safe + m := by
        have h2 : (⟨((f.bytes.data.toList.take (f.safe + m)).modify (f.safe + x) fun c => c ^^^ UInt8.ofNat (turn % 256).toNat).toArray⟩ : ByteArray).size = min (f.safe + m) f.bytes.size := by
          show Array.size _ = _
          rw [List.size_toArray, List.length_modify, List.length_take, hlen]
        rw [h2] at hi; omega
      simp only [List.getD_eq_getElem?_getD]
      congr 1
      simp only [List.getElem?_modify, List.getElem?_take]
      rw [if_pos hi2]
      have hne : ¬ f.safe + x = i := fun e => hj e.symm
      simp [hne]
theorem crash_twice (keep turn : List Int) (k : Nat) : ∀ (L : List Fl), (∀ f ∈ L, f.safe = f.bytes.size) → crashL keep turn k L = L
  | [], _ => rfl
  | f :: r, h => by
    have hf := h f (by simp)
    unfold crashL
    rw [if_neg (by omega), crash_twice keep turn k r (fun x hx => h x (by simp [hx]))]
    congr 1
    cases f; simp at hf; simp [hf]
end Go.Proofs.YtnpgjlhnlakgpaaDoor

/- What always holds of a disk stays so, whatever is called. The plain law of renames: at every moment of writing a new file and giving it an elder one's name a crash leaves the elder bytes or the new ones. -/
import Derived.Test.YtnpgjlhnlakgpaaDoorVfsM
namespace Go.Proofs.YtnpgjlhnlakgpaaDoor
open Go.RowKit Go.Maps

theorem mem_putF {f x : Fl} {L : List Fl} (h : x ∈ putF f L) : x = f ∨ x ∈ L := by
  unfold putF at h
  rcases mem_insF.1 h with h | h
  · exact .inl h
  · exact .inr (List.mem_filter.1 h).1
theorem SafeOk.put {L : List Fl} (h : SafeOk L) {f : Fl} (hf : f.safe ≤ f.bytes.size) : SafeOk (putF f L) := fun x hx => by
  rcases mem_putF hx with rfl | hx
  · exact hf
  · exact h x hx
theorem SafeOk.del {L : List Fl} (h : SafeOk L) (k : List UInt8) : SafeOk (delF k L) := fun x hx => h x (List.mem_filter.1 hx).1
def NamedOk (L : List Fl) : Prop := ∀ f ∈ L, f.name.size ≤ 20
theorem NamedOk.put {L : List Fl} (h : NamedOk L) {f : Fl} (hf : f.name.size ≤ 20) : NamedOk (putF f L) := fun x hx => by
  rcases mem_putF hx with rfl | hx
  · exact hf
  · exact h x hx
theorem NamedOk.del {L : List Fl} (h : NamedOk L) (k : List UInt8) : NamedOk (delF k L) := fun x hx => h x (List.mem_filter.1 hx).1

theorem Dk.Ok.gone {d : Dk} (h : d.Ok) : d.gone.Ok := ⟨h.room, h.rise, h.used, h.many, h.safe, h.left, h.named⟩
theorem Dk.Ok.act {d : Dk} (h : d.Ok) {L : List Fl} (h1 : Rising L) (h2 : usedF L ≤ d.room) (h3 : L.length ≤ 64) (h4 : SafeOk L) (h5 : NamedOk L) : (d.act L).2.Ok := by
  unfold Dk.act
  split
  · exact h.gone
  · refine ⟨h.room, h1, h2, h3, h4, ?_, h5⟩
    have := h.left
    show (if d.armed then d.left - 1 else d.left) < _
    split <;> omega
theorem namedB_le {nm : ByteArray} (h : ¬ namedB nm = false) : nm.size ≤ 20 := by
  simp [namedB] at h; exact h.2
theorem Dk.Ok.create {d : Dk} (h : d.Ok) (nm : ByteArray) : (d.create nm).2.Ok := by
  unfold Dk.create
  split
  · exact h
  · split
    · exact h
    · rename_i hn
      split
      · exact h
      · rename_i hs
        split
        · exact h
        · rename_i hl
          have hno : findF nm.data.toList d.L = none := by simpa using hs
          have hu := usedF_new (f := ⟨nm, ByteArray.empty, 0⟩) hno
          have hle := length_putF_le ⟨nm, ByteArray.empty, 0⟩ d.L
          have h0 := h.used
          exact h.act (h.rise.put _) (by rw [hu]; exact h0) (by omega) (h.safe.put (Nat.zero_le _)) (NamedOk.put h.named (namedB_le hn))
theorem Dk.Ok.append {d : Dk} (h : d.Ok) (nm data : ByteArray) : (d.append nm data).2.Ok := by
  unfold Dk.append
  split
  · exact h
  · split
    · exact h
    · rename_i f hf
      split
      · exact h
      · rename_i hr
        have hk := findF_key hf
        have hf' : findF (Fl.key { f with bytes := f.bytes ++ data }) d.L = some f := by rw [← hk] at hf; exact hf
        have hu := usedF_put h.rise (f := { f with bytes := f.bytes ++ data }) hf'
        have hle := length_putF_old (f := { f with bytes := f.bytes ++ data }) hf'
        have h0 := h.used
        have h1 := h.safe f (findF_mem hf)
        have h2 := h.many
        have e : (f.bytes ++ data).size = f.bytes.size + data.size := ByteArray.size_append
        simp only [e] at hu
        exact h.act (h.rise.put _) (by omega) (by omega) (h.safe.put (by show f.safe ≤ (f.bytes ++ data).size; omega)) (NamedOk.put h.named (h.named f (findF_mem hf)))
theorem Dk.Ok.sync {d : Dk} (h : d.Ok) (nm : ByteArray) : (d.sync nm).2.Ok := by
  unfold Dk.sync
  split
  · exact h
  · split
    · exact h
    · rename_i f hf
      have hk := findF_key hf
      have hf' : findF (Fl.key { f with safe := f.bytes.size }) d.L = some f := by rw [← hk] at hf; exact hf
      have hu := usedF_put h.rise (f := { f with safe := f.bytes.size }) hf'
      have hle := length_putF_old (f := { f with safe := f.bytes.size }) hf'
      have h0 := h.used
      have h2 := h.many
      simp only at hu
      exact h.act (h.rise.put _) (by omega) (by omega) (h.safe.put (Nat.le_refl _)) (NamedOk.put h.named (h.named f (findF_mem hf)))
theorem extract_size {b : ByteArray} {n : Int} (h0 : ¬ (n < 0 ∨ (b.size : Int) < n)) : (b.extract 0 n.toNat).size = n.toNat := by
  rw [ByteArray.size_extract]; omega
theorem Dk.Ok.cut {d : Dk} (h : d.Ok) (nm : ByteArray) (n : Int) : (d.cut nm n).2.Ok := by
  unfold Dk.cut
  split
  · exact h
  · split
    · exact h
    · rename_i f hf
      split
      · exact h
      · rename_i hn
        have hk := findF_key hf
        have hs := extract_size hn
        have hf' : findF (Fl.key { f with bytes := f.bytes.extract 0 n.toNat, safe := min f.safe n.toNat }) d.L = some f := by rw [← hk] at hf; exact hf
        have hu := usedF_put h.rise (f := { f with bytes := f.bytes.extract 0 n.toNat, safe := min f.safe n.toNat }) hf'
        have hle := length_putF_old (f := { f with bytes := f.bytes.extract 0 n.toNat, safe := min f.safe n.toNat }) hf'
        have h0 := h.used
        have h2 := h.many
        simp only [hs] at hu
        exact h.act (h.rise.put _) (by omega) (by omega) (h.safe.put (by show min f.safe n.toNat ≤ (f.bytes.extract 0 n.toNat).size; omega)) (NamedOk.put h.named (h.named f (findF_mem hf)))
theorem Dk.Ok.remove {d : Dk} (h : d.Ok) (nm : ByteArray) : (d.remove nm).2.Ok := by
  unfold Dk.remove
  split
  · exact h
  · split
    · exact h
    · rename_i f hf
      have hu := usedF_del h.rise hf
      have hle := length_delF_le nm.data.toList d.L
      have h0 := h.used
      have h2 := h.many
      exact h.act (h.rise.del _) (by omega) (by omega) (h.safe.del _) (NamedOk.del h.named _)
theorem length_delF_lt {k : List UInt8} {L : List Fl} {g : Fl} (h : findF k L = some g) : (delF k L).length < L.length := by
  unfold delF
  rw [List.length_filter_lt_length_iff_exists]
  exact ⟨g, findF_mem h, by have := findF_key h; simp [this]⟩
theorem usedF_del_le {k : List UInt8} {L : List Fl} (hr : Rising L) : usedF (delF k L) ≤ usedF L := by
  cases hf : findF k L with
  | none => rw [del_none hf]; exact Nat.le_refl _
  | some f => have := usedF_del hr hf; omega
theorem Dk.Ok.rename {d : Dk} (h : d.Ok) (nm to : ByteArray) : (d.rename nm to).2.Ok := by
  unfold Dk.rename
  split
  · exact h
  · split
    · exact h
    · rename_i f hf
      split
      · exact h
      · rename_i hn
        have h0 := h.used
        have h2 := h.many
        split
        · exact h.act h.rise h0 h2 h.safe h.named
        · have hu := usedF_del h.rise hf
          have hl := length_delF_lt hf
          have hle := length_putF_le { f with name := to } (delF nm.data.toList d.L)
          have hu2 : usedF (putF { f with name := to } (delF nm.data.toList d.L)) ≤ usedF d.L := by
            have := usedF_del_le (k := to.data.toList) (h.rise.del nm.data.toList)
            unfold putF
            rw [usedF_ins]
            show f.bytes.size + usedF (delF to.data.toList (delF nm.data.toList d.L)) ≤ _
            omega
          exact h.act ((h.rise.del _).put _) (by omega) (by omega) ((h.safe.del _).put (h.safe f (findF_mem hf))) ((NamedOk.del h.named _).put (namedB_le hn))
theorem Dk.Ok.arm {d : Dk} (h : d.Ok) {n : Int} (hn : n < 9223372036854775808) : (d.arm n).Ok := by
  unfold Dk.arm
  split
  · exact h
  · exact ⟨h.room, h.rise, h.used, h.many, h.safe, by show n.toNat < _; omega, h.named⟩

/-! ### A crash -/
theorem staysB_bd (f : Fl) (keep turn : Int) (hs : f.safe ≤ f.bytes.size) : f.safe ≤ (staysB f keep turn).size ∧ (staysB f keep turn).size ≤ f.bytes.size := by
  have hm : (if 0 < keep then (keep % ((f.bytes.size - f.safe + 1 : Nat) : Int)).toNat else 0) ≤ f.bytes.size - f.safe := by
    split
    · have h1 := Int.emod_lt_of_pos keep (b := ((f.bytes.size - f.safe + 1 : Nat) : Int)) (by omega)
      omega
    · omega
  unfold staysB
  simp only []
  generalize (if 0 < keep then (keep % ((f.bytes.size - f.safe + 1 : Nat) : Int)).toNat else 0) = m at *
  split
  · rw [ByteArray.size_extract]; omega
  · show f.safe ≤ (Array.size _) ∧ (Array.size _) ≤ _
    rw [List.size_toArray, List.length_modify, List.length_take]
    have : f.bytes.data.toList.length = f.bytes.size := by simp
    omega
theorem crash_keys (keep turn : List Int) : ∀ (k : Nat) (L : List Fl), (crashL keep turn k L).map Fl.name = L.map Fl.name
  | _, [] => rfl
  | k, f :: r => by
    unfold crashL
    split
    · simp [crash_keys keep turn (k + 1) r]
    · simp [crash_keys keep turn k r]
theorem crash_len (keep turn : List Int) (k : Nat) (L : List Fl) : (crashL keep turn k L).length = L.length := by
  have := congrArg List.length (crash_keys keep turn k L)
  simpa using this
theorem crash_used (keep turn : List Int) : ∀ (k : Nat) (L : List Fl), SafeOk L → usedF (crashL keep turn k L) ≤ usedF L
  | _, [], _ => Nat.le_refl _
  | k, f :: r, h => by
    have hr : SafeOk r := fun x hx => h x (by simp [hx])
    unfold crashL
    split
    · have h1 := crash_used keep turn (k + 1) r hr
      have h2 := staysB_bd f (atL keep k) (atL turn k) (h f (by simp))
      simp only [usedF, List.map_cons, List.sum_cons] at *
      omega
    · have h1 := crash_used keep turn k r hr
      simp only [usedF, List.map_cons, List.sum_cons] at *
      omega
theorem crash_safe (keep turn : List Int) : ∀ (k : Nat) (L : List Fl), ∀ f ∈ crashL keep turn k L, f.safe = f.bytes.size
  | _, [], f, h => by simp [crashL] at h
  | k, g :: r, f, h => by
    unfold crashL at h
    split at h
    · rcases List.mem_cons.1 h with rfl | h
      · rfl
      · exact crash_safe keep turn _ r f h
    · rcases List.mem_cons.1 h with rfl | h
      · rfl
      · exact crash_safe keep turn _ r f h
theorem rising_of_names {L L' : List Fl} (h : L'.map Fl.name = L.map Fl.name) (hr : Rising L) : Rising L' := by
  have e : ∀ M : List Fl, Rising M ↔ (M.map Fl.name).Pairwise fun a b => bytesBefore a.data.toList b.data.toList = true := fun M => by
    rw [List.pairwise_map]; rfl
  rw [e] at hr ⊢
  rw [h]; exact hr
theorem Dk.Ok.crash {d : Dk} (h : d.Ok) (keep turn : List Int) : (d.crash keep turn).Ok := by
  refine ⟨h.room, rising_of_names (crash_keys keep turn 0 d.L) h.rise, Nat.le_trans (crash_used keep turn 0 d.L h.safe) h.used, by show (crashL _ _ _ _).length ≤ _; rw [crash_len]; exact h.many,
    fun f hf => Nat.le_of_eq (crash_safe keep turn 0 d.L f hf), by show 0 < _; omega, fun f hf => ?_⟩
  have h1 : f.name ∈ (crashL keep turn 0 d.L).map Fl.name := List.mem_map_of_mem hf
  rw [crash_keys] at h1
  obtain ⟨g, hg, e⟩ := List.mem_map.1 h1
  rw [← e]; exact h.named g hg
theorem Dk.Ok.new {room : Nat} (h : room ≤ 4194304) : (Dk.new room).Ok :=
  ⟨h, Rising.nil, Nat.zero_le _, Nat.zero_le _, fun _ h => by simp [Dk.new] at h, by show 0 < _; omega, fun _ h => by simp [Dk.new] at h⟩
/-- What is safe stays as it is. -/
theorem findF_crash {keep turn : List Int} {kk : List UInt8} {f : Fl} : ∀ (k : Nat) (L : List Fl), findF kk L = some f → f.safe = f.bytes.size → findF kk (crashL keep turn k L) = some f
  | _, [], h, _ => by simp [findF] at h
  | k, g :: r, h, hs => by
    unfold findF at h
    rw [List.find?_cons] at h
    by_cases hg : (g.key == kk) = true
    · rw [hg] at h
      simp at h
      subst h
      unfold crashL
      rw [if_neg (by omega)]
      unfold findF
      rw [List.find?_cons]
      have : (Fl.key { g with safe := g.bytes.size } == kk) = true := hg
      rw [this]
      simp [← hs]
    · have hg' : (g.key == kk) = false := by simpa using hg
      rw [hg'] at h
      unfold crashL
      split
      · unfold findF
        rw [List.find?_cons]
        simp only [hg']
        exact findF_crash (k + 1) r h hs
      · unfold findF
        rw [List.find?_cons]
        simp only [hg']
        exact findF_crash k r h hs
end Go.Proofs.YtnpgjlhnlakgpaaDoor
namespace Go.Proofs.YtnpgjlhnlakgpaaDoor
open Go.RowKit Go.Maps

theorem findF_ins_same {f : Fl} : ∀ {L : List Fl}, (∀ g ∈ L, g.key ≠ f.key) → findF f.key (insF f L) = some f
  | [], _ => by simp [insF, findF]
  | y :: r, h => by
    unfold insF
    split
    · simp [findF]
    · have hy : (y.key == f.key) = false := by simpa using h y (by simp)
      unfold findF
      rw [List.find?_cons, hy]
      exact findF_ins_same (fun g hg => h g (by simp [hg]))
theorem findF_ins_other {f : Fl} {k : List UInt8} (hk : f.key ≠ k) : ∀ {L : List Fl}, findF k (insF f L) = findF k L
  | [] => by simp [insF, findF, hk]
  | y :: r => by
    have hf : (f.key == k) = false := by simpa using hk
    unfold insF
    split
    · unfold findF; rw [List.find?_cons, hf]
    · unfold findF
      rw [List.find?_cons, List.find?_cons]
      have ih := findF_ins_other hk (L := r)
      unfold findF at ih
      rw [ih]
theorem findF_del_same (k : List UInt8) (L : List Fl) : findF k (delF k L) = none := by
  unfold findF delF
  rw [List.find?_eq_none]
  intro x hx
  have := (List.mem_filter.1 hx).2
  simpa using this
theorem findF_del_other {k k' : List UInt8} (hk : k ≠ k') (L : List Fl) : findF k (delF k' L) = findF k L := by
  unfold findF delF
  induction L with
  | nil => rfl
  | cons y r ih =>
    rw [List.filter_cons]
    by_cases hy : y.key = k'
    · have h1 : (!(y.key == k')) = false := by simp [hy]
      have h2 : (y.key == k) = false := by simp [hy]; exact fun e => hk e.symm
      simp only [h1, Bool.false_eq_true, if_false]
      rw [ih, List.find?_cons, h2]
    · have h1 : (!(y.key == k')) = true := by simpa using hy
      simp only [h1, if_true]
      rw [List.find?_cons, List.find?_cons, ih]
theorem findF_put_same (f : Fl) (L : List Fl) : findF f.key (putF f L) = some f :=
  findF_ins_same fun g hg => by have := (List.mem_filter.1 hg).2; simpa using this
theorem findF_put_other {f : Fl} {k : List UInt8} (hk : f.key ≠ k) (L : List Fl) : findF k (putF f L) = findF k L := by
  unfold putF
  rw [findF_ins_other hk, findF_del_other (fun e => hk e.symm)]
theorem act_go {d : Dk} {L : List Fl} (h : d.refuses = false) : d.act L = (0, { d.stepped with L := L }) := by simp [Dk.act, h]
theorem act_no {d : Dk} {L : List Fl} (h : d.refuses = true) : d.act L = (143, d.gone) := by simp [Dk.act, h]
theorem key_ne {a b : ByteArray} (h : a ≠ b) : a.data.toList ≠ b.data.toList := fun e => h (ba_of_list e)

/-- The disk that is written, behind each of the calls. -/
def renD (pt nw elder fresh : ByteArray) (n : Nat) : Dk :=
  (((((((Dk.new 262144).create pt).2.append pt elder).2.sync pt).2.arm n).create nw).2.append nw fresh).2
def renD3 (pt elder : ByteArray) : Dk := ⟨262144, [⟨pt, elder, elder.size⟩], false, false, 0, 3⟩

theorem ren_one {pt elder : ByteArray} (hp : namedB pt = true) (he : elder.size ≤ 65536) :
    (Dk.new 262144).create pt = (0, ⟨262144, [⟨pt, ByteArray.empty, 0⟩], false, false, 0, 1⟩) ∧
    (Dk.append ⟨262144, [⟨pt, ByteArray.empty, 0⟩], false, false, 0, 1⟩ pt elder) = (0, ⟨262144, [⟨pt, elder, 0⟩], false, false, 0, 2⟩) ∧
    (Dk.sync ⟨262144, [⟨pt, elder, 0⟩], false, false, 0, 2⟩ pt) = (0, renD3 pt elder) := by
  refine ⟨?_, ?_, ?_⟩
  · simp [Dk.create, Dk.new, hp, findF, Dk.act, Dk.refuses, Dk.stepped, putF, insF, delF]
  · have h : ¬ (262144 - usedF [⟨pt, ByteArray.empty, 0⟩] < elder.size) := by simp [usedF]; omega
    simp only [usedF, List.map_cons, List.map_nil, List.sum_cons, List.sum_nil] at h
    simp [Dk.append, findF, Dk.act, Dk.refuses, Dk.stepped, putF, insF, delF, usedF]
    omega
  · simp [Dk.sync, findF, Dk.act, Dk.refuses, Dk.stepped, putF, insF, delF, renD3]

/-- What stands under the elder name, whatever is done to the new one. -/
theorem ren_two {pt nw elder fresh : ByteArray} (hn : namedB nw = true) (hp : namedB pt = true) (hne : nw ≠ pt) (hf : fresh.size ≤ 65536) (he : elder.size ≤ 65536) (n : Nat) (hn6 : n < 6) (keep turn : List Int) :
    ((((((((renD3 pt elder).arm n).create nw).2.append nw fresh).2.sync nw).2.rename nw pt).2.crash keep turn).read pt) = (if 4 ≤ n then fresh else elder, 0) := by
  have k1 := key_ne hne
  have k2 := key_ne hne.symm
  have b1 : (pt.data.toList == nw.data.toList) = false := by simpa using k2
  have b2 : (nw.data.toList == pt.data.toList) = false := by simpa using k1
  have P0 : findF pt.data.toList [(⟨pt, elder, elder.size⟩ : Fl)] = some ⟨pt, elder, elder.size⟩ := by simp [findF]
  have N0 : findF nw.data.toList [(⟨pt, elder, elder.size⟩ : Fl)] = none := by
    unfold findF; rw [List.find?_cons]
    have b3 : (Fl.key ⟨pt, elder, elder.size⟩ == nw.data.toList) = false := b1
    rw [b3]; rfl
  have P1 : findF pt.data.toList (putF ⟨nw, ByteArray.empty, 0⟩ [(⟨pt, elder, elder.size⟩ : Fl)]) = some ⟨pt, elder, elder.size⟩ := by rw [findF_put_other (f := ⟨nw, ByteArray.empty, 0⟩) k1]; exact P0
  have N1 : findF nw.data.toList (putF ⟨nw, ByteArray.empty, 0⟩ [(⟨pt, elder, elder.size⟩ : Fl)]) = some ⟨nw, ByteArray.empty, 0⟩ := findF_put_same ⟨nw, ByteArray.empty, 0⟩ _
  have u1 : usedF (putF ⟨nw, ByteArray.empty, 0⟩ [(⟨pt, elder, elder.size⟩ : Fl)]) = elder.size := by
    rw [usedF_new (f := ⟨nw, ByteArray.empty, 0⟩) N0]; simp [usedF]
  generalize hL1 : putF ⟨nw, ByteArray.empty, 0⟩ [(⟨pt, elder, elder.size⟩ : Fl)] = L1 at *
  have P2 : findF pt.data.toList (putF ⟨nw, fresh, 0⟩ L1) = some ⟨pt, elder, elder.size⟩ := by rw [findF_put_other (f := ⟨nw, fresh, 0⟩) k1]; exact P1
  have N2 : findF nw.data.toList (putF ⟨nw, fresh, 0⟩ L1) = some ⟨nw, fresh, 0⟩ := findF_put_same ⟨nw, fresh, 0⟩ _
  generalize hL2 : putF ⟨nw, fresh, 0⟩ L1 = L2 at *
  have P3 : findF pt.data.toList (putF ⟨nw, fresh, fresh.size⟩ L2) = some ⟨pt, elder, elder.size⟩ := by rw [findF_put_other (f := ⟨nw, fresh, fresh.size⟩) k1]; exact P2
  have N3 : findF nw.data.toList (putF ⟨nw, fresh, fresh.size⟩ L2) = some ⟨nw, fresh, fresh.size⟩ := findF_put_same ⟨nw, fresh, fresh.size⟩ _
  generalize hL3 : putF ⟨nw, fresh, fresh.size⟩ L2 = L3 at *
  have P4 : findF pt.data.toList (putF ⟨pt, fresh, fresh.size⟩ (delF nw.data.toList L3)) = some ⟨pt, fresh, fresh.size⟩ := findF_put_same ⟨pt, fresh, fresh.size⟩ _
  generalize hL4 : putF ⟨pt, fresh, fresh.size⟩ (delF nw.data.toList L3) = L4 at *
  have c0 := findF_crash (keep := keep) (turn := turn) 0 _ P0 rfl
  have c1 := findF_crash (keep := keep) (turn := turn) 0 _ P1 rfl
  have c2 := findF_crash (keep := keep) (turn := turn) 0 _ P2 rfl
  have c3 := findF_crash (keep := keep) (turn := turn) 0 _ P3 rfl
  have c4 := findF_crash (keep := keep) (turn := turn) 0 _ P4 rfl
  have s1 : (findF nw.data.toList [(⟨pt, elder, elder.size⟩ : Fl)]).isSome = false := by rw [N0]; rfl
  have r1 : ¬ (262144 - usedF L1 < fresh.size) := by omega
  have cr : (renD3 pt elder).off = false := rfl
  have A : ((renD3 pt elder).arm n) = ⟨262144, [⟨pt, elder, elder.size⟩], false, true, n, 3⟩ := by simp [Dk.arm, renD3]
  rw [A]
  match n, hn6 with
  | 0, _ => simp [Dk.create, Dk.append, Dk.sync, Dk.rename, Dk.crash, Dk.read, hn, s1, Dk.act, Dk.refuses, Dk.gone, c0]
  | 1, _ => simp [Dk.create, Dk.append, Dk.sync, Dk.rename, Dk.crash, Dk.read, hn, s1, Dk.act, Dk.refuses, Dk.stepped, Dk.gone, c1, hL1, N1, r1]
  | 2, _ => simp [Dk.create, Dk.append, Dk.sync, Dk.rename, Dk.crash, Dk.read, hn, s1, Dk.act, Dk.refuses, Dk.stepped, Dk.gone, c2, hL1, N1, r1, hL2, N2]
  | 3, _ => simp [Dk.create, Dk.append, Dk.sync, Dk.rename, Dk.crash, Dk.read, hn, hp, s1, Dk.act, Dk.refuses, Dk.stepped, Dk.gone, c3, hL1, N1, r1, hL2, N2, hL3, N3, hne]
  | 4, _ => simp [Dk.create, Dk.append, Dk.sync, Dk.rename, Dk.crash, Dk.read, hn, hp, s1, Dk.act, Dk.refuses, Dk.stepped, c4, hL1, N1, r1, hL2, N2, hL3, N3, hne, hL4]
  | 5, _ => simp [Dk.create, Dk.append, Dk.sync, Dk.rename, Dk.crash, Dk.read, hn, hp, s1, Dk.act, Dk.refuses, Dk.stepped, c4, hL1, N1, r1, hL2, N2, hL3, N3, hne, hL4]
end Go.Proofs.YtnpgjlhnlakgpaaDoor

/- What always holds of a disk stays so, whatever is called. -/
import Derived.Test.YtnpgjlhnlakgpaaDoorVfsM
namespace Go.Proofs.YtnpgjlhnlakgpaaDoor
open Go.RowKit Go.Maps

theorem mem_putF {f x : Fl} {L : List Fl} (h : x ∈ putF f L) : x = f ∨ x ∈ L := by
  unfold putF at h
  rcases mem_insF.1 h with h | h
  · exact .inl h
  · exact .inr (List.mem_filter.1 h).1
theorem SafeOk.put {L : List Fl} (h : SafeOk L) {f : Fl} (hf : f.safe ≤ f.bytes.size) : SafeOk (putF f L) := fun x hx => by
  rcases mem_putF hx with rfl | hx
  · exact hf
  · exact h x hx
theorem SafeOk.del {L : List Fl} (h : SafeOk L) (k : List UInt8) : SafeOk (delF k L) := fun x hx => h x (List.mem_filter.1 hx).1
def NamedOk (L : List Fl) : Prop := ∀ f ∈ L, f.name.size ≤ 20
theorem NamedOk.put {L : List Fl} (h : NamedOk L) {f : Fl} (hf : f.name.size ≤ 20) : NamedOk (putF f L) := fun x hx => by
  rcases mem_putF hx with rfl | hx
  · exact hf
  · exact h x hx
theorem NamedOk.del {L : List Fl} (h : NamedOk L) (k : List UInt8) : NamedOk (delF k L) := fun x hx => h x (List.mem_filter.1 hx).1

theorem Dk.Ok.gone {d : Dk} (h : d.Ok) : d.gone.Ok := ⟨h.room, h.rise, h.used, h.many, h.safe, h.left, h.named⟩
theorem Dk.Ok.act {d : Dk} (h : d.Ok) {L : List Fl} (h1 : Rising L) (h2 : usedF L ≤ d.room) (h3 : L.length ≤ 64) (h4 : SafeOk L) (h5 : NamedOk L) : (d.act L).2.Ok := by
  unfold Dk.act
  split
  · exact h.gone
  · refine ⟨h.room, h1, h2, h3, h4, ?_, h5⟩
    have := h.left
    show (if d.armed then d.left - 1 else d.left) < _
    split <;> omega
theorem namedB_le {nm : ByteArray} (h : ¬ namedB nm = false) : nm.size ≤ 20 := by
  simp [namedB] at h; exact h.2
theorem Dk.Ok.create {d : Dk} (h : d.Ok) (nm : ByteArray) : (d.create nm).2.Ok := by
  unfold Dk.create
  split
  · exact h
  · split
    · exact h
    · rename_i hn
      split
      · exact h
      · rename_i hs
        split
        · exact h
        · rename_i hl
          have hno : findF nm.data.toList d.L = none := by simpa using hs
          have hu := usedF_new (f := ⟨nm, ByteArray.empty, 0⟩) hno
          have hle := length_putF_le ⟨nm, ByteArray.empty, 0⟩ d.L
          have h0 := h.used
          exact h.act (h.rise.put _) (by rw [hu]; exact h0) (by omega) (h.safe.put (Nat.zero_le _)) (NamedOk.put h.named (namedB_le hn))
theorem Dk.Ok.append {d : Dk} (h : d.Ok) (nm data : ByteArray) : (d.append nm data).2.Ok := by
  unfold Dk.append
  split
  · exact h
  · split
    · exact h
    · rename_i f hf
      split
      · exact h
      · rename_i hr
        have hk := findF_key hf
        have hf' : findF (Fl.key { f with bytes := f.bytes ++ data }) d.L = some f := by rw [← hk] at hf; exact hf
        have hu := usedF_put h.rise (f := { f with bytes := f.bytes ++ data }) hf'
        have hle := length_putF_old (f := { f with bytes := f.bytes ++ data }) hf'
        have h0 := h.used
        have h1 := h.safe f (findF_mem hf)
        have h2 := h.many
        have e : (f.bytes ++ data).size = f.bytes.size + data.size := ByteArray.size_append
        simp only [e] at hu
        exact h.act (h.rise.put _) (by omega) (by omega) (h.safe.put (by show f.safe ≤ (f.bytes ++ data).size; omega)) (NamedOk.put h.named (h.named f (findF_mem hf)))
theorem Dk.Ok.sync {d : Dk} (h : d.Ok) (nm : ByteArray) : (d.sync nm).2.Ok := by
  unfold Dk.sync
  split
  · exact h
  · split
    · exact h
    · rename_i f hf
      have hk := findF_key hf
      have hf' : findF (Fl.key { f with safe := f.bytes.size }) d.L = some f := by rw [← hk] at hf; exact hf
      have hu := usedF_put h.rise (f := { f with safe := f.bytes.size }) hf'
      have hle := length_putF_old (f := { f with safe := f.bytes.size }) hf'
      have h0 := h.used
      have h2 := h.many
      simp only at hu
      exact h.act (h.rise.put _) (by omega) (by omega) (h.safe.put (Nat.le_refl _)) (NamedOk.put h.named (h.named f (findF_mem hf)))
theorem extract_size {b : ByteArray} {n : Int} (h0 : ¬ (n < 0 ∨ (b.size : Int) < n)) : (b.extract 0 n.toNat).size = n.toNat := by
  rw [ByteArray.size_extract]; omega
theorem Dk.Ok.cut {d : Dk} (h : d.Ok) (nm : ByteArray) (n : Int) : (d.cut nm n).2.Ok := by
  unfold Dk.cut
  split
  · exact h
  · split
    · exact h
    · rename_i f hf
      split
      · exact h
      · rename_i hn
        have hk := findF_key hf
        have hs := extract_size hn
        have hf' : findF (Fl.key { f with bytes := f.bytes.extract 0 n.toNat, safe := min f.safe n.toNat }) d.L = some f := by rw [← hk] at hf; exact hf
        have hu := usedF_put h.rise (f := { f with bytes := f.bytes.extract 0 n.toNat, safe := min f.safe n.toNat }) hf'
        have hle := length_putF_old (f := { f with bytes := f.bytes.extract 0 n.toNat, safe := min f.safe n.toNat }) hf'
        have h0 := h.used
        have h2 := h.many
        simp only [hs] at hu
        exact h.act (h.rise.put _) (by omega) (by omega) (h.safe.put (by show min f.safe n.toNat ≤ (f.bytes.extract 0 n.toNat).size; omega)) (NamedOk.put h.named (h.named f (findF_mem hf)))
theorem Dk.Ok.remove {d : Dk} (h : d.Ok) (nm : ByteArray) : (d.remove nm).2.Ok := by
  unfold Dk.remove
  split
  · exact h
  · split
    · exact h
    · rename_i f hf
      have hu := usedF_del h.rise hf
      have hle := length_delF_le nm.data.toList d.L
      have h0 := h.used
      have h2 := h.many
      exact h.act (h.rise.del _) (by omega) (by omega) (h.safe.del _) (NamedOk.del h.named _)
theorem length_delF_lt {k : List UInt8} {L : List Fl} {g : Fl} (h : findF k L = some g) : (delF k L).length < L.length := by
  unfold delF
  rw [List.length_filter_lt_length_iff_exists]
  exact ⟨g, findF_mem h, by have := findF_key h; simp [this]⟩
theorem usedF_del_le {k : List UInt8} {L : List Fl} (hr : Rising L) : usedF (delF k L) ≤ usedF L := by
  cases hf : findF k L with
  | none => rw [del_none hf]; exact Nat.le_refl _
  | some f => have := usedF_del hr hf; omega
theorem Dk.Ok.rename {d : Dk} (h : d.Ok) (nm to : ByteArray) : (d.rename nm to).2.Ok := by
  unfold Dk.rename
  split
  · exact h
  · split
    · exact h
    · rename_i f hf
      split
      · exact h
      · rename_i hn
        have h0 := h.used
        have h2 := h.many
        split
        · exact h.act h.rise h0 h2 h.safe h.named
        · have hu := usedF_del h.rise hf
          have hl := length_delF_lt hf
          have hle := length_putF_le { f with name := to } (delF nm.data.toList d.L)
          have hu2 : usedF (putF { f with name := to } (delF nm.data.toList d.L)) ≤ usedF d.L := by
            have := usedF_del_le (k := to.data.toList) (h.rise.del nm.data.toList)
            unfold putF
            rw [usedF_ins]
            show f.bytes.size + usedF (delF to.data.toList (delF nm.data.toList d.L)) ≤ _
            omega
          exact h.act ((h.rise.del _).put _) (by omega) (by omega) ((h.safe.del _).put (h.safe f (findF_mem hf))) ((NamedOk.del h.named _).put (namedB_le hn))
theorem Dk.Ok.arm {d : Dk} (h : d.Ok) {n : Int} (hn : n < 9223372036854775808) : (d.arm n).Ok := by
  unfold Dk.arm
  split
  · exact h
  · exact ⟨h.room, h.rise, h.used, h.many, h.safe, by show n.toNat < _; omega, h.named⟩

/-! ### A crash -/
theorem staysB_bd (f : Fl) (keep turn : Int) (hs : f.safe ≤ f.bytes.size) : f.safe ≤ (staysB f keep turn).size ∧ (staysB f keep turn).size ≤ f.bytes.size := by
  have hm : (if 0 < keep then (keep % ((f.bytes.size - f.safe + 1 : Nat) : Int)).toNat else 0) ≤ f.bytes.size - f.safe := by
    split
    · have h1 := Int.emod_lt_of_pos keep (b := ((f.bytes.size - f.safe + 1 : Nat) : Int)) (by omega)
      omega
    · omega
  unfold staysB
  simp only []
  generalize (if 0 < keep then (keep % ((f.bytes.size - f.safe + 1 : Nat) : Int)).toNat else 0) = m at *
  split
  · rw [ByteArray.size_extract]; omega
  · show f.safe ≤ (Array.size _) ∧ (Array.size _) ≤ _
    rw [List.size_toArray, List.length_modify, List.length_take]
    have : f.bytes.data.toList.length = f.bytes.size := by simp
    omega
theorem crash_keys (keep turn : List Int) : ∀ (k : Nat) (L : List Fl), (crashL keep turn k L).map Fl.name = L.map Fl.name
  | _, [] => rfl
  | k, f :: r => by
    unfold crashL
    split
    · simp [crash_keys keep turn (k + 1) r]
    · simp [crash_keys keep turn k r]
theorem crash_len (keep turn : List Int) (k : Nat) (L : List Fl) : (crashL keep turn k L).length = L.length := by
  have := congrArg List.length (crash_keys keep turn k L)
  simpa using this
theorem crash_used (keep turn : List Int) : ∀ (k : Nat) (L : List Fl), SafeOk L → usedF (crashL keep turn k L) ≤ usedF L
  | _, [], _ => Nat.le_refl _
  | k, f :: r, h => by
    have hr : SafeOk r := fun x hx => h x (by simp [hx])
    unfold crashL
    split
    · have h1 := crash_used keep turn (k + 1) r hr
      have h2 := staysB_bd f (atL keep k) (atL turn k) (h f (by simp))
      simp only [usedF, List.map_cons, List.sum_cons] at *
      omega
    · have h1 := crash_used keep turn k r hr
      simp only [usedF, List.map_cons, List.sum_cons] at *
      omega
theorem crash_safe (keep turn : List Int) : ∀ (k : Nat) (L : List Fl), ∀ f ∈ crashL keep turn k L, f.safe = f.bytes.size
  | _, [], f, h => by simp [crashL] at h
  | k, g :: r, f, h => by
    unfold crashL at h
    split at h
    · rcases List.mem_cons.1 h with rfl | h
      · rfl
      · exact crash_safe keep turn _ r f h
    · rcases List.mem_cons.1 h with rfl | h
      · rfl
      · exact crash_safe keep turn _ r f h
theorem rising_of_names {L L' : List Fl} (h : L'.map Fl.name = L.map Fl.name) (hr : Rising L) : Rising L' := by
  have e : ∀ M : List Fl, Rising M ↔ (M.map Fl.name).Pairwise fun a b => bytesBefore a.data.toList b.data.toList = true := fun M => by
    rw [List.pairwise_map]; rfl
  rw [e] at hr ⊢
  rw [h]; exact hr
theorem Dk.Ok.crash {d : Dk} (h : d.Ok) (keep turn : List Int) : (d.crash keep turn).Ok := by
  refine ⟨h.room, rising_of_names (crash_keys keep turn 0 d.L) h.rise, Nat.le_trans (crash_used keep turn 0 d.L h.safe) h.used, by show (crashL _ _ _ _).length ≤ _; rw [crash_len]; exact h.many,
    fun f hf => Nat.le_of_eq (crash_safe keep turn 0 d.L f hf), by show 0 < _; omega, fun f hf => ?_⟩
  have h1 : f.name ∈ (crashL keep turn 0 d.L).map Fl.name := List.mem_map_of_mem hf
  rw [crash_keys] at h1
  obtain ⟨g, hg, e⟩ := List.mem_map.1 h1
  rw [← e]; exact h.named g hg
theorem Dk.Ok.new {room : Nat} (h : room ≤ 4194304) : (Dk.new room).Ok :=
  ⟨h, Rising.nil, Nat.zero_le _, Nat.zero_le _, fun _ h => by simp [Dk.new] at h, by show 0 < _; omega, fun _ h => by simp [Dk.new] at h⟩
/-- What is safe stays as it is. -/
theorem findF_crash {keep turn : List Int} {kk : List UInt8} {f : Fl} : ∀ (k : Nat) (L : List Fl), findF kk L = some f → f.safe = f.bytes.size → findF kk (crashL keep turn k L) = some f
  | _, [], h, _ => by simp [findF] at h
  | k, g :: r, h, hs => by
    unfold findF at h
    rw [List.find?_cons] at h
    by_cases hg : (g.key == kk) = true
    · rw [hg] at h
      simp at h
      subst h
      unfold crashL
      rw [if_neg (by omega)]
      unfold findF
      rw [List.find?_cons]
      have : (Fl.key { g with safe := g.bytes.size } == kk) = true := hg
      rw [this]
      simp [← hs]
    · have hg' : (g.key == kk) = false := by simpa using hg
      rw [hg'] at h
      unfold crashL
      split
      · unfold findF
        rw [List.find?_cons]
        simp only [hg']
        exact findF_crash (k + 1) r h hs
      · unfold findF
        rw [List.find?_cons]
        simp only [hg']
        exact findF_crash k r h hs
end Go.Proofs.YtnpgjlhnlakgpaaDoor

/- The plain model of a log: a crash, and the opening behind it. The plain model of a log: opening anew behind crashes. -/
import Derived.Test.YtnpgjlhnlakgpaaGreatDoorG09
import Derived.Test.YtnpgjlhnlakgpaaGreatDoorG01
import Derived.Lib.Strings
namespace Go.Proofs.YtnpgjlhnlakgpaaGreatDoor
open Go.Lib

/-- The number of a segment's name. -/
def valB (l : List UInt8) : Nat := l.foldl (fun n c => 10 * n + (c.toNat - 48)) 0
def digB (c : UInt8) : Bool := decide (48 ≤ c.toNat) && decide (c.toNat ≤ 57)
def numK (k : List UInt8) : Option Nat :=
  if (trimPrefix k preL).length = 12 then if (trimPrefix k preL).all digB then if 0 < valB (trimPrefix k preL) then some (valB (trimPrefix k preL)) else none else none else none
/-- The numbers of the log's segments among files; none: one that begins like one is none. -/
def numsL : List Fl → Option (List Nat)
  | [] => some []
  | f :: r => if hasPrefix f.key preL then match numK f.key with
      | none => none
      | some n => (numsL r).map (n :: ·)
    else numsL r
/-- All segments looked at: the next number, where the last one's frames end, how many bytes it has. -/
def recN (d : Dk) : Nat → Nat → Nat → List Nat → Int × Nat × Nat × Nat
  | nx, sz, hv, [] => (0, nx, sz, hv)
  | nx, sz, hv, n :: t =>
    if (d.read (nameN n)).2 = 0 then
      if t ≠ [] ∧ ((scanF (d.read (nameN n)).1.data.toList).2 < (d.read (nameN n)).1.size ∨ n + (scanF (d.read (nameN n)).1.data.toList).1.length ≠ t.headD 0) then
        (150, n + (scanF (d.read (nameN n)).1.data.toList).1.length, (scanF (d.read (nameN n)).1.data.toList).2, (d.read (nameN n)).1.size)
      else recN d (n + (scanF (d.read (nameN n)).1.data.toList).1.length) (scanF (d.read (nameN n)).1.data.toList).2 (d.read (nameN n)).1.size t
    else ((d.read (nameN n)).2, nx, sz, hv)
/-- What is torn is cut off; and a Sync. -/
def mendW (d : Dk) (l : Lg) (hv : Nat) : Int × Dk × Lg :=
  if l.size < hv then
    if (d.cut (nameN l.lastN) (l.size : Int)).1 = 0 then syncW (d.cut (nameN l.lastN) (l.size : Int)).2 l else ((d.cut (nameN l.lastN) (l.size : Int)).1, (d.cut (nameN l.lastN) (l.size : Int)).2, l)
  else syncW d l
/-- recover. -/
def recW (d : Dk) (seg : Nat) (nums : List Nat) : Int × Dk × Lg :=
  if (recN d 0 0 0 nums).1 = 0 then
    if 999999999999 + 1 < (recN d 0 0 0 nums).2.1 then (150, d, ⟨seg, nums, (recN d 0 0 0 nums).2.2.1, (recN d 0 0 0 nums).2.1, 0⟩)
    else mendW d ⟨seg, nums, (recN d 0 0 0 nums).2.2.1, (recN d 0 0 0 nums).2.1, 0⟩ (recN d 0 0 0 nums).2.2.2
  else ((recN d 0 0 0 nums).1, d, ⟨seg, nums, (recN d 0 0 0 nums).2.2.1, (recN d 0 0 0 nums).2.1, 0⟩)
/-- Open: the error, the disk, the log (if the error is 0). -/
def openW (d : Dk) (seg : Nat) : Int × Dk × Lg :=
  if d.off then (143, d, ⟨seg, [], 0, 0, 0⟩) else match numsL d.L with
    | none => (150, d, ⟨seg, [], 0, 0, 0⟩)
    | some [] => ((d.create (nameN 1)).1, (d.create (nameN 1)).2, ⟨seg, [1], 0, 1, 0⟩)
    | some (n :: t) => recW d seg (n :: t)

theorem digs_val : ∀ k n, n < 10 ^ k → valB (digs k n) = n ∧ (digs k n).all digB = true
  | 0, n, h => by simp at h; subst h; exact ⟨rfl, rfl⟩
  | k + 1, n, h => by
    obtain ⟨h1, h2⟩ := digs_val k (n / 10) (by rw [Nat.pow_succ] at h; omega)
    have hc : (UInt8.ofNat (48 + n % 10)).toNat = 48 + n % 10 := by rw [UInt8.toNat_ofNat']; omega
    refine ⟨?_, ?_⟩
    · unfold valB digs
      rw [List.foldl_append]
      show 10 * valB (digs k (n / 10)) + ((UInt8.ofNat (48 + n % 10)).toNat - 48) = n
      rw [h1, hc]; omega
    · unfold digs
      rw [List.all_append, h2]
      simp [digB]
      omega
theorem pre_name (n : Nat) : hasPrefix (nameL n) preL = true ∧ trimPrefix (nameL n) preL = digs 12 n := by
  have h : hasPrefix (nameL n) preL = true := by unfold hasPrefix nameL; simp
  refine ⟨h, ?_⟩
  unfold trimPrefix
  rw [h, if_pos rfl]
  unfold nameL
  rw [List.drop_left]
theorem num_name {n : Nat} (h0 : 0 < n) (h : n < 1000000000000) : numK (nameL n) = some n := by
  obtain ⟨h1, h2⟩ := digs_val 12 n (by omega)
  unfold numK
  rw [(pre_name n).2, digs_len, if_pos rfl, h2, if_pos rfl, h1, if_pos h0]
theorem numsL_names : ∀ (L : List Fl) (ns : List Nat), L.map Fl.name = ns.map nameN → (∀ n ∈ ns, 0 < n ∧ n < 1000000000000) → numsL L = some ns
  | [], ns, h, _ => by
    have : ns = [] := by simpa using h.symm
    subst this; rfl
  | f :: r, ns, h, hn => by
    match ns, h with
    | n :: ns, h =>
      simp only [List.map_cons, List.cons.injEq] at h
      have hk : f.key = nameL n := by show f.name.data.toList = _; rw [h.1]; rfl
      have ih := numsL_names r ns h.2 (fun m hm => hn m (by simp [hm]))
      obtain ⟨h1, h2⟩ := hn n (by simp)
      unfold numsL
      rw [hk, (pre_name n).1, if_pos rfl, num_name h1 h2]
      simp [ih]

/-- Behind a crash: the last segment may be torn; all is safe. -/
structure CInv (d : Dk) (seg : Nat) (all : List (List UInt8)) (a : Nat) (init : List (List (List UInt8))) (lst : List (List UInt8)) (C : ByteArray) : Prop where
  files : d.L = fulls a init ++ [⟨nameN (a + init.flatten.length), C, C.size⟩]
  scan : scanF C.data.toList = (lst, (framesN lst).length)
  a1 : 1 ≤ a
  recs : all.drop (a - 1) = init.flatten ++ lst
  len : all.length + 1 = a + init.flatten.length + lst.length
  seg1 : 1 ≤ seg
  full : ∀ rs ∈ init, seg ≤ (framesN rs).length
  small : ∀ r ∈ all, r.length ≤ 65536
  max : all.length + 1 ≤ 999999999999
  ok : d.Ok
section
variable {d : Dk} {l : Lg} {all : List (List UInt8)} {a : Nat} {init : List (List (List UInt8))} {lst : List (List UInt8)} {sb : Nat} {C : ByteArray} {seg : Nat}
theorem modify_set (L : List UInt8) (p : Nat) (f : UInt8 → UInt8) : ∃ c, L.modify p f = L.set p c := by
  by_cases h : p < L.length
  · refine ⟨f L[p], List.ext_getElem? fun i => ?_⟩
    rw [List.getElem?_modify, List.getElem?_set]
    by_cases hi : p = i
    · subst hi; simp [h]
    · simp [hi]
  · exact ⟨0, by rw [List.set_eq_of_length_le (by omega), List.modify_eq_self (by omega)]⟩
/-- What a crash leaves of a file: its first bytes, all that were safe among them, of which one that was not safe may be another one. -/
theorem stays_form (f : Fl) (keep turn : Int) (hs : f.safe ≤ f.bytes.size) : ∃ M p c, f.safe ≤ M ∧ M ≤ f.bytes.size ∧ f.safe ≤ p ∧ (staysB f keep turn).data.toList = (f.bytes.data.toList.take M).set p c := by
  have hl : f.bytes.data.toList.length = f.bytes.size := by simp
  have hb := staysB_bd f keep turn hs
  unfold staysB at hb ⊢
  simp only at hb ⊢
  generalize hm : (if 0 < keep then (keep % ((f.bytes.size - f.safe + 1 : Nat) : Int)).toNat else 0) = m at hb ⊢
  have hmle : m ≤ f.bytes.size - f.safe := by
    rw [← hm]
    split
    · have h1 := Int.emod_lt_of_pos keep (show (0 : Int) < ((f.bytes.size - f.safe + 1 : Nat) : Int) by omega)
      have h0 := Int.emod_nonneg keep (show ((f.bytes.size - f.safe + 1 : Nat) : Int) ≠ 0 by omega)
      omega
    · omega
  split
  · refine ⟨f.safe + m, f.bytes.size, 0, by omega, by omega, hs, ?_⟩
    rw [List.set_eq_of_length_le (by rw [List.length_take]; omega), ByteArray.data_extract]
    simp
  · obtain ⟨c, hc⟩ := modify_set (f.bytes.data.toList.take (f.safe + m)) (f.safe + (turn / 256 % (m : Int)).toNat) (fun c => c ^^^ UInt8.ofNat (turn % 256).toNat)
    exact ⟨f.safe + m, f.safe + (turn / 256 % (m : Int)).toNat, c, by omega, by omega, by omega, hc⟩
theorem crash_full (keep turn : List Int) : ∀ (x : List (List (List UInt8))) (a k : Nat), crashL keep turn k (fulls a x) = fulls a x ∧ unsafeN (fulls a x) = 0
  | [], _, _ => ⟨rfl, rfl⟩
  | rs :: t, a, k => by
    have hz : (bs (framesN rs)).size = (framesN rs).length := bs_size _
    obtain ⟨h1, h2⟩ := crash_full keep turn t (a + rs.length) k
    refine ⟨?_, ?_⟩
    · simp only [fulls, crashL]
      rw [if_neg (by simp only [hz]; omega), h1]
      simp [hz]
    · simp only [fulls]
      rw [unsafeN_cons, h2, if_neg (by simp only [hz]; omega)]
/-- A crash: a beginning of the records is there, with all that were safe. -/
theorem LInv.crash (h : LInv d l all a init lst sb) (keep turn : List Int) :
    ∃ j C, j ≤ lst.length ∧ CInv (d.crash keep turn) l.seg (all.take (a - 1 + init.flatten.length + j)) a init (lst.take j) C ∧ l.safe ≤ a - 1 + init.flatten.length + j ∧ (d.crash keep turn).off = false := by
  have hz : (bs (framesN lst)).size = (framesN lst).length := bs_size _
  have ha := h.a1
  have hn := h.next
  have hlen := h.len
  have hss := h.safe1
  have hsb : sb ≤ (framesN lst).length := by have := h.sble; rw [h.size] at this; exact this
  have hsm : ∀ r ∈ lst, r.length ≤ 65536 := fun r hr => h.small r (List.mem_of_mem_drop (by rw [h.recs]; simp [hr]))
  obtain ⟨C, M, p, c, hC, h1, h2, h3, h4⟩ : ∃ C M p c, (d.crash keep turn).L = fulls a init ++ [⟨nameN (a + init.flatten.length), C, C.size⟩] ∧ sb ≤ M ∧ M ≤ (framesN lst).length ∧ sb ≤ p ∧ C.data.toList = ((framesN lst).take M).set p c := by
    show ∃ C M p c, crashL keep turn 0 d.L = _ ∧ _
    rw [h.files, crashL_append, (crash_full keep turn init a 0).1, (crash_full keep turn init a 0).2]
    simp only [Nat.add_zero, crashL_one]
    unfold crash1
    by_cases hlt : sb < (bs (framesN lst)).size
    · rw [if_pos hlt]
      obtain ⟨M, p, c, h1, h2, h3, h4⟩ := stays_form ⟨nameN (a + init.flatten.length), bs (framesN lst), sb⟩ (atL keep 0) (atL turn 0) (by simp only [hz]; exact hsb)
      exact ⟨_, M, p, c, rfl, h1, by simpa [hz] using h2, h3, h4⟩
    · rw [if_neg hlt]
      refine ⟨bs (framesN lst), (framesN lst).length, (framesN lst).length, 0, rfl, hsb, Nat.le_refl _, hsb, ?_⟩
      rw [List.take_length, List.set_eq_of_length_le (Nat.le_refl _)]
      rfl
  obtain ⟨j, hj, s1, s2, s3⟩ := crash_scan lst sb M p c hsm h1 h2 h3
  have hal : all.length = a - 1 + init.flatten.length + lst.length := by omega
  have hjl : (lst.take j).length = j := by rw [List.length_take]; omega
  refine ⟨j, C, hj, ⟨hC, by rw [h4]; exact s1, ha, ?_, ?_, h.seg1, h.full, fun r hr => h.small r (List.mem_of_mem_take hr), ?_, h.ok.crash keep turn⟩, ?_, rfl⟩
  · rw [List.drop_take, h.recs, show a - 1 + init.flatten.length + j - (a - 1) = init.flatten.length + j by omega, List.take_length_add_append]
  · rw [List.length_take, hjl]; omega
  · rw [List.length_take]; have := h.max; omega
  · have := s3 (l.safe + 1 - (a + init.flatten.length)) (by omega) h.safe2
    omega
/-- A second one changes nothing. -/
theorem CInv.crash (h : CInv d seg all a init lst C) (keep turn : List Int) : CInv (d.crash keep turn) seg all a init lst C ∧ (d.crash keep turn).off = false := by
  have e : (d.crash keep turn).L = d.L := crash_twice keep turn 0 d.L (fun f hf => by
    rw [h.files] at hf
    rcases List.mem_append.1 hf with hf | hf
    · exact (full_safe init a f hf)
    · rw [List.mem_singleton.1 hf])
  exact ⟨⟨e.trans h.files, h.scan, h.a1, h.recs, h.len, h.seg1, h.full, h.small, h.max, h.ok.crash keep turn⟩, rfl⟩
where
  full_safe : ∀ (x : List (List (List UInt8))) (a : Nat) (f : Fl), f ∈ fulls a x → f.safe = f.bytes.size
    | [], _, _, hf => by cases hf
    | rs :: t, a, f, hf => by
      rcases List.mem_cons.1 hf with rfl | hf
      · exact (bs_size _).symm
      · exact full_safe t (a + rs.length) f hf
theorem CInv.arm (h : CInv d seg all a init lst C) (n : Int) (hn : n < 9223372036854775808) : CInv (d.arm n) seg all a init lst C := by
  have e : (d.arm n).L = d.L := by unfold Dk.arm; split <;> rfl
  exact ⟨e.trans h.files, h.scan, h.a1, h.recs, h.len, h.seg1, h.full, h.small, h.max, h.ok.arm hn⟩
theorem CInv.pos (h : CInv d seg all a init lst C) : ∀ rs ∈ init, 1 ≤ rs.length := fun rs hr => frames_pos (Nat.le_trans h.seg1 (h.full rs hr))
theorem CInv.below (h : CInv d seg all a init lst C) : ∀ f ∈ fulls a init, bytesBefore f.key (nameL (a + init.flatten.length)) = true :=
  fulls_below a init h.pos (by have := h.max; have := h.len; omega)
theorem rec_all (ho : d.off = false) (hsc : scanF C.data.toList = (lst, (framesN lst).length)) : ∀ (init : List (List (List UInt8))) (a nx sz hv : Nat) (Y : List Fl),
    d.L = Y ++ (fulls a init ++ [⟨nameN (a + init.flatten.length), C, C.size⟩]) → Rising d.L → (∀ r ∈ init.flatten, r.length ≤ 65536) →
    recN d nx sz hv (numsOf a init ++ [a + init.flatten.length]) = (0, a + init.flatten.length + lst.length, (framesN lst).length, C.size)
  | [], a, nx, sz, hv, Y, hL, hr, hs => by
    simp only [List.flatten_nil, List.length_nil, Nat.add_zero, fulls, numsOf, List.nil_append] at hL ⊢
    have hfi : findF (nameL a) d.L = some ⟨nameN a, C, C.size⟩ := find_of_idx hr (i := Y.length) (g := ⟨nameN a, C, C.size⟩) (by rw [hL]; simp)
    simp only [recN]
    rw [read_at ho rfl hfi, if_pos rfl, if_neg (fun h => h.1 rfl), hsc]
  | rs :: t, a, nx, sz, hv, Y, hL, hr, hs => by
    obtain ⟨rest, e1, e2⟩ := nums_two a rs t _ rfl
    have hfi : findF (nameL a) d.L = some ⟨nameN a, bs (framesN rs), (framesN rs).length⟩ := find_of_idx hr (i := Y.length) (g := ⟨nameN a, bs (framesN rs), (framesN rs).length⟩) (by rw [hL]; simp [fulls])
    have hq : a + (rs :: t).flatten.length = a + rs.length + t.flatten.length := by simp [Nat.add_assoc]
    have hsr := scan_frames rs [] (fun r h => hs r (by simp [h]))
    rw [List.append_nil, scan_nil] at hsr
    simp only [List.append_nil, Nat.add_zero] at hsr
    have ih := rec_all ho hsc t (a + rs.length) (a + rs.length) (framesN rs).length (framesN rs).length (Y ++ [⟨nameN a, bs (framesN rs), (framesN rs).length⟩]) (by rw [hL, hq]; simp [fulls]) hr (fun r h => hs r (by simp only [List.flatten_cons, List.mem_append]; exact .inr h))
    rw [← hq, e2] at ih
    rw [e1]
    simp only [recN] at ih ⊢
    rw [read_at ho rfl hfi, if_pos rfl, bs_data', hsr, bs_size, if_neg (by simp)]
    exact ih
/-- Opened: the log stands, with all that is there, all safe; or the power goes, and it can be opened anew. -/
theorem CInv.opens (h : CInv d seg all a init lst C) (ho : d.off = false) :
    ((openW d seg).1 = 143 ∧ ∃ C', CInv (openW d seg).2.1 seg all a init lst C' ) ∨
    ((openW d seg).1 = 0 ∧ LInv (openW d seg).2.1 (openW d seg).2.2 all a init lst (openW d seg).2.2.size ∧ (openW d seg).2.2.seg = seg ∧ (openW d seg).2.2.safe + 1 = (openW d seg).2.2.next) := by
  have hlen := h.len
  have hmax := h.max
  have ha := h.a1
  have hrs : ∀ r ∈ init.flatten, r.length ≤ 65536 := fun r hr => h.small r (List.mem_of_mem_drop (by rw [h.recs]; simp only [List.mem_append]; exact .inl hr))
  obtain ⟨nums, hnums⟩ : ∃ nums, numsOf a init ++ [a + init.flatten.length] = nums := ⟨_, rfl⟩
  have hne : ∃ n t, nums = n :: t := by
    rw [← hnums]
    cases init with
    | nil => exact ⟨_, _, rfl⟩
    | cons rs t => exact ⟨_, _, rfl⟩
  have hnl : numsL d.L = some nums := by
    refine numsL_names _ _ ?_ ?_
    · rw [h.files, ← hnums]; simp [fulls_names]
    · intro n hn
      rw [← hnums] at hn
      have := nums_bd init a n hn
      omega
  have hrec : recN d 0 0 0 nums = (0, a + init.flatten.length + lst.length, (framesN lst).length, C.size) := by rw [← hnums]; exact rec_all ho h.scan init a 0 0 0 [] (by rw [h.files]; rfl) h.ok.rise hrs
  have e : openW d seg = mendW d ⟨seg, nums, (framesN lst).length, a + init.flatten.length + lst.length, 0⟩ C.size := by
    obtain ⟨n, t, hnt⟩ := hne
    unfold openW
    rw [ho, if_neg (by decide), hnl, hnt]
    simp only
    rw [← hnt]
    unfold recW
    rw [hrec, if_pos rfl, if_neg (by simp only; omega)]
  rw [e]
  have hlast : (⟨seg, nums, (framesN lst).length, a + init.flatten.length + lst.length, 0⟩ : Lg).lastN = a + init.flatten.length := by
    unfold Lg.lastN
    simp only
    rw [← hnums, List.getLastD_concat]
  have hback := scanF_back C.data.toList
  rw [h.scan] at hback
  simp only at hback
  have hCl : C.data.toList.length = C.size := by simp
  have fin : ∀ (d : Dk), d.off = false → d.Ok → d.L = fulls a init ++ [⟨nameN (a + init.flatten.length), bs (framesN lst), (framesN lst).length⟩] →
      ((syncW d ⟨seg, nums, (framesN lst).length, a + init.flatten.length + lst.length, 0⟩).1 = 143 ∧ ∃ C', CInv (syncW d ⟨seg, nums, (framesN lst).length, a + init.flatten.length + lst.length, 0⟩).2.1 seg all a init lst C') ∨
      ((syncW d ⟨seg, nums, (framesN lst).length, a + init.flatten.length + lst.length, 0⟩).1 = 0 ∧ LInv (syncW d ⟨seg, nums, (framesN lst).length, a + init.flatten.length + lst.length, 0⟩).2.1 (syncW d ⟨seg, nums, (framesN lst).length, a + init.flatten.length + lst.length, 0⟩).2.2 all a init lst (syncW d ⟨seg, nums, (framesN lst).length, a + init.flatten.length + lst.length, 0⟩).2.2.size ∧ (syncW d ⟨seg, nums, (framesN lst).length, a + init.flatten.length + lst.length, 0⟩).2.2.seg = seg ∧ (syncW d ⟨seg, nums, (framesN lst).length, a + init.flatten.length + lst.length, 0⟩).2.2.safe + 1 = (syncW d ⟨seg, nums, (framesN lst).length, a + init.flatten.length + lst.length, 0⟩).2.2.next) := by
    intro d ho hok hL
    have hI : LInv d ⟨seg, nums, (framesN lst).length, a + init.flatten.length + lst.length, 0⟩ all a init lst (framesN lst).length :=
      ⟨hL, hnums.symm, ha, h.recs, rfl, hlen, h.seg1, h.full, rfl, Nat.le_refl _, by simp only; omega, by simp only [Nat.zero_add]; rw [show 1 - (a + init.flatten.length) = 0 by omega]; simp [framesN], h.small, by simp only; omega, hok⟩
    have hsf := scan_frames lst [] (fun r hr => h.small r (List.mem_of_mem_drop (by rw [h.recs]; simp only [List.mem_append]; exact .inr hr)))
    rw [List.append_nil, scan_nil] at hsf
    simp only [List.append_nil, Nat.add_zero] at hsf
    rcases hI.sync with ⟨s1, s2, s3, s4⟩ | ⟨s1, s2, s3⟩
    · refine .inl ⟨s1, bs (framesN lst), ⟨by rw [s3.files, bs_size], hsf, ha, h.recs, hlen, h.seg1, h.full, h.small, hmax, s3.ok⟩⟩
    · refine .inr ⟨s1, ?_, by rw [s2], by rw [s2]; show a + init.flatten.length + lst.length - 1 + 1 = a + init.flatten.length + lst.length; omega⟩
      have : (syncW d ⟨seg, nums, (framesN lst).length, a + init.flatten.length + lst.length, 0⟩).2.2.size = (framesN lst).length := by rw [s2]
      rw [this]
      exact s3
  unfold mendW
  rw [hlast]
  simp only
  by_cases hc : (framesN lst).length < C.size
  · rw [if_pos hc]
    have hfi : findF (nameN (a + init.flatten.length)).data.toList d.L = some ⟨nameN (a + init.flatten.length), C, C.size⟩ := by rw [h.files]; exact find_last rfl h.below
    have hex : C.extract 0 (framesN lst).length = bs (framesN lst) := by
      apply ba_of_list
      rw [ByteArray.data_extract, bs_data', ← hback.1]
      simp
    have hcut : d.cut (nameN (a + init.flatten.length)) ((framesN lst).length : Int) = d.act (fulls a init ++ [⟨nameN (a + init.flatten.length), bs (framesN lst), (framesN lst).length⟩]) := by
      unfold Dk.cut
      rw [ho, hfi, if_neg (by decide)]
      simp only
      rw [if_neg (by omega), h.files, Int.toNat_natCast, hex, Nat.min_eq_right (by omega), put_last (f := ⟨nameN (a + init.flatten.length), C, C.size⟩) (g := ⟨nameN (a + init.flatten.length), bs (framesN lst), (framesN lst).length⟩) rfl h.below]
    have hok := h.ok.cut (nameN (a + init.flatten.length)) ((framesN lst).length : Int)
    rw [hcut] at hok ⊢
    cases hr : d.refuses with
    | true =>
      rw [act_no hr, if_neg (by simp)]
      exact .inl ⟨rfl, C, ⟨h.files, h.scan, ha, h.recs, hlen, h.seg1, h.full, h.small, hmax, h.ok.gone⟩⟩
    | false =>
      rw [act_go hr] at hok ⊢
      rw [if_pos rfl]
      exact fin _ ho hok rfl
  · rw [if_neg hc]
    have hCe : C = bs (framesN lst) := by
      apply ba_of_list
      rw [bs_data', ← hback.1, List.take_of_length_le (by omega)]
    refine fin d ho h.ok ?_
    have hz : C.size = (framesN lst).length := by have := hback.2.1; omega
    rw [h.files, hz, hCe]
where
  nums_bd : ∀ (x : List (List (List UInt8))) (a n : Nat), n ∈ numsOf a x ++ [a + x.flatten.length] → a ≤ n ∧ n ≤ a + x.flatten.length
    | [], a, n, h => by simp [numsOf] at h; subst h; simp
    | rs :: t, a, n, h => by
      simp only [numsOf, List.cons_append, List.mem_cons, List.flatten_cons, List.length_append] at h ⊢
      rcases h with rfl | h
      · omega
      · have := nums_bd t (a + rs.length) n (by rw [Nat.add_assoc]; exact h)
        omega
end
end Go.Proofs.YtnpgjlhnlakgpaaGreatDoor
namespace Go.Proofs.YtnpgjlhnlakgpaaGreatDoor
open Go.Lib

theorem cut_st (d : Dk) (nm : ByteArray) (n : Int) : (d.cut nm n).2.steps ≤ d.steps + 1 := by
  unfold Dk.cut
  split
  · show d.steps ≤ _; omega
  · split
    · show d.steps ≤ _; omega
    · split
      · show d.steps ≤ _; omega
      · unfold Dk.act
        split
        · show d.steps ≤ _; omega
        · show d.steps + 1 ≤ _; omega
theorem mendW_st (d : Dk) (l : Lg) (hv : Nat) : (mendW d l hv).2.1.steps ≤ d.steps + 2 := by
  have h1 := cut_st d (nameN l.lastN) (l.size : Int)
  have h2 := syncW_st (d.cut (nameN l.lastN) (l.size : Int)).2 l
  have h3 := syncW_st d l
  unfold mendW
  split
  · split
    · omega
    · simp only; omega
  · omega
theorem recW_st (d : Dk) (seg : Nat) (nums : List Nat) : (recW d seg nums).2.1.steps ≤ d.steps + 2 := by
  unfold recW
  split
  · split
    · simp only; omega
    · exact mendW_st _ _ _
  · simp only; omega
theorem openW_st (d : Dk) (seg : Nat) : (openW d seg).2.1.steps ≤ d.steps + 2 := by
  unfold openW
  split
  · simp only; omega
  · split
    · simp only; omega
    · have := create_st d (nameN 1)
      simp only; omega
    · exact recW_st _ _ _
theorem act_calm {d : Dk} (h : d.armed = false) (L : List Fl) : (d.act L).1 = 0 ∧ (d.act L).2.off = d.off ∧ (d.act L).2.armed = false := by
  rw [act_go (by simp [Dk.refuses, h])]
  exact ⟨rfl, rfl, h⟩
theorem read_calm {d : Dk} (ho : d.off = false) (nm : ByteArray) : (d.read nm).2 ≠ 143 := by
  unfold Dk.read
  rw [ho, if_neg (by decide)]
  split <;> simp
theorem recN_calm {d : Dk} (ho : d.off = false) : ∀ (nums : List Nat) (nx sz hv : Nat), (recN d nx sz hv nums).1 ≠ 143
  | [], _, _, _ => by simp [recN]
  | n :: t, nx, sz, hv => by
    simp only [recN]
    split
    · split
      · simp
      · exact recN_calm ho t _ _ _
    · exact read_calm ho _
theorem sync_calm {d : Dk} (ho : d.off = false) (ha : d.armed = false) (nm : ByteArray) : (d.sync nm).1 ≠ 143 := by
  unfold Dk.sync
  rw [ho, if_neg (by decide)]
  split
  · simp
  · rw [(act_calm ha _).1]; decide
theorem cut_calm {d : Dk} (ho : d.off = false) (ha : d.armed = false) (nm : ByteArray) (n : Int) : (d.cut nm n).1 ≠ 143 ∧ (d.cut nm n).2.off = false ∧ (d.cut nm n).2.armed = false := by
  unfold Dk.cut
  rw [ho, if_neg (by decide)]
  split
  · exact ⟨by simp, ho, ha⟩
  · split
    · exact ⟨by simp, ho, ha⟩
    · exact ⟨by rw [(act_calm ha _).1]; decide, by rw [(act_calm ha _).2.1, ho], (act_calm ha _).2.2⟩
theorem syncW_calm {d : Dk} (ho : d.off = false) (ha : d.armed = false) (l : Lg) : (syncW d l).1 ≠ 143 := by
  have h := sync_calm ho ha (nameN l.lastN)
  unfold syncW
  split
  · simp
  · exact h
theorem mendW_calm {d : Dk} (ho : d.off = false) (ha : d.armed = false) (l : Lg) (hv : Nat) : (mendW d l hv).1 ≠ 143 := by
  obtain ⟨h1, h2, h3⟩ := cut_calm ho ha (nameN l.lastN) (l.size : Int)
  unfold mendW
  split
  · split
    · exact syncW_calm h2 h3 l
    · exact h1
  · exact syncW_calm ho ha l
theorem recW_calm {d : Dk} (ho : d.off = false) (ha : d.armed = false) (seg : Nat) (nums : List Nat) : (recW d seg nums).1 ≠ 143 := by
  unfold recW
  split
  · split
    · simp
    · exact mendW_calm ho ha _ _
  · exact recN_calm ho _ _ _ _
theorem openW_calm {d : Dk} (ho : d.off = false) (ha : d.armed = false) (seg : Nat) (hn : ∃ n t, numsL d.L = some (n :: t)) : (openW d seg).1 ≠ 143 := by
  obtain ⟨n, t, hn⟩ := hn
  unfold openW
  rw [if_neg (by rw [ho]; decide), hn]
  exact recW_calm ho ha _ _
theorem sync_off {d : Dk} (ho : d.off = false) (ha : d.armed = false) (nm : ByteArray) : (d.sync nm).2.off = false := by
  unfold Dk.sync
  rw [ho, if_neg (by decide)]
  split
  · exact ho
  · rw [(act_calm ha _).2.1, ho]
theorem create_off {d : Dk} (ho : d.off = false) (ha : d.armed = false) (nm : ByteArray) : (d.create nm).2.off = false := by
  unfold Dk.create
  rw [ho, if_neg (by decide)]
  split
  · exact ho
  · split
    · exact ho
    · split
      · exact ho
      · rw [(act_calm ha _).2.1, ho]
theorem syncW_off {d : Dk} (ho : d.off = false) (ha : d.armed = false) (l : Lg) : (syncW d l).2.1.off = false := by
  have h := sync_off ho ha (nameN l.lastN)
  unfold syncW
  split <;> exact h
theorem mendW_off {d : Dk} (ho : d.off = false) (ha : d.armed = false) (l : Lg) (hv : Nat) : (mendW d l hv).2.1.off = false := by
  obtain ⟨h1, h2, h3⟩ := cut_calm ho ha (nameN l.lastN) (l.size : Int)
  unfold mendW
  split
  · split
    · exact syncW_off h2 h3 l
    · exact h2
  · exact syncW_off ho ha l
theorem openW_off {d : Dk} (ho : d.off = false) (ha : d.armed = false) (seg : Nat) : (openW d seg).2.1.off = false := by
  unfold openW
  rw [if_neg (by rw [ho]; decide)]
  split
  · exact ho
  · exact create_off ho ha _
  · unfold recW
    split
    · split
      · exact ho
      · exact mendW_off ho ha _ _
    · exact ho
section
variable {d : Dk} {l : Lg} {all : List (List UInt8)} {a : Nat} {init : List (List (List UInt8))} {lst : List (List UInt8)} {sb : Nat} {C : ByteArray} {seg : Nat}
theorem CInv.some_num (h : CInv d seg all a init lst C) : ∃ n t, numsL d.L = some (n :: t) := by
  have hlen := h.len
  have hmax := h.max
  have ha := h.a1
  have hnl : numsL d.L = some (numsOf a init ++ [a + init.flatten.length]) := by
    refine numsL_names _ _ ?_ ?_
    · rw [h.files]; simp [fulls_names]
    · intro n hn
      have := CInv.opens.nums_bd init a n hn
      omega
  rw [hnl]
  cases init with
  | nil => exact ⟨_, _, rfl⟩
  | cons rs t => exact ⟨_, _, rfl⟩
/-- What is left behind the crash is known. -/
def CR (d : Dk) (keep turn : List Int) (seg : Nat) (all : List (List UInt8)) (a : Nat) (init : List (List (List UInt8))) (lst : List (List UInt8)) : Prop := d.Ok ∧ ∃ C, CInv (d.crash keep turn) seg all a init lst C
theorem CInv.cr (h : CInv d seg all a init lst C) (keep turn : List Int) : CR d keep turn seg all a init lst := ⟨h.ok, C, (h.crash keep turn).1⟩
theorem LInv.cr (h : LInv d l all a init lst sb) (hs : l.safe + 1 = l.next) (hseg : l.seg = seg) (keep turn : List Int) : CR d keep turn seg all a init lst := by
  obtain ⟨j, C, hj, hc, hsj, _⟩ := h.crash keep turn
  have h1 := h.next
  have h2 := h.len
  have h3 := h.a1
  obtain rfl : j = lst.length := by omega
  rw [List.take_length, List.take_of_length_le (by omega), hseg] at hc
  exact ⟨h.ok, C, hc⟩
/-- Crash, and Open with so much power. -/
theorem CR.armed {keep turn : List Int} (h : CR d keep turn seg all a init lst) (n : Int) (hn : n < 9223372036854775808) :
    ((openW ((d.crash keep turn).arm n) seg).1 = 143 ∨ (openW ((d.crash keep turn).arm n) seg).1 = 0) ∧ CR (openW ((d.crash keep turn).arm n) seg).2.1 keep turn seg all a init lst := by
  obtain ⟨_, C, hc⟩ := h
  have hoff : ((d.crash keep turn).arm n).off = false := by unfold Dk.arm; split <;> rfl
  rcases (hc.arm n hn).opens hoff with ⟨h1, C', h2⟩ | ⟨h1, h2, h3, h4⟩
  · exact ⟨.inl h1, h2.cr keep turn⟩
  · exact ⟨.inr h1, h2.cr h4 h3 keep turn⟩
theorem CR.last {keep turn : List Int} (h : CR d keep turn seg all a init lst) :
    (openW (d.crash keep turn) seg).1 = 0 ∧ LInv (openW (d.crash keep turn) seg).2.1 (openW (d.crash keep turn) seg).2.2 all a init lst (openW (d.crash keep turn) seg).2.2.size ∧ (openW (d.crash keep turn) seg).2.2.seg = seg ∧ (openW (d.crash keep turn) seg).2.2.safe + 1 = (openW (d.crash keep turn) seg).2.2.next := by
  obtain ⟨_, C, hc⟩ := h
  rcases hc.opens rfl with ⟨h1, _⟩ | h1
  · exact absurd h1 (openW_calm rfl rfl seg hc.some_num)
  · exact h1
end
end Go.Proofs.YtnpgjlhnlakgpaaGreatDoor

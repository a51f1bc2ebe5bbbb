/- The contract of the disk's Files: what an onlooker knows. A slice of files as it lies. -/
import Derived.Test.YtnpgjlhnlakgpaaDoorVfsCrash
namespace Go.Proofs.YtnpgjlhnlakgpaaDoor
open Go.RowKit Go.Maps

def fileCells (L : List Fl) : List Value := L.flatMap fun f => [.string f.name, .string f.bytes, .int .i64 (f.safe : Int)]
theorem fileCells_snoc (L : List Fl) (f : Fl) : fileCells (L ++ [f]) = fileCells L ++ [.string f.name, .string f.bytes, .int .i64 (f.safe : Int)] := by simp [fileCells]
theorem Fileinfo : (Tryd.prog.info? 71).map (fun i => (i.zero, i.size, i.bytes)) = some (some (.agg #[.string ⟨#[]⟩, .string ⟨#[]⟩, .int .i64 0]), 3, 40) := by kernel_rfl
theorem cell3_new (W : World) (x y z : Value) (t : TypeId) (j : Nat) (u : Value) (hj : [x, y, z][j]? = some u) : (W.alloc (.cells #[x, y, z] t)).cell? ((⟨W.heap.size, 0, none⟩ : Addr).add j) = some u := by
  have hadd : (⟨W.heap.size, 0, none⟩ : Addr).add j = ⟨W.heap.size, j, none⟩ := by unfold Addr.add; split <;> simp_all
  rw [hadd, World.cell?_alloc_new]
  match j, hj with
  | 0, hj => exact hj
  | 1, hj => exact hj
  | 2, hj => exact hj
theorem owns_down {w : World} {B B' : Nat} {e : TypeId} {k : Nat} {v : Value} {n : Nat} {xs : List Value} (h : w.ownsRow B e k v n xs) (hb : B' ≤ B) : w.ownsRow B' e k v n xs := by
  refine ⟨h.1, ?_⟩
  rcases h.2 with h | ⟨g, cap, cur, h1, h2, h3⟩
  · exact .inl h
  · exact .inr ⟨g, cap, cur, h1, Nat.le_trans hb h2, h3⟩
theorem owns_slice {w : World} {B : Nat} {e : TypeId} {k : Nat} {v : Value} {n : Nat} {xs : List Value} (h : w.ownsRow B e k v n xs) : ∃ p ln cp, v = .slice p ln cp := by
  rcases h.2 with ⟨rfl, _⟩ | ⟨g, cap, cur, rfl, _⟩
  · exact ⟨_, _, _, rfl⟩
  · exact ⟨_, _, _, rfl⟩

set_option maxRecDepth 100000 in
set_option maxHeartbeats 8000000 in
theorem files_any {d : Dk} {w : World} {b m : Nat} (h : DAt w b m d) (hok : d.Ok) :
    Calls Tryd.prog 42 #[.pointer (some ⟨b, 0, none⟩)] w fun e w' => ∃ v, e = .returned v ∧ w'.ownsRow w.heap.size 71 3 v d.L.length (fileCells d.L) ∧ Below w.heap.size w w' := by
  obtain ⟨i0, hi, hz0, hz1, hz2⟩ := info_parts Fileinfo
  have H := Lib.hid h
  have HOK := Lib.hid hok
  have hmany := hok.many
  clear h hok
  go_enter Tryd.func42, Tryd.ntmps42
  go_wp2_with (first | (go_at_call 73; refine (names_any sortC H.out HOK.out).mono ?_; rintro e w1 ⟨v, rfl, hrow, hB1⟩; obtain ⟨np, nc, rfl, hna⟩ := NamesAt.of_row hrow; have HNA := Lib.hid hna; have HB1 := Lib.hid hB1; clear hrow hB1 hna) | fail)
  have hz1' := HB1.out.size
  have HD1 := Lib.hid (H.out.below HB1.out)
  go_loopw [3, 9] (fun lv iv wr => ∃ i : Nat, i ≤ d.L.length ∧ iv = .int .i64 (i : Int) ∧ wr.ownsRow w1.heap.size 71 3 lv i (fileCells (d.L.take i)) ∧ Below w1.heap.size w1 wr)
    (fun _ iv _ => d.L.length - (intOf iv).toNat)
  case atStart => exact ⟨0, Nat.zero_le _, rfl, World.ownsRow_nil _ _ _ _, Below.refl _ _⟩
  case round =>
    obtain ⟨i, hi', rfl, hrow, hnx⟩ := hrel
    have HROW := Lib.hid hrow
    have HNX := Lib.hid hnx
    have hzr := hnx.size
    clear hrow hnx
    by_cases hlt : i < d.L.length
    · obtain ⟨f, hf⟩ : ∃ f, d.L[i]? = some f := ⟨d.L[i], List.getElem?_eq_getElem hlt⟩
      have hfm : f ∈ d.L := List.mem_of_getElem? hf
      have hne : d.L ≠ [] := fun e => by rw [e] at hlt; simp at hlt
      have hnm := HOK.out.named f hfm
      obtain ⟨g, rfl, hg, hnc⟩ := HNA.out.resolve_left hne
      have hncr : wr.cell? ⟨g, i, none⟩ = some (.string f.name) := by
        have h1 := hnc i f hf
        rw [HNX.out.cell (p := ⟨g, i, none⟩) (World.block_lt_of_cell? _ _ h1)]
        exact h1
      have HFIND := Lib.hid (find_of_idx HOK.out.rise hf)
      have HKEY := Lib.hid (hkeyS (s := f.name) (by unfold maxLen; omega))
      have HTK := Lib.hid (show fileCells (d.L.take (i + 1)) = fileCells (d.L.take i) ++ [.string f.name, .string f.bytes, .int .i64 (f.safe : Int)] by rw [List.take_add_one, hf]; exact fileCells_snoc _ _)
      have HDR := Lib.hid (HD1.out.below HNX.out)
      have c2 := HDR.out.c2
      obtain ⟨lp, ln, lc, hlv⟩ := owns_slice HROW.out
      subst hlv
      clear hf hfm hne hnc hg
      go_wp2_with (first
        | (at_lookup; refine wpList_look_hit _ rfl _ _ 107 rfl 9 117 lawK Tryd.underlying107 (zeroE _) m _ d.L rfl HDR.out.own _ _ rfl HKEY.out f HFIND.out ?_)
        | (at_builtin; refine wpList_append_own _ rfl _ _ 68 rfl w1.heap.size 71 i0 (.agg #[.string ⟨#[]⟩, .string ⟨#[]⟩, .int .i64 0]) 3 40 Tryd.underlying68 hi hz0 hz1 hz2 rfl (by decide) _ _ _ rfl (HROW.out.alloc _) ⟨wr.heap.size, 0, none⟩ 1 1 [.string f.name, .string f.bytes, .int .i64 (f.safe : Int)] rfl rfl (cell3_new _ _ _ _ _) (by simp [Value.oneCell']) (by unfold maxLen; omega) (by omega) (by simp; omega) ?_; intro v' w3 hown' hg3 _; have HO3 := Lib.hid hown'; have HG3 := Lib.hid hg3; clear hown' hg3; go_frame)
        | fail)
      go_roundw
      case rel =>
        refine ⟨i + 1, by omega, by go_num, by rw [HTK.out]; exact HO3.out, ?_⟩
        exact (HNX.out.alloc (by omega) _).grown HG3.out (by simp; omega) (fun j hj => (HROW.out.lt j hj).1)
      case measure => simp [intOf]; omega
    · obtain rfl : i = d.L.length := by omega
      obtain ⟨lp, ln, lc, hlv⟩ := owns_slice HROW.out
      subst hlv
      go_wp2_with fail
      go_ret
      refine ⟨_, rfl, ?_, HB1.out.trans (HNX.out.mono hz1')⟩
      have := HROW.out
      rw [List.take_length] at this
      exact owns_down this hz1'
end Go.Proofs.YtnpgjlhnlakgpaaDoor
namespace Go.Proofs.YtnpgjlhnlakgpaaDoor
open Go.RowKit Go.Maps

def FilesW (w : World) (v : Value) (L : List Fl) : Prop :=
  ∃ p c, v = .slice p L.length c ∧ (L = [] ∨ ∃ g, p = some ⟨g, 0, none⟩ ∧ ∀ i f, L[i]? = some f → w.cell? ⟨g, i * 3, none⟩ = some (.string f.name) ∧ w.cell? ⟨g, i * 3 + 1, none⟩ = some (.string f.bytes) ∧ w.cell? ⟨g, i * 3 + 2, none⟩ = some (.int .i64 (f.safe : Int)))
theorem fileCells_at : ∀ (L : List Fl) (i : Nat) (f : Fl), L[i]? = some f → (fileCells L)[i * 3]? = some (.string f.name) ∧ (fileCells L)[i * 3 + 1]? = some (.string f.bytes) ∧ (fileCells L)[i * 3 + 2]? = some (.int .i64 (f.safe : Int))
  | [], i, f, h => by simp at h
  | y :: r, 0, f, h => by
    simp at h; subst h
    exact ⟨rfl, rfl, rfl⟩
  | y :: r, i + 1, f, h => by
    have ih := fileCells_at r i f (by simpa using h)
    have e : fileCells (y :: r) = .string y.name :: .string y.bytes :: .int .i64 (y.safe : Int) :: fileCells r := rfl
    rw [e]
    have e1 : (i + 1) * 3 = i * 3 + 3 := by omega
    have e2 : (i + 1) * 3 + 1 = i * 3 + 1 + 3 := by omega
    have e3 : (i + 1) * 3 + 2 = i * 3 + 2 + 3 := by omega
    rw [e1]
    exact ⟨ih.1, ih.2.1, ih.2.2⟩
theorem FilesW.of_row {w : World} {B : Nat} {v : Value} {L : List Fl} (h : w.ownsRow B 71 3 v L.length (fileCells L)) : FilesW w v L := by
  have hall := h
  rcases h.2 with ⟨rfl, hn⟩ | ⟨g, cap, cur, rfl, hb, hcb, h1, h2, h3, h4⟩
  · have : L = [] := by
      cases L with
      | nil => rfl
      | cons a r => simp at hn
    subst this
    exact ⟨none, 0, rfl, .inl rfl⟩
  · have hadd : ∀ j, (⟨g, 0, none⟩ : Addr).add j = ⟨g, j, none⟩ := fun j => by unfold Addr.add; split <;> simp_all
    have hc := hall.cells (g := g) rfl
    refine ⟨_, cap, rfl, .inr ⟨g, rfl, fun i f hi => ?_⟩⟩
    obtain ⟨a, b, c⟩ := fileCells_at L i f hi
    refine ⟨?_, ?_, ?_⟩
    · have := hc _ _ a; rwa [hadd] at this
    · have := hc _ _ b; rwa [hadd] at this
    · have := hc _ _ c; rwa [hadd] at this
theorem FilesW.below {w w' : World} {v : Value} {L : List Fl} (h : FilesW w v L) (hb : Below w.heap.size w w') : FilesW w' v L := by
  obtain ⟨p, c, rfl, h⟩ := h
  refine ⟨p, c, rfl, ?_⟩
  rcases h with h | ⟨g, rfl, hc⟩
  · exact .inl h
  · refine .inr ⟨g, rfl, fun i f hi => ?_⟩
    obtain ⟨a, b, c⟩ := hc i f hi
    have hg : g < w.heap.size := World.block_lt_of_cell? w _ a
    exact ⟨by rw [hb.cell (p := ⟨g, i * 3, none⟩) hg]; exact a, by rw [hb.cell (p := ⟨g, i * 3 + 1, none⟩) hg]; exact b, by rw [hb.cell (p := ⟨g, i * 3 + 2, none⟩) hg]; exact c⟩
end Go.Proofs.YtnpgjlhnlakgpaaDoor

/- Contracts of the disk's step, find, named, New, On, Steps. Contracts of the disk's find. The contract of the disk's Create. -/
import Derived.Test.YtnpgjlhnlakgpaaGreatDoorG02
import Derived.Test.YtnpgjlhnlakgpaaGreatDoorProg
import Derived.WalkKit
import Derived.WalkSpells
import Derived.WalkLawsBesides
import Derived.Lib.Hide
import Derived.Carry
import Derived.Maps.OwnOps
namespace Go.Proofs.YtnpgjlhnlakgpaaGreatDoor
open Go.RowKit Go.Maps Go.ChangeMaps Go.WideMaps

/-- The disk d stands in block b, its map in block m. -/
abbrev DAt (w : World) (b m : Nat) (d : Dk) : Prop := DiskAt Tryz.prog 9 w b m d
theorem lawK : Keyed Tryz.prog 9 := string_keyed Tryz.underlying9
theorem zeroE (w : World) : (zeroValue 78).run Tryz.prog w = .ok Fl.zero.val w := by kernel_rfl
theorem hkeyS {s : ByteArray} (h : s.size ≤ maxLen) : keyOf Tryz.prog 9 (.string s) = some (.string s.data.toList) := keyOf_string_mk Tryz.underlying9 h

set_option maxHeartbeats 1000000 in
theorem step_no {d : Dk} {w : World} {b m : Nat} (h : DAt w b m d) (hr : d.refuses = true) :
    Calls Tryz.prog 63 #[.pointer (some ⟨b, 0, none⟩)] w fun e w' => e = .returned (.int .i64 143) ∧ DAt w' b m d.gone ∧ Kp b m w w' := by
  have c4 := h.c4
  have c5 := h.c5
  have c3 := h.c3
  have f3 := h.f3
  obtain ⟨ha, hl⟩ : d.armed = true ∧ d.left = 0 := by simpa [Dk.refuses] using hr
  rw [ha] at c4
  rw [hl] at c5
  have H := Lib.hid h
  clear h ha hl hr
  go_enter Tryz.func63, Tryz.ntmps63
  go_wp2_with fail
  go_ret
  exact ⟨rfl, H.out.set3 true, (Kp.refl _ _ _).setCell 3 _⟩
set_option maxHeartbeats 1000000 in
theorem step_go {d : Dk} {w : World} {b m : Nat} (h : DAt w b m d) (hr : d.refuses = false) (hl : d.left < 9223372036854775808) (hs : d.steps < 4611686018427387904) :
    Calls Tryz.prog 63 #[.pointer (some ⟨b, 0, none⟩)] w fun e w' => e = .returned (.int .i64 0) ∧ DAt w' b m d.stepped ∧ Kp b m w w' := by
  have c4 := h.c4
  have c5 := h.c5
  have c6 := h.c6
  have f5 := h.f5
  have f6 := h.f6
  by_cases ha : d.armed = true
  · have hne : d.left ≠ 0 := by simpa [Dk.refuses, ha] using hr
    rw [ha] at c4
    have HS : Hid (d.stepped = { d with left := d.left - 1, steps := d.steps + 1 }) := by show _ = _; simp [Dk.stepped, ha]
    have hpos : 0 < d.left := by omega
    have hb0 : decide (d.left = 0) = false := by simp [hne]
    have H := Lib.hid h
    clear h ha hr hne
    go_enter Tryz.func63, Tryz.ntmps63
    go_wp2_with fail
    go_ret
    refine ⟨rfl, ?_, ((Kp.refl _ _ _).setCell 5 _).setCell 6 _⟩
    rw [HS.out]
    have h1 := (H.out.set5 ((d.left : Int) - 1)).set6 ((d.steps : Int) + 1)
    have e1 : ((d.left - 1 : Nat) : Int) = (d.left : Int) - 1 := by omega
    have e2 : ((d.steps + 1 : Nat) : Int) = (d.steps : Int) + 1 := by omega
    show DC _ _ _ _ _ _ _ _ _ ((d.left - 1 : Nat) : Int) ((d.steps + 1 : Nat) : Int) _
    rw [e1, e2]
    exact h1
  · have ha' : d.armed = false := by simpa using ha
    rw [ha'] at c4
    have HS : Hid (d.stepped = { d with steps := d.steps + 1 }) := by show _ = _; simp [Dk.stepped, ha']
    have H := Lib.hid h
    clear h ha ha' hr
    go_enter Tryz.func63, Tryz.ntmps63
    go_wp2_with fail
    go_ret
    refine ⟨rfl, ?_, (Kp.refl _ _ _).setCell 6 _⟩
    rw [HS.out]
    have h1 := H.out.set6 ((d.steps : Int) + 1)
    have e2 : ((d.steps + 1 : Nat) : Int) = (d.steps : Int) + 1 := by omega
    show DC _ _ _ _ _ _ _ _ _ _ ((d.steps + 1 : Nat) : Int) _
    rw [e2]
    exact h1
theorem named_any (nm : ByteArray) (w : World) (hn : nm.size ≤ maxLen) :
    Calls Tryz.prog 62 #[.string nm] w fun e w' => e = .returned (.bool (namedB nm)) ∧ w = w' := by
  unfold maxLen at hn
  by_cases h1 : 1 ≤ nm.size
  · have e : namedB nm = decide ((nm.size : Int) ≤ 20) := by simp [namedB, h1]; omega
    rw [e]; clear e
    go_enter Tryz.func62, Tryz.ntmps62
    go_wp2_with fail
    go_ret
    exact ⟨rfl, rfl⟩
  · have e : namedB nm = false := by simp [namedB, h1]
    rw [e]; clear e
    go_enter Tryz.func62, Tryz.ntmps62
    go_wp2_with fail
    go_ret
    exact ⟨rfl, rfl⟩
end Go.Proofs.YtnpgjlhnlakgpaaGreatDoor
namespace Go.Proofs.YtnpgjlhnlakgpaaGreatDoor
open Go.RowKit Go.Maps

set_option maxHeartbeats 1000000 in
theorem find_off {d : Dk} {w : World} {b m : Nat} (h : DAt w b m d) (ho : d.off = true) (nm : ByteArray) :
    Calls Tryz.prog 67 #[.pointer (some ⟨b, 0, none⟩), .string nm] w fun e w' => e = .returned (.tuple #[.agg #[.string ⟨#[]⟩, .string ⟨#[]⟩, .int .i64 0], .int .i64 143]) ∧ Below w.heap.size w w' := by
  have c3 := h.c3
  have hb := h.lt
  rw [ho] at c3
  clear h ho
  go_enter Tryz.func67, Tryz.ntmps67
  go_wp2_with fail
  refine bodyPost_ret (v := .tuple #[.agg #[.string ⟨#[]⟩, .string ⟨#[]⟩, .int .i64 0], .int .i64 143]) (by simp [results, Tryz.results67, go_sem]) rfl ⟨rfl, ?_⟩
  exact (Below.refl _ _).alloc (Nat.le_refl _) _
set_option maxHeartbeats 1000000 in
theorem find_miss {d : Dk} {w : World} {b m : Nat} (h : DAt w b m d) (ho : d.off = false) {nm : ByteArray} (hn : nm.size ≤ maxLen) (hf : findF nm.data.toList d.L = none) :
    Calls Tryz.prog 67 #[.pointer (some ⟨b, 0, none⟩), .string nm] w fun e w' => e = .returned (.tuple #[.agg #[.string ⟨#[]⟩, .string ⟨#[]⟩, .int .i64 0], .int .i64 140]) ∧ Below w.heap.size w w' := by
  have c3 := h.c3
  have c2 := h.c2
  have hb := h.lt
  have H := Lib.hid h
  have HF := Lib.hid hf
  have hk := hkeyS hn
  have HK := Lib.hid hk
  rw [ho] at c3
  clear h ho hf hk hn
  go_enter Tryz.func67, Tryz.ntmps67
  go_wp2_with (first | (at_lookup; refine wpList_look_ok_miss _ rfl _ _ 50 rfl 9 78 lawK Tryz.underlying50 (zeroE _) m _ _ rfl (H.out.own.alloc _) _ _ rfl HK.out HF.out ?_) | fail)
  refine bodyPost_ret (v := .tuple #[.agg #[.string ⟨#[]⟩, .string ⟨#[]⟩, .int .i64 0], .int .i64 140]) (by simp [results, Tryz.results67, go_sem]) rfl ⟨rfl, ?_⟩
  exact ((Below.refl _ _).alloc (Nat.le_refl _) _).alloc (by simp) _
set_option maxHeartbeats 1000000 in
theorem find_hit {d : Dk} {w : World} {b m : Nat} (h : DAt w b m d) (ho : d.off = false) {nm : ByteArray} (hn : nm.size ≤ maxLen) {f : Fl} (hf : findF nm.data.toList d.L = some f) :
    Calls Tryz.prog 67 #[.pointer (some ⟨b, 0, none⟩), .string nm] w fun e w' => e = .returned (.tuple #[.agg #[.string f.name, .string f.bytes, .int .i64 (f.safe : Int)], .int .i64 0]) ∧ Below w.heap.size w w' := by
  have c3 := h.c3
  have c2 := h.c2
  have hb := h.lt
  have H := Lib.hid h
  have HF := Lib.hid hf
  have hk := hkeyS hn
  have HK := Lib.hid hk
  rw [ho] at c3
  clear h ho hf hk hn
  go_enter Tryz.func67, Tryz.ntmps67
  go_wp2_with (first | (at_lookup; refine wpList_look_ok_hit _ rfl _ _ 50 rfl 9 78 lawK Tryz.underlying50 (zeroE _) m _ _ rfl (H.out.own.alloc _) _ _ rfl HK.out f HF.out ?_) | fail)
  refine bodyPost_ret (v := .tuple #[.agg #[.string f.name, .string f.bytes, .int .i64 (f.safe : Int)], .int .i64 0]) (by simp [results, Tryz.results67, go_sem]) rfl ⟨rfl, ?_⟩
  exact ((Below.refl _ _).alloc (Nat.le_refl _) _).alloc (by simp) _
end Go.Proofs.YtnpgjlhnlakgpaaGreatDoor
namespace Go.Proofs.YtnpgjlhnlakgpaaGreatDoor
open Go.RowKit Go.Maps

theorem ret_i {a b : Int} (h : a = b) : Ending.returned (Value.int .i64 a) = .returned (.int .i64 b) := by rw [h]
theorem DAt.act {w : World} {b m : Nat} {d : Dk} {L : List Fl} (h : DC Tryz.prog 9 w b m (d.room : Int) (usedF L : Int) d.off d.armed (d.stepped.left : Int) (d.stepped.steps : Int) L) (hr : d.refuses = false) : DAt w b m (d.act L).2 := by
  rw [act_go hr]
  exact h
theorem len_own {w : World} {b m : Nat} {d : Dk} (h : DAt w b m d) : (Builtin.len_ #[50] 3 #[.map (some m)]).run Tryz.prog w = .ok (.int .i64 (d.L.length : Int)) w := by
  have := h.own.len Tryz.underlying50 3
  rwa [dm_size] at this

set_option maxRecDepth 100000 in
set_option maxHeartbeats 2000000 in
theorem create_any {d : Dk} {w : World} {b m : Nat} (h : DAt w b m d) (hok : d.Ok) (hs : d.steps < 4611686018427387904) {nm : ByteArray} (hn : nm.size ≤ maxLen) :
    Calls Tryz.prog 28 #[.pointer (some ⟨b, 0, none⟩), .string nm] w fun e w' => e = .returned (.int .i64 (d.create nm).1) ∧ DAt w' b m (d.create nm).2 ∧ Kp b m w w' := by
  have c3 := h.c3
  have hb := h.lt
  have H := Lib.hid h
  have HN := Lib.hid hn
  have HKK := Lib.hid (hkeyS hn)
  have HOK := Lib.hid hok
  have HS := Lib.hid hs
  clear hok hs
  by_cases ho : d.off = true
  · have E := Lib.hid (show d.create nm = (143, d) by simp [Dk.create, ho])
    rw [ho] at c3
    clear h ho hn
    rw [E.out]
    go_enter Tryz.func28, Tryz.ntmps28
    go_wp2_with fail
    go_ret
    exact ⟨rfl, H.out, Kp.refl _ _ _⟩
  · have ho' : d.off = false := by simpa using ho
    rw [ho'] at c3
    by_cases hnm : namedB nm = false
    · have E := Lib.hid (show d.create nm = (144, d) by simp [Dk.create, ho', hnm])
      have HB := Lib.hid hnm
      clear h ho ho' hn hnm
      rw [E.out]
      go_enter Tryz.func28, Tryz.ntmps28
      go_wp2_with (first | (go_at_call 62; refine (named_any _ _ HN.out).mono ?_; rw [HB.out]; rintro e w' ⟨rfl, rfl⟩) | fail)
      go_ret
      exact ⟨rfl, H.out, Kp.refl _ _ _⟩
    · have hnm' : namedB nm = true := by simpa using hnm
      have HB := Lib.hid hnm'
      have c2 := h.c2
      cases hf : findF nm.data.toList d.L with
      | some f =>
        have E := Lib.hid (show d.create nm = (141, d) by simp [Dk.create, ho', hnm', hf])
        have HF := Lib.hid hf
        clear h ho ho' hn hnm hnm' hf
        rw [E.out]
        go_enter Tryz.func28, Tryz.ntmps28
        go_wp2_with (first | (go_at_call 62; refine (named_any _ _ HN.out).mono ?_; rw [HB.out]; rintro e w' ⟨rfl, rfl⟩) | (at_lookup; refine wpList_look_ok_hit _ rfl _ _ 50 rfl 9 78 lawK Tryz.underlying50 (zeroE _) m _ _ rfl H.out.own _ _ rfl HKK.out f HF.out ?_) | fail)
        go_ret
        exact ⟨rfl, H.out.alloc _, (Kp.refl _ _ _).alloc _⟩
      | none =>
        have HF := Lib.hid hf
        have HU := Lib.hid (usedF_new (f := ⟨nm, ByteArray.empty, 0⟩) hf)
        by_cases hl : 64 ≤ d.L.length
        · have E := Lib.hid (show d.create nm = (2, d) by simp [Dk.create, ho', hnm', hf, hl])
          have hlen := fun w1 (h1 : DAt w1 b m d) => len_own h1
          clear h ho ho' hn hnm hnm' hf
          rw [E.out]
          go_enter Tryz.func28, Tryz.ntmps28
          go_wp2_with (first | (go_at_call 62; refine (named_any _ _ HN.out).mono ?_; rw [HB.out]; rintro e w' ⟨rfl, rfl⟩) | (at_lookup; refine wpList_look_ok_miss _ rfl _ _ 50 rfl 9 78 lawK Tryz.underlying50 (zeroE _) m _ _ rfl H.out.own _ _ rfl HKK.out HF.out ?_) | (at_len; refine wpList_len_own _ rfl _ 50 rfl 9 78 Tryz.underlying50 flElem m _ _ rfl (H.out.own.alloc _) ?_; rw [dm_size]) | fail)
          go_ret
          exact ⟨rfl, H.out.alloc _, (Kp.refl _ _ _).alloc _⟩
        · have hl' : d.L.length < 64 := by omega
          cases hr : d.refuses with
          | true =>
            have E := Lib.hid (show d.create nm = (143, d.gone) by simp [Dk.create, ho', hnm', hf, hl, act_no hr])
            have HR := Lib.hid hr
            clear h ho ho' hn hnm hnm' hf hl hr
            rw [E.out]
            go_enter Tryz.func28, Tryz.ntmps28
            go_wp2_with (first | (go_at_call 62; refine (named_any _ _ HN.out).mono ?_; rw [HB.out]; rintro e w' ⟨rfl, rfl⟩) | (at_lookup; refine wpList_look_ok_miss _ rfl _ _ 50 rfl 9 78 lawK Tryz.underlying50 (zeroE _) m _ _ rfl H.out.own _ _ rfl HKK.out HF.out ?_) | (at_len; refine wpList_len_own _ rfl _ 50 rfl 9 78 Tryz.underlying50 flElem m _ _ rfl (H.out.own.alloc _) ?_; rw [dm_size]) | (go_at_call 63; refine (step_no (H.out.alloc _) HR.out).mono ?_; rintro e w2 ⟨rfl, hd2, hk2⟩; have HD2 := Lib.hid hd2; have HK2 := Lib.hid hk2; clear hd2 hk2) | fail)
            go_ret
            exact ⟨rfl, HD2.out, ((Kp.refl _ _ _).alloc _).trans HK2.out⟩
          | false =>
            have E := Lib.hid (show d.create nm = d.act (putF ⟨nm, ByteArray.empty, 0⟩ d.L) by simp [Dk.create, ho', hnm', hf, hl])
            have HR := Lib.hid hr
            have HL := Lib.hid (show d.stepped.L.length < maxLen by show d.L.length < _; unfold maxLen; omega)
            have HR0 := Lib.hid (act_go (L := putF ⟨nm, ByteArray.empty, 0⟩ d.L) hr)
            clear h ho ho' hn hnm hnm' hf hl hr
            rw [E.out]
            go_enter Tryz.func28, Tryz.ntmps28
            go_wp2_with (first | (go_at_call 62; refine (named_any _ _ HN.out).mono ?_; rw [HB.out]; rintro e w' ⟨rfl, rfl⟩) | (at_lookup; refine wpList_look_ok_miss _ rfl _ _ 50 rfl 9 78 lawK Tryz.underlying50 (zeroE _) m _ _ rfl H.out.own _ _ rfl HKK.out HF.out ?_) | (at_len; refine wpList_len_own _ rfl _ 50 rfl 9 78 Tryz.underlying50 flElem m _ _ rfl (H.out.own.alloc _) ?_; rw [dm_size]) | (go_at_call 63; refine (step_go (H.out.alloc _) HR.out HOK.out.left HS.out).mono ?_; rintro e w2 ⟨rfl, hd2, hk2⟩; have HD2 := Lib.hid hd2; have HK2 := Lib.hid hk2; have c22 := hd2.c2; clear hd2 hk2 c2) | (at_mapUpdate; refine wpList_store_fl _ rfl _ _ _ 50 rfl 9 78 lawK Tryz.underlying50 m _ d.L rfl HD2.out.own HL.out ⟨nm, ⟨#[]⟩, 0⟩ rfl rfl HKK.out ?_; intro w3 ho3 hg3; have HO3 := Lib.hid ho3; have HG3 := Lib.hid hg3; clear ho3 hg3) | fail)
            go_ret
            refine ⟨by rw [HR0.out]; rfl, ?_, (((Kp.refl _ _ _).alloc _).trans HK2.out).map HG3.out⟩
            refine DAt.act ?_ HR.out
            have := HD2.out.map HG3.out HO3.out
            rw [HU.out]
            exact this
end Go.Proofs.YtnpgjlhnlakgpaaGreatDoor

/- Contracts of the disk's find. -/
import Derived.Test.YtnpgjlhnlakgpaaDoorVfsStep
import Derived.Maps.OwnOps
namespace Go.Proofs.YtnpgjlhnlakgpaaDoor
open Go.RowKit Go.Maps

set_option maxHeartbeats 1000000 in
theorem find_off {d : Dk} {w : World} {b m : Nat} (h : DAt w b m d) (ho : d.off = true) (nm : ByteArray) :
    Calls Tryd.prog 100 #[.pointer (some ⟨b, 0, none⟩), .string nm] w fun e w' => e = .returned (.tuple #[.agg #[.string ⟨#[]⟩, .string ⟨#[]⟩, .int .i64 0], .int .i64 143]) ∧ Below w.heap.size w w' := by
  have c3 := h.c3
  have hb := h.lt
  rw [ho] at c3
  clear h ho
  go_enter Tryd.func100, Tryd.ntmps100
  go_wp2_with fail
  refine bodyPost_ret (v := .tuple #[.agg #[.string ⟨#[]⟩, .string ⟨#[]⟩, .int .i64 0], .int .i64 143]) (by simp [results, Tryd.results100, go_sem]) rfl ⟨rfl, ?_⟩
  exact (Below.refl _ _).alloc (Nat.le_refl _) _
set_option maxHeartbeats 1000000 in
theorem find_miss {d : Dk} {w : World} {b m : Nat} (h : DAt w b m d) (ho : d.off = false) {nm : ByteArray} (hn : nm.size ≤ maxLen) (hf : findF nm.data.toList d.L = none) :
    Calls Tryd.prog 100 #[.pointer (some ⟨b, 0, none⟩), .string nm] w fun e w' => e = .returned (.tuple #[.agg #[.string ⟨#[]⟩, .string ⟨#[]⟩, .int .i64 0], .int .i64 140]) ∧ Below w.heap.size w w' := by
  have c3 := h.c3
  have c2 := h.c2
  have hb := h.lt
  have H := Lib.hid h
  have HF := Lib.hid hf
  have hk := hkeyS hn
  have HK := Lib.hid hk
  rw [ho] at c3
  clear h ho hf hk hn
  go_enter Tryd.func100, Tryd.ntmps100
  go_wp2_with (first | (at_lookup; refine wpList_look_ok_miss _ rfl _ _ 107 rfl 9 117 lawK Tryd.underlying107 (zeroE _) m _ _ rfl (H.out.own.alloc _) _ _ rfl HK.out HF.out ?_) | fail)
  refine bodyPost_ret (v := .tuple #[.agg #[.string ⟨#[]⟩, .string ⟨#[]⟩, .int .i64 0], .int .i64 140]) (by simp [results, Tryd.results100, go_sem]) rfl ⟨rfl, ?_⟩
  exact ((Below.refl _ _).alloc (Nat.le_refl _) _).alloc (by simp) _
set_option maxHeartbeats 1000000 in
theorem find_hit {d : Dk} {w : World} {b m : Nat} (h : DAt w b m d) (ho : d.off = false) {nm : ByteArray} (hn : nm.size ≤ maxLen) {f : Fl} (hf : findF nm.data.toList d.L = some f) :
    Calls Tryd.prog 100 #[.pointer (some ⟨b, 0, none⟩), .string nm] w fun e w' => e = .returned (.tuple #[.agg #[.string f.name, .string f.bytes, .int .i64 (f.safe : Int)], .int .i64 0]) ∧ Below w.heap.size w w' := by
  have c3 := h.c3
  have c2 := h.c2
  have hb := h.lt
  have H := Lib.hid h
  have HF := Lib.hid hf
  have hk := hkeyS hn
  have HK := Lib.hid hk
  rw [ho] at c3
  clear h ho hf hk hn
  go_enter Tryd.func100, Tryd.ntmps100
  go_wp2_with (first | (at_lookup; refine wpList_look_ok_hit _ rfl _ _ 107 rfl 9 117 lawK Tryd.underlying107 (zeroE _) m _ _ rfl (H.out.own.alloc _) _ _ rfl HK.out f HF.out ?_) | fail)
  refine bodyPost_ret (v := .tuple #[.agg #[.string f.name, .string f.bytes, .int .i64 (f.safe : Int)], .int .i64 0]) (by simp [results, Tryd.results100, go_sem]) rfl ⟨rfl, ?_⟩
  exact ((Below.refl _ _).alloc (Nat.le_refl _) _).alloc (by simp) _
end Go.Proofs.YtnpgjlhnlakgpaaDoor

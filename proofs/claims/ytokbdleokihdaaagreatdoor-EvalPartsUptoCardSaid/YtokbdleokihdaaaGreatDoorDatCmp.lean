/- Contract of datum.Compare: what it returns, for all values. -/
import Derived.Test.YtokbdleokihdaaaGreatDoorCmp
import Derived.Test.YtokbdleokihdaaaGreatDoorShelf
import Derived.Deep.RegionHeld3
namespace Go.Proofs.YtokbdleokihdaaaGreatDoor
open Go.RowKit

def cmpS (a b : ByteArray) : Int := Lib.compareBytes a.data.toList b.data.toList
/-- What datum.Compare answers of two values. -/
def dco (ak ai : Int) (sa : ByteArray) (bk bi : Int) (sb : ByteArray) : Int := orL [cmpI ak bk, cmpI ai bi, cmpS sa sb]

theorem three {a b c : Int} : [a, b, c].length ≤ 9223372036854775807 := by simp

theorem dcmp (ak ai bk bi : Int) (sa sb : ByteArray) (w : World) :
    Calls Tryz.prog 96 #[.agg #[.int .i64 ak, .int .i64 ai, .string sa], .agg #[.int .i64 bk, .int .i64 bi, .string sb]] w fun e w' => e = .returned (.int .i64 (dco ak ai sa bk bi sb)) ∧ Below w.heap.size w w' := by
  go_enter Tryz.func96, Tryz.ntmps96
  go_wp2
  go_region_held3 (fun w' => w'.cell? ⟨w.heap.size, 0, none⟩ = some (.int .i64 ak) ∧ w'.cell? ⟨w.heap.size, 1, none⟩ = some (.int .i64 ai) ∧ w'.cell? ⟨w.heap.size, 2, none⟩ = some (.string sa) ∧ w'.cell? ⟨w.heap.size + 1, 0, none⟩ = some (.int .i64 bk) ∧ w'.cell? ⟨w.heap.size + 1, 1, none⟩ = some (.int .i64 bi) ∧ w'.cell? ⟨w.heap.size + 1, 2, none⟩ = some (.string sb)) (go_keep)
    (first
      | (go_at_call 106; refine (cmp_int _ _ _).mono ?_; rintro e w' ⟨rfl, rfl⟩)
      | (go_at_call 107; refine (cmp_int64 _ _ _).mono ?_; rintro e w' ⟨rfl, rfl⟩)
      | (go_at_call 108; refine (Tryz.strings_Compare _ _ _).mono ?_; rintro e w' ⟨rfl, rfl⟩)
      | (go_at_call 104; refine (or_ints [cmpI ak bk, cmpI ai bi, cmpS sa sb] _ _ _ three ?_).mono ?_; (intro i hi; match i, hi with | 0, _ => simp [World.cell?_alloc_at, nth, cmpS] | 1, _ => simp [World.cell?_alloc_at, nth, cmpS] | 2, _ => simp [World.cell?_alloc_at, nth, cmpS]); rintro e w' ⟨rfl, rfl⟩))
  all_goals
    go_wp2
    go_ret
    exact ⟨rfl, (((Below.refl _ _).alloc (Nat.le_refl _) _).alloc (by simp) _ |>.alloc (by simp; omega) _).drew⟩
end Go.Proofs.YtokbdleokihdaaaGreatDoor

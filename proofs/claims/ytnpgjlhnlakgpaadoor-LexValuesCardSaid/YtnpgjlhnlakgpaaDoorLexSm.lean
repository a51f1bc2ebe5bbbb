/- same: two rows of tokens told alike. -/
import Derived.Test.YtnpgjlhnlakgpaaDoorLexLx
import Derived.Test.YtnpgjlhnlakgpaaDoorLexC
import Derived.Test.YtnpgjlhnlakgpaaDoorDatEq
import Derived.Test.YtnpgjlhnlakgpaaDoorLexPl
namespace Go.Proofs.YtnpgjlhnlakgpaaDoor
open Go.RowKit

/-- Token by token alike, but for the places. -/
def SameTk (a b : List Tk) : Prop := a.length = b.length ∧ ∀ (j : Nat) (t u : Tk), a[j]? = some t → b[j]? = some u → u.k = t.k ∧ u.s = t.s ∧ u.d = t.d
theorem SameTk.refl (a : List Tk) : SameTk a a := ⟨rfl, fun j t u h1 h2 => by obtain rfl := Option.some.inj (h1.symm.trans h2); exact ⟨rfl, rfl, rfl⟩⟩
theorem same_nil (w : World) (pl : Bool) : Calls Tryd.prog 17 #[.slice none 0 0, .slice none 0 0, .bool pl] w fun e w' => e = .returned (.bool true) ∧ Below w.heap.size w w' := by
  go_enter Tryd.func17, Tryd.ntmps17
  go_wp2_with fail
  go_loopw [15] (fun iv wr => iv = .int .i64 0 ∧ wr = w) (fun _ _ => 0)
  case atStart => exact ⟨rfl, rfl⟩
  case round =>
    obtain ⟨rfl, rfl⟩ := hrel
    go_wp2_with fail
    go_ret
    exact ⟨rfl, Below.refl _ _⟩

set_option maxRecDepth 100000 in
set_option maxHeartbeats 8000000 in
theorem same_any (w : World) (g1 g2 c1 c2 : Nat) (a b : List Tk) (pl : Bool) (hg1 : g1 < w.heap.size) (hg2 : g2 < w.heap.size) (h1 : TCells w g1 a) (h2 : TCells w g2 b) (hs : SameTk a b) (hp : pl = true → a = b) (hn : a.length ≤ 1001) :
    Calls Tryd.prog 17 #[.slice (some ⟨g1, 0, none⟩) a.length c1, .slice (some ⟨g2, 0, none⟩) b.length c2, .bool pl] w fun e w' => e = .returned (.bool true) ∧ Below w.heap.size w w' := by
  have H1 := Lib.hid h1
  have H2 := Lib.hid h2
  have HS := Lib.hid hs.2
  have hl := hs.1
  rw [← hl]
  have HL := Lib.hid hl
  have HP := Lib.hid hp
  clear h1 h2 hs hl hp
  go_enter Tryd.func17, Tryd.ntmps17
  go_wp2_with fail
  go_loopw [15] (fun iv wr => ∃ k : Nat, k ≤ a.length ∧ iv = .int .i64 (k : Int) ∧ Below w.heap.size w wr) (fun iv _ => a.length - (intOf iv).toNat)
  case atStart => exact ⟨0, Nat.zero_le _, rfl, Below.refl _ _⟩
  case round =>
    obtain ⟨k, hk, rfl, hB⟩ := hrel
    have HB := Lib.hid hB
    have hsz := hB.size
    by_cases hlt : k < a.length
    · have hlti : (k : Int) < (a.length : Int) := by omega
      obtain ⟨t, ht⟩ : ∃ t, a[k]? = some t := ⟨_, List.getElem?_eq_getElem hlt⟩
      obtain ⟨u, hu⟩ : ∃ u, b[k]? = some u := ⟨_, List.getElem?_eq_getElem (by rw [← HL.out]; exact hlt)⟩
      obtain ⟨x0, x1, x2, x3, x4, x5⟩ := (H1.out.below hB hg1) k t ht
      obtain ⟨y0, y1, y2, y3, y4, y5⟩ := (H2.out.below hB hg2) k u hu
      obtain ⟨e1, e2, e3⟩ := HS.out k t u ht hu
      have e4 : pl = true → u.pos = t.pos := fun h => by
        have := HP.out h
        subst this
        rw [Option.some.inj (ht.symm.trans hu)]
      clear hB ht hu
      obtain ⟨tk, tstr, ⟨dk, di, ds⟩, tp⟩ := t
      obtain ⟨uk, us, ud, up⟩ := u
      simp only at e1 e2 e3 e4 x0 x1 x2 x3 x4 x5 y0 y1 y2 y3 y4 y5
      subst e1 e2 e3
      have heq : eqD dk di ds dk di ds = true := eqD_iff.2 ⟨rfl, rfl, rfl⟩
      cases hpl : pl with
      | false =>
        go_wp2_with fail
        go_quiet (fail)
        go_wp2_with fail
        go_roundw
        case rel => exact ⟨k + 1, by omega, by go_num, drN HB.out _⟩
        case measure => simp [intOf]; omega
      | true =>
        obtain rfl := e4 hpl
        go_wp2_with fail
        go_quiet (fail)
        go_wp2_with fail
        go_roundw
        case rel => exact ⟨k + 1, by omega, by go_num, drN HB.out _⟩
        case measure => simp [intOf]; omega
    · go_wp2_with fail
      go_ret
      exact ⟨rfl, HB.out⟩
end Go.Proofs.YtnpgjlhnlakgpaaDoor

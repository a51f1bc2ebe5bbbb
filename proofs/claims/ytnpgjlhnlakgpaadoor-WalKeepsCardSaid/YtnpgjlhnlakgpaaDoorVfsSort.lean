/- The library's sort of texts; stays whatever is kept. -/
import Derived.Test.YtnpgjlhnlakgpaaDoorVfsNames
import Derived.Test.YtnpgjlhnlakgpaaDoorG09
import Derived.Test.YtnpgjlhnlakgpaaDoorShelf
namespace Go.Proofs.YtnpgjlhnlakgpaaDoor
open Go.RowKit Go.Maps Go.Sort

theorem sortC : SortC := ⟨fun blk off cap ss w hH hb hl => Tryd.slices_Sort_string blk off cap ss w hH hb hl, fun p cap w => (Tryd.slices_Sort_string_none p cap w).mono fun e w' ⟨h1, h2⟩ => ⟨h1, by subst h2; exact Below.refl _ _⟩⟩
theorem stays_any (f : Fl) (keep turn : Int) (w : World) (hs : f.safe ≤ f.bytes.size) (hb : f.bytes.size ≤ 4194304) (hk : keep ≤ 9223372036854775807) (ht2 : turn ≤ 9223372036854775807) :
    Calls Tryd.prog 102 #[.agg #[.string f.name, .string f.bytes, .int .i64 (f.safe : Int)], .int .i64 keep, .int .i64 turn] w fun e w' => e = .returned (.string (staysB f keep turn)) ∧ Below w.heap.size w w' := by
  by_cases h : turn ≤ 0 ∨ keptN f.bytes.size f.safe keep = 0
  · have E : staysB f keep turn = f.bytes.extract 0 (f.safe + keptN f.bytes.size f.safe keep) := by
      unfold staysB keptN at *
      simp only []
      rw [if_pos h]
    rw [E]
    exact stays_cut f.name f.bytes f.safe keep turn w hs hb hk h
  · have E : staysB f keep turn = ⟨((f.bytes.data.toList.take (f.safe + keptN f.bytes.size f.safe keep)).modify (f.safe + ((turn / 256) % (keptN f.bytes.size f.safe keep : Int)).toNat) fun c => c ^^^ UInt8.ofNat (turn % 256).toNat).toArray⟩ := by
      unfold staysB keptN at *
      simp only []
      rw [if_neg h]
    rw [E]
    exact stays_turn f.name f.bytes f.safe keep turn w hs hb hk (by omega) ht2 (by omega)
end Go.Proofs.YtnpgjlhnlakgpaaDoor

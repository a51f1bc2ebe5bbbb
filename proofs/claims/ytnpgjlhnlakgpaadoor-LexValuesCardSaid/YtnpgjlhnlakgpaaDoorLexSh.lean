/- The builder's WriteRune, by its contract of the library. -/
import Derived.Test.YtnpgjlhnlakgpaaDoorShelf
import Derived.Shelf.Strings.BuilderRune
namespace Go.Proofs.YtnpgjlhnlakgpaaDoor
open Go.RowKit Go.Shelf

theorem lays168 : Go.Proofs.Lays.n168 Tryd.prog Tryd.lays159_ren where
  a0 := Tryd.lays159.a0
  a164 := Tryd.lays159.a164
  a20 := Tryd.lays159.a20
  a21 := Tryd.lays159.a21
  a3 := Tryd.lays159.a3
  a37 := Tryd.lays159.a37
  a4 := Tryd.lays159.a4
  a46 := Tryd.lays159.a46
  a5 := Tryd.lays159.a5
  a51 := Tryd.lays159.a51
  a70 := Tryd.lays159.a70
  a72 := Tryd.lays159.a72
  a75 := Tryd.lays159.a75
  a9 := Tryd.lays159.a9
  f168 := Tryd.lays159.f168
  f240 := Tryd.lays159.f240
  f242 := Tryd.lays159.f242
  f276 := Tryd.lays159.f276
  f278 := Tryd.lays159.f278
  mixed := Tryd.lays159.mixed
  t0 := Tryd.lays159.t0
  t164 := Tryd.lays159.t164
  t20 := Tryd.lays159.t20
  t21 := Tryd.lays159.t21
  t3 := Tryd.lays159.t3
  t37 := Tryd.lays159.t37
  t4 := Tryd.lays159.t4
  t46 := Tryd.lays159.t46
  t5 := Tryd.lays159.t5
  t51 := Tryd.lays159.t51
  t70 := Tryd.lays159.t70
  t72 := Tryd.lays159.t72
  t75 := Tryd.lays159.t75
  t9 := Tryd.lays159.t9
  v0 := Tryd.lays159.v0
  v164 := Tryd.lays159.v164
  v20 := Tryd.lays159.v20
  v21 := Tryd.lays159.v21
  v3 := Tryd.lays159.v3
  v37 := Tryd.lays159.v37
  v4 := Tryd.lays159.v4
  v46 := Tryd.lays159.v46
  v5 := Tryd.lays159.v5
  v51 := Tryd.lays159.v51
  v70 := Tryd.lays159.v70
  v72 := Tryd.lays159.v72
  v75 := Tryd.lays159.v75
  v9 := Tryd.lays159.v9
  z0 := Tryd.lays159.z0
  z164 := Tryd.lays159.z164
  z20 := Tryd.lays159.z20
  z21 := Tryd.lays159.z21
  z3 := Tryd.lays159.z3
  z37 := Tryd.lays159.z37
  z4 := Tryd.lays159.z4
  z46 := Tryd.lays159.z46
  z5 := Tryd.lays159.z5
  z51 := Tryd.lays159.z51
  z70 := Tryd.lays159.z70
  z72 := Tryd.lays159.z72
  z75 := Tryd.lays159.z75
  z9 := Tryd.lays159.z9
/-- (*strings.Builder).WriteRune. -/
theorem write_rune (B b : Nat) (cs : List Value) (r : Int) (h0 : -2147483648 ≤ r) (h1 : r ≤ 2147483647) (w : World) (h : Go.Lib.IsBuilderF 140 5 B b cs w) (hl : cs.length + 4 ≤ 140737488355328) (hB : B ≤ w.heap.size) :
    Calls Tryd.prog 113 #[.pointer (some ⟨b, 0, none⟩), .int .i32 r] w fun e w' => e = .returned (.tuple #[.int .i64 (Go.Lib.runeCells r).length, .nilIface]) ∧
      Go.Lib.BuilderAtF 140 5 B b (.pointer (some ⟨b, 0, none⟩)) (cs ++ Go.Lib.runeCells r) w' ∧ Below B w w' ∧ Go.Lib.OthersKept 5 (some b) w w' :=
  Any.Builder_WriteRune_k lays168 Tryd.Builder_Extra_159 B b cs r h0 h1 w h hl hB
end Go.Proofs.YtnpgjlhnlakgpaaDoor

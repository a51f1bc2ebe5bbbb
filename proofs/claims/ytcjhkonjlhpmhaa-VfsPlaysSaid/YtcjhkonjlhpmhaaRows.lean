/-
  No cell of these rows narrows 'for every input' (looked for: loops, veiled, ifaces, maps, wideKeys, modest, calm, conditions, laid).
  DERIVED. THE GIVEN ROWS OF THIS SEAT. 6 by the template 'for every input the law returns true; each argument reads behind the call as it read before'; 0 by the template 'total and deterministic' (their statements: YtcjhkonjlhpmhaaTotals.lean).
  GIVEN WITH THE SEED: the statements are not yours to turn. If you find one false, say at which input.
  Laid BY PROGRAM, IN A SANDBOX (cutbox-rows.mjs): the forced cells as the released guide's own fill.sh prints them over the translation d89f798e5166aceb… (all of the seat's roots in one cut). By AI agents, Wed Nov 11 2026. No macro, syntax, notation, axiom, sorry.
-/
import Derived.Test.YtcjhkonjlhpmhaaChecked
import GoSem.Claim
import GoSem.ClaimJoined
import GoSem.ClaimMapViews
import Derived.JoinedTies
import Derived.KernelRfl
namespace Go.Proofs.Ytcjhkonjlhpmhaa
/- THE CELL 'sum', in the pinned program and in every row, IS THE sha256 OF THE DUMP (.gsa) THAT YtcjhkonjlhpmhaaProg.lean LOADS. Nothing in Lean hashes anything: it is a label: what it is worth is what the hold of that sum in a sandbox is worth. -/
noncomputable def Try.pinned : Pinned := { name := "ytcjhkonjlhpmhaa", sum := "d89f798e5166aceb85483042c0df4b949942273225648a27600e16bcfde86b97", checked := Try.checked }
namespace Rows
def none {H : Type} : Left H := { results := [], args := [] }

/-- 'freshetlaw14.VfsRenames': WHATEVER THE INPUT: true; the input reads as it did. -/
def vfsRenamesSpec : ChangeSpec := { name := "vfsRenames", fn := fun _ => fun
  | [d1, d2, d3, d4] => { results := [.lit (.bool true)], args := [d1, d2, d3, d4] }
  | _ => none }
def vfsRenamesRow : OpenClaim := { program := "ytcjhkonjlhpmhaa", sum := "d89f798e5166aceb85483042c0df4b949942273225648a27600e16bcfde86b97", func := "freshet/freshetlaw14.VfsRenames", spec := "vfsRenames", recurses := true, apart := false }
def VfsRenamesSaid : Prop := vfsRenamesRow.holds Try.pinned (OpenSpec.ofChange vfsRenamesSpec)

/-- ITS FALSE NEIGHBOUR: 'it returns false'. Refute it at one input. -/
def vfsRenamesWrong : ChangeSpec := { name := "vfsRenames", fn := fun _ => fun
  | [d1, d2, d3, d4] => { results := [.lit (.bool false)], args := [d1, d2, d3, d4] }
  | _ => none }
def VfsRenamesWrongFalsely : Prop := vfsRenamesRow.holds Try.pinned (OpenSpec.ofChange vfsRenamesWrong)

/-- 'freshetlaw14.VfsSafe': WHATEVER THE INPUT: true; the input reads as it did. -/
def vfsSafeSpec : ChangeSpec := { name := "vfsSafe", fn := fun _ => fun
  | [d1, d2, d3] => { results := [.lit (.bool true)], args := [d1, d2, d3] }
  | _ => none }
def vfsSafeRow : OpenClaim := { program := "ytcjhkonjlhpmhaa", sum := "d89f798e5166aceb85483042c0df4b949942273225648a27600e16bcfde86b97", func := "freshet/freshetlaw14.VfsSafe", spec := "vfsSafe", recurses := true, apart := false }
def VfsSafeSaid : Prop := vfsSafeRow.holds Try.pinned (OpenSpec.ofChange vfsSafeSpec)

/-- ITS FALSE NEIGHBOUR: 'it returns false'. Refute it at one input. -/
def vfsSafeWrong : ChangeSpec := { name := "vfsSafe", fn := fun _ => fun
  | [d1, d2, d3] => { results := [.lit (.bool false)], args := [d1, d2, d3] }
  | _ => none }
def VfsSafeWrongFalsely : Prop := vfsSafeRow.holds Try.pinned (OpenSpec.ofChange vfsSafeWrong)

/-- 'freshetlaw14.VfsRoom': WHATEVER THE INPUT: true; the input reads as it did. -/
def vfsRoomSpec : ChangeSpec := { name := "vfsRoom", fn := fun _ => fun
  | [d1, d2] => { results := [.lit (.bool true)], args := [d1, d2] }
  | _ => none }
def vfsRoomRow : OpenClaim := { program := "ytcjhkonjlhpmhaa", sum := "d89f798e5166aceb85483042c0df4b949942273225648a27600e16bcfde86b97", func := "freshet/freshetlaw14.VfsRoom", spec := "vfsRoom", recurses := true, apart := false }
def VfsRoomSaid : Prop := vfsRoomRow.holds Try.pinned (OpenSpec.ofChange vfsRoomSpec)

/-- ITS FALSE NEIGHBOUR: 'it returns false'. Refute it at one input. -/
def vfsRoomWrong : ChangeSpec := { name := "vfsRoom", fn := fun _ => fun
  | [d1, d2] => { results := [.lit (.bool false)], args := [d1, d2] }
  | _ => none }
def VfsRoomWrongFalsely : Prop := vfsRoomRow.holds Try.pinned (OpenSpec.ofChange vfsRoomWrong)

/-- 'freshetlaw14.VfsArms': WHATEVER THE INPUT: true; the input reads as it did. -/
def vfsArmsSpec : ChangeSpec := { name := "vfsArms", fn := fun _ => fun
  | [d1, d2, d3, d4] => { results := [.lit (.bool true)], args := [d1, d2, d3, d4] }
  | _ => none }
def vfsArmsRow : OpenClaim := { program := "ytcjhkonjlhpmhaa", sum := "d89f798e5166aceb85483042c0df4b949942273225648a27600e16bcfde86b97", func := "freshet/freshetlaw14.VfsArms", spec := "vfsArms", recurses := true, apart := false }
def VfsArmsSaid : Prop := vfsArmsRow.holds Try.pinned (OpenSpec.ofChange vfsArmsSpec)

/-- ITS FALSE NEIGHBOUR: 'it returns false'. Refute it at one input. -/
def vfsArmsWrong : ChangeSpec := { name := "vfsArms", fn := fun _ => fun
  | [d1, d2, d3, d4] => { results := [.lit (.bool false)], args := [d1, d2, d3, d4] }
  | _ => none }
def VfsArmsWrongFalsely : Prop := vfsArmsRow.holds Try.pinned (OpenSpec.ofChange vfsArmsWrong)

/-- 'freshetlaw14.VfsTwins': WHATEVER THE INPUT: true; the input reads as it did. -/
def vfsTwinsSpec : ChangeSpec := { name := "vfsTwins", fn := fun _ => fun
  | [d1, d2, d3, d4] => { results := [.lit (.bool true)], args := [d1, d2, d3, d4] }
  | _ => none }
def vfsTwinsRow : OpenClaim := { program := "ytcjhkonjlhpmhaa", sum := "d89f798e5166aceb85483042c0df4b949942273225648a27600e16bcfde86b97", func := "freshet/freshetlaw14.VfsTwins", spec := "vfsTwins", inPlace := ["maps.clone"], recurses := true, apart := false }
def VfsTwinsSaid : Prop := vfsTwinsRow.holds Try.pinned (OpenSpec.ofChange vfsTwinsSpec)

/-- ITS FALSE NEIGHBOUR: 'it returns false'. Refute it at one input. -/
def vfsTwinsWrong : ChangeSpec := { name := "vfsTwins", fn := fun _ => fun
  | [d1, d2, d3, d4] => { results := [.lit (.bool false)], args := [d1, d2, d3, d4] }
  | _ => none }
def VfsTwinsWrongFalsely : Prop := vfsTwinsRow.holds Try.pinned (OpenSpec.ofChange vfsTwinsWrong)

/-- 'freshetlaw14.VfsPlays': WHATEVER THE INPUT: true; the input reads as it did. -/
def vfsPlaysSpec : ChangeSpec := { name := "vfsPlays", fn := fun _ => fun
  | [d1, d2] => { results := [.lit (.bool true)], args := [d1, d2] }
  | _ => none }
def vfsPlaysRow : OpenClaim := { program := "ytcjhkonjlhpmhaa", sum := "d89f798e5166aceb85483042c0df4b949942273225648a27600e16bcfde86b97", func := "freshet/freshetlaw14.VfsPlays", spec := "vfsPlays", inPlace := ["maps.clone"], recurses := true, apart := false }
def VfsPlaysSaid : Prop := vfsPlaysRow.holds Try.pinned (OpenSpec.ofChange vfsPlaysSpec)

/-- ITS FALSE NEIGHBOUR: 'it returns false'. Refute it at one input. -/
def vfsPlaysWrong : ChangeSpec := { name := "vfsPlays", fn := fun _ => fun
  | [d1, d2] => { results := [.lit (.bool false)], args := [d1, d2] }
  | _ => none }
def VfsPlaysWrongFalsely : Prop := vfsPlaysRow.holds Try.pinned (OpenSpec.ofChange vfsPlaysWrong)

/- THE SECOND FORM. 'bulk': how many values and letters a reading holds, each counted each time it is reached (what is shared counts as often as it is met; a slice's spare places count too). A statement '..UptoSaid' is the law's where the arguments, and the package variables that the reading takes, are together of bulk at most 1048576: NARROWER than '..Said'. Prove '..Said' where nothing that the law and all that it calls make is longer than what came in: it says more and counts as full. Else prove '..UptoSaid'. A law counts once. -/
mutual
def uptoBulk {H : Type} : DataW H → Nat
  | .lit (.string bytes) => bytes.length + 1
  | .lit _ => 1
  | .nil => 1
  | .ptr d => uptoBulk d + 1
  | .slice elems spare => uptoBulkAll elems + uptoBulkAll spare + 1
  | .agg parts => uptoBulkAll parts + 1
  | .iface _ d => uptoBulk d + 1
  | .map entries => uptoBulkEntries entries + 1
  | .held _ => 1
def uptoBulkAll {H : Type} : List (DataW H) → Nat
  | [] => 0
  | d :: r => uptoBulk d + uptoBulkAll r
def uptoBulkEntries {H : Type} : List (Lit × DataW H) → Nat
  | [] => 0
  | x :: r => uptoBulkEntry x + uptoBulkEntries r
def uptoBulkEntry {H : Type} : Lit × DataW H → Nat
  | (.string bytes, d) => bytes.length + uptoBulk d + 1
  | (_, d) => uptoBulk d + 1
 end
def uptoSmall : (H : Type) → List (DataW H) → Bool := fun _ ds => decide (uptoBulkAll ds ≤ 1048576)
def OpenSpec.upto (s : _root_.Go.ChangeSpec) : _root_.Go.OpenSpec := { _root_.Go.OpenSpec.ofChange s with cond := some uptoSmall }

/-- 'freshetlaw14.VfsRenames', WHERE WHAT IT READS IS OF BULK AT MOST 1048576: true; the input reads as it did. -/
def vfsRenamesUptoRow : OpenClaim := { program := "ytcjhkonjlhpmhaa", sum := "d89f798e5166aceb85483042c0df4b949942273225648a27600e16bcfde86b97", func := "freshet/freshetlaw14.VfsRenames", spec := "vfsRenames", recurses := true, apart := false, narrowed := true }
def VfsRenamesUptoSaid : Prop := vfsRenamesUptoRow.holds Try.pinned (OpenSpec.upto vfsRenamesSpec)

/-- 'freshetlaw14.VfsSafe', WHERE WHAT IT READS IS OF BULK AT MOST 1048576: true; the input reads as it did. -/
def vfsSafeUptoRow : OpenClaim := { program := "ytcjhkonjlhpmhaa", sum := "d89f798e5166aceb85483042c0df4b949942273225648a27600e16bcfde86b97", func := "freshet/freshetlaw14.VfsSafe", spec := "vfsSafe", recurses := true, apart := false, narrowed := true }
def VfsSafeUptoSaid : Prop := vfsSafeUptoRow.holds Try.pinned (OpenSpec.upto vfsSafeSpec)

/-- 'freshetlaw14.VfsRoom', WHERE WHAT IT READS IS OF BULK AT MOST 1048576: true; the input reads as it did. -/
def vfsRoomUptoRow : OpenClaim := { program := "ytcjhkonjlhpmhaa", sum := "d89f798e5166aceb85483042c0df4b949942273225648a27600e16bcfde86b97", func := "freshet/freshetlaw14.VfsRoom", spec := "vfsRoom", recurses := true, apart := false, narrowed := true }
def VfsRoomUptoSaid : Prop := vfsRoomUptoRow.holds Try.pinned (OpenSpec.upto vfsRoomSpec)

/-- 'freshetlaw14.VfsArms', WHERE WHAT IT READS IS OF BULK AT MOST 1048576: true; the input reads as it did. -/
def vfsArmsUptoRow : OpenClaim := { program := "ytcjhkonjlhpmhaa", sum := "d89f798e5166aceb85483042c0df4b949942273225648a27600e16bcfde86b97", func := "freshet/freshetlaw14.VfsArms", spec := "vfsArms", recurses := true, apart := false, narrowed := true }
def VfsArmsUptoSaid : Prop := vfsArmsUptoRow.holds Try.pinned (OpenSpec.upto vfsArmsSpec)

/-- 'freshetlaw14.VfsTwins', WHERE WHAT IT READS IS OF BULK AT MOST 1048576: true; the input reads as it did. -/
def vfsTwinsUptoRow : OpenClaim := { program := "ytcjhkonjlhpmhaa", sum := "d89f798e5166aceb85483042c0df4b949942273225648a27600e16bcfde86b97", func := "freshet/freshetlaw14.VfsTwins", spec := "vfsTwins", inPlace := ["maps.clone"], recurses := true, apart := false, narrowed := true }
def VfsTwinsUptoSaid : Prop := vfsTwinsUptoRow.holds Try.pinned (OpenSpec.upto vfsTwinsSpec)

/-- 'freshetlaw14.VfsPlays', WHERE WHAT IT READS IS OF BULK AT MOST 1048576: true; the input reads as it did. -/
def vfsPlaysUptoRow : OpenClaim := { program := "ytcjhkonjlhpmhaa", sum := "d89f798e5166aceb85483042c0df4b949942273225648a27600e16bcfde86b97", func := "freshet/freshetlaw14.VfsPlays", spec := "vfsPlays", inPlace := ["maps.clone"], recurses := true, apart := false, narrowed := true }
def VfsPlaysUptoSaid : Prop := vfsPlaysUptoRow.holds Try.pinned (OpenSpec.upto vfsPlaysSpec)

end Rows
end Go.Proofs.Ytcjhkonjlhpmhaa

/- The calls whose answers the document fixes, on the plain model. -/
import Derived.Test.YtcjhkonjlhpmhaaVfsW
namespace Go.Proofs.Ytcjhkonjlhpmhaa
open Go.RowKit Go.Maps

def kA : ByteArray := ⟨#[97]⟩
def k15 : ByteArray := ⟨#[49, 50, 51, 52, 53]⟩
def k69 : ByteArray := ⟨#[54, 55, 56, 57]⟩
def k19 : ByteArray := ⟨#[49, 50, 51, 52, 53, 54, 55, 56, 57]⟩
def k17 : ByteArray := ⟨#[49, 50, 51, 52, 53, 54, 55]⟩
def knD1 : Dk := ⟨10, [⟨kA, ByteArray.empty, 0⟩], false, false, 0, 1⟩
def knD2 : Dk := ⟨10, [⟨kA, k15, 0⟩], false, false, 0, 2⟩
def knD3 : Dk := ⟨10, [⟨kA, k15, 5⟩], false, false, 0, 3⟩
def knD4 : Dk := ⟨10, [⟨kA, k19, 5⟩], false, false, 0, 4⟩
def knD5 : Dk := ⟨10, [⟨kA, k17, 7⟩], false, false, 0, 4⟩
theorem kn1 : (Dk.new 10).create kA = (0, knD1) := by rfl
theorem kn2 : knD1.create kA = (141, knD1) := by rfl
theorem kn3 : knD1.append kA k15 = (0, knD2) := by rfl
theorem kn4 : knD2.sync kA = (0, knD3) := by rfl
theorem kn5 : knD3.append kA k69 = (0, knD4) := by rfl
theorem kn6 : knD4.crash [2] [] = knD5 := by rfl
theorem kn7 : knD5.read kA = (k17, 0) := by rfl
end Go.Proofs.Ytcjhkonjlhpmhaa

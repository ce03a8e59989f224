/-
  The words of a few texts, reckoned.
-/
import Derived.Test.YtjgpbpmicopemaaDoorEach
namespace Go.Proofs.YtjgpbpmicopemaaDoor
open Go.RowKit

def text1 : List UInt8 := [97, 49, 32, 62, 62, 61, 32, 48, 120, 49, 70]
def text2 : List UInt8 := [97, 32, 98]
theorem text1_words : wordsL text1 = [⟨⟨1, [97, 49], 0⟩, (1, 1), false⟩, ⟨⟨4, [62, 62], 0⟩, (1, 4), false⟩, ⟨⟨4, [61], 0⟩, (1, 6), false⟩, ⟨⟨2, [48, 120, 49, 70], 31⟩, (1, 8), false⟩] := by kernel_rfl
theorem text1_err : wordsE text1 = 0 := by kernel_rfl
theorem text2_words : eachL text2 = [⟨⟨1, [97], 0⟩, (1, 1), false⟩, ⟨⟨1, [98], 0⟩, (1, 3), false⟩] := by kernel_rfl
theorem known1 : wordsE [49, 97] = 3 ∧ wordsP [49, 97] = (1, 1) := ⟨by kernel_rfl, by kernel_rfl⟩
theorem known2 : wordsE [10, 32, 64] = 3 ∧ wordsP [10, 32, 64] = (2, 2) := ⟨by kernel_rfl, by kernel_rfl⟩
theorem known3 : wordsE [47, 42, 32, 120] = 3 := by kernel_rfl
def text4 : List UInt8 := [105, 110, 116, 32, 105, 110, 32, 47, 47, 32, 120, 10, 47, 42, 32, 10, 32, 42, 47, 111, 117, 116]
theorem known4 : wordsE text4 = 0 ∧ wordsL text4 = [⟨⟨3, [105, 110, 116], 0⟩, (1, 1), false⟩, ⟨⟨3, [105, 110], 0⟩, (1, 5), false⟩, ⟨⟨3, [111, 117, 116], 0⟩, (3, 4), false⟩] := ⟨by kernel_rfl, by kernel_rfl⟩
end Go.Proofs.YtjgpbpmicopemaaDoor

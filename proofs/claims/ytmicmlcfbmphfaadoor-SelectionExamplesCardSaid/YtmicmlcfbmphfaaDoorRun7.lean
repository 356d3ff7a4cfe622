/- A run of a law without arguments, in parts.
   No conditions: each is a closed fact of the given program. -/
import Derived.Test.YtmicmlcfbmphfaaDoorAeChunk
import Derived.Test.YtmicmlcfbmphfaaDoorAeData
import Derived.Test.YtmicmlcfbmphfaaDoorHints
import Derived.Test.YtmicmlcfbmphfaaDoorProg
import Derived.Test.YtmicmlcfbmphfaaDoorRun7c
import Derived.KernelRfl
set_option linter.unusedSimpArgs false
set_option linter.unusedVariables false
set_option linter.unnecessarySimpa false
set_option maxRecDepth 100000
namespace Go.Proofs.YtmicmlcfbmphfaaDoor.R7
open Go Go.Proofs Go.Proofs.YtmicmlcfbmphfaaDoor.Ae
def c36 : Chunk := ⟨55, [.vs [.agg [I 26, I 0, .vs [] .dead], .agg [I 2, I 0, .vs [] .dead], .agg [I 1, I 0, .vs [] .dead], .agg [I 4, I 0, .vs [I 1, I 2] .dead]] .dead], T60, (.tuple [.rs 867 0 4 1, .bool true], T65)⟩
theorem g36 : acall Tryd.prog (fun _ => none) HD 14837 c36.f c36.args c36.S = some c36.r := chunk (l := [c34, c35]) (M := 14436) 400 (Good.cons (acall_le (by decide) _ _ _ _ g34) (Good.cons (acall_le (by decide) _ _ _ _ g35) Good.nil)) (by kernel_rfl)
def c37 : Chunk := ⟨99, [.rs 904 0 4 1, .agg [I 4, I 0, .vs [I 1, I 2] .dead]], T67, (.tuple [.str [4, 0, 0, 0, 0, 0, 0, 0, 0, 0, 0, 0, 0, 0, 0, 0, 1, 0, 0, 0, 0, 0, 0, 0, 2, 0, 0, 0, 0, 0, 0, 0], .bool true], T68)⟩
theorem g37 : acall Tryd.prog (fun _ => none) HD 15238 c37.f c37.args c37.S = some c37.r := chunk (l := []) (M := 14837) 400 Good.nil (by kernel_rfl)
def c38 : Chunk := ⟨71, [.vs [.agg [I 26, I 0, .vs [] .dead], .agg [I 2, I 0, .vs [] .dead], .agg [I 1, I 0, .vs [] .dead], .agg [I 4, I 0, .vs [I 1, I 2] .dead]] .dead, .vs [.agg [I 3, I 1]] (.live 903)], T66, (.rs 991 0 4 1, T69)⟩
theorem g38 : acall Tryd.prog (fun _ => none) HD 15639 c38.f c38.args c38.S = some c38.r := chunk (l := [c37]) (M := 15238) 400 (Good.cons (acall_le (by decide) _ _ _ _ g37) Good.nil) (by kernel_rfl)
def c39 : Chunk := ⟨39, [.agg [.vs [.agg [I 26, I 0, .vs [] .dead], .agg [I 2, I 0, .vs [] .dead], .agg [I 1, I 0, .vs [] .dead], .agg [I 4, I 0, .vs [I 1, I 2] .dead]] .dead, .vs [.agg [I 3, I 1, I 1, .vs [] .dead, .vs [] .dead]] .dead, .vs [] .dead, I 3, I 0, I 0, I 0]], T60, (.tuple [.ptr 993 0 0, .bool true], T70)⟩
theorem g39 : acall Tryd.prog (fun _ => none) HD 16040 c39.f c39.args c39.S = some c39.r := chunk (l := [c36, c38]) (M := 15639) 400 (Good.cons (acall_le (by decide) _ _ _ _ g36) (Good.cons (acall_le (by decide) _ _ _ _ g38) Good.nil)) (by kernel_rfl)
def c40 : Chunk := ⟨7, [], T0, (.bool true, T70)⟩
theorem g40 : acall Tryd.prog (fun _ => none) HD 16441 c40.f c40.args c40.S = some c40.r := chunk (l := [c5, c7, c13, c19, c21, c27, c33, c39]) (M := 16040) 400 (Good.cons (acall_le (by decide) _ _ _ _ g5) (Good.cons (acall_le (by decide) _ _ _ _ g7) (Good.cons (acall_le (by decide) _ _ _ _ g13) (Good.cons (acall_le (by decide) _ _ _ _ g19) (Good.cons (acall_le (by decide) _ _ _ _ g21) (Good.cons (acall_le (by decide) _ _ _ _ g27) (Good.cons (acall_le (by decide) _ _ _ _ g33) (Good.cons (acall_le (by decide) _ _ _ _ g39) Good.nil)))))))) (by kernel_rfl)
theorem run : isTrue (acall Tryd.prog (fun _ => none) HD 16441 7 [] []) = true := by
  show isTrue (acall Tryd.prog (fun _ => none) HD 16441 c40.f c40.args c40.S) = true
  rw [g40]; rfl
end Go.Proofs.YtmicmlcfbmphfaaDoor.R7

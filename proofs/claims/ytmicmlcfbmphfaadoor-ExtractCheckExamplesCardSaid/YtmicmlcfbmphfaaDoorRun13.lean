/- A run of a law without arguments, in parts.
   No conditions: each is a closed fact of the given program. -/
import Derived.Test.YtmicmlcfbmphfaaDoorAeChunk
import Derived.Test.YtmicmlcfbmphfaaDoorAeData
import Derived.Test.YtmicmlcfbmphfaaDoorHints
import Derived.Test.YtmicmlcfbmphfaaDoorProg
import Derived.Test.YtmicmlcfbmphfaaDoorRun13f
import Derived.KernelRfl
set_option linter.unusedSimpArgs false
set_option linter.unusedVariables false
set_option linter.unnecessarySimpa false
set_option maxRecDepth 100000
namespace Go.Proofs.YtmicmlcfbmphfaaDoor.R13
open Go Go.Proofs Go.Proofs.YtmicmlcfbmphfaaDoor.Ae
def c72 : Chunk := ⟨99, [.rs 1560 0 5 1, .agg [I 6, I 0, .vs [I 1, I 2] .dead]], T133, (.tuple [.str [6, 0, 0, 0, 0, 0, 0, 0, 0, 0, 0, 0, 0, 0, 0, 0, 1, 0, 0, 0, 0, 0, 0, 0, 2, 0, 0, 0, 0, 0, 0, 0], .bool true], T134)⟩
theorem g72 : acall Tryd.prog (fun _ => none) HD 29273 c72.f c72.args c72.S = some c72.r := chunk (l := []) (M := 28872) 400 Good.nil (by kernel_rfl)
def c73 : Chunk := ⟨99, [.rs 1560 0 5 1, .agg [I 4, I 0, .vs [I 1, I 1] .dead]], T135, (.tuple [.str [4, 0, 0, 0, 0, 0, 0, 0, 0, 0, 0, 0, 0, 0, 0, 0, 1, 0, 0, 0, 0, 0, 0, 0, 1, 0, 0, 0, 0, 0, 0, 0], .bool true], T136)⟩
theorem g73 : acall Tryd.prog (fun _ => none) HD 29674 c73.f c73.args c73.S = some c73.r := chunk (l := []) (M := 29273) 400 Good.nil (by kernel_rfl)
def c74 : Chunk := ⟨71, [.vs [.agg [I 26, I 0, .vs [] .dead], .agg [I 2, I 0, .vs [] .dead], .agg [I 1, I 2, .vs [] .dead], .agg [I 6, I 0, .vs [I 1, I 2] .dead], .agg [I 4, I 0, .vs [I 1, I 1] .dead]] .dead, .vs [.agg [I 3, I 4]] (.live 1559)], T132, (.rs 1680 0 5 1, T137)⟩
theorem g74 : acall Tryd.prog (fun _ => none) HD 30075 c74.f c74.args c74.S = some c74.r := chunk (l := [c72, c73]) (M := 29674) 400 (Good.cons (acall_le (by decide) _ _ _ _ g72) (Good.cons (acall_le (by decide) _ _ _ _ g73) Good.nil)) (by kernel_rfl)
def c75 : Chunk := ⟨39, [.agg [.vs [.agg [I 26, I 0, .vs [] .dead], .agg [I 2, I 0, .vs [] .dead], .agg [I 1, I 2, .vs [] .dead], .agg [I 6, I 0, .vs [I 1, I 2] .dead], .agg [I 4, I 0, .vs [I 1, I 1] .dead]] .dead, .vs [.agg [I 3, I 4, I 1, .vs [] .dead, .vs [] .dead]] .dead, .vs [] .dead, I 3, I 0, I 0, I 0]], T124, (.tuple [.ptr 1682 0 0, .bool true], T138)⟩
theorem g75 : acall Tryd.prog (fun _ => none) HD 30476 c75.f c75.args c75.S = some c75.r := chunk (l := [c71, c74]) (M := 30075) 400 (Good.cons (acall_le (by decide) _ _ _ _ g71) (Good.cons (acall_le (by decide) _ _ _ _ g74) Good.nil)) (by kernel_rfl)
def c76 : Chunk := ⟨41, [.ptr 1682 0 0, .vs [I 0, I 1, I (-1), I 4, I (-1)] .exact], T138, (.agg [.vs [I 0, I 1, I 3] (.live 1732), .vs [] .nil, I 3, .bool true], T139)⟩
theorem g76 : acall Tryd.prog (fun _ => none) HD 30877 c76.f c76.args c76.S = some c76.r := chunk (l := []) (M := 30476) 400 Good.nil (by kernel_rfl)
def c77 : Chunk := ⟨108, [.vs [.agg [I 2, I 0, .vs [] .dead], .agg [I 4, I 0, .vs [I 0, I 0] .dead]] .dead], T142, (.rs 1765 0 2 1, T143)⟩
theorem g77 : acall Tryd.prog (fun _ => none) HD 31278 c77.f c77.args c77.S = some c77.r := chunk (l := []) (M := 30877) 400 Good.nil (by kernel_rfl)
def c78 : Chunk := ⟨108, [.vs [.agg [I 2, I 0, .vs [] .dead], .agg [I 4, I 0, .vs [I 0, I 0] .dead], .agg [I 26, I 0, .vs [] .dead]] .dead], T144, (.rs 1777 0 3 1, T145)⟩
theorem g78 : acall Tryd.prog (fun _ => none) HD 31679 c78.f c78.args c78.S = some c78.r := chunk (l := []) (M := 31278) 400 Good.nil (by kernel_rfl)
def c79 : Chunk := ⟨55, [.vs [.agg [I 2, I 0, .vs [] .dead], .agg [I 4, I 0, .vs [I 0, I 0] .dead], .agg [I 26, I 0, .vs [] .dead]] .dead], T141, (.tuple [.rs 1758 0 3 1, .bool true], T146)⟩
theorem g79 : acall Tryd.prog (fun _ => none) HD 32080 c79.f c79.args c79.S = some c79.r := chunk (l := [c77, c78]) (M := 31679) 400 (Good.cons (acall_le (by decide) _ _ _ _ g77) (Good.cons (acall_le (by decide) _ _ _ _ g78) Good.nil)) (by kernel_rfl)
def c80 : Chunk := ⟨52, [.ptr 1682 0 0, .rs 1738 0 5 1], T140, (.tuple [.agg [.str [], I 1, .vs [.agg [I 2, I 0, .vs [] .dead], .agg [I 4, I 0, .vs [I 0, I 0] .dead], .agg [I 26, I 0, .vs [] .dead]] (.live 1757), I 1, I 2], .bool true], T147)⟩
theorem g80 : acall Tryd.prog (fun _ => none) HD 32481 c80.f c80.args c80.S = some c80.r := chunk (l := [c79]) (M := 32080) 400 (Good.cons (acall_le (by decide) _ _ _ _ g79) Good.nil) (by kernel_rfl)
def c81 : Chunk := ⟨13, [], T0, (.bool true, T148)⟩
theorem g81 : acall Tryd.prog (fun _ => none) HD 32882 c81.f c81.args c81.S = some c81.r := chunk (l := [c7, c11, c13, c15, c23, c27, c28, c36, c40, c48, c53, c54, c62, c66, c67, c75, c76, c80]) (M := 32481) 400 (Good.cons (acall_le (by decide) _ _ _ _ g7) (Good.cons (acall_le (by decide) _ _ _ _ g11) (Good.cons (acall_le (by decide) _ _ _ _ g13) (Good.cons (acall_le (by decide) _ _ _ _ g15) (Good.cons (acall_le (by decide) _ _ _ _ g23) (Good.cons (acall_le (by decide) _ _ _ _ g27) (Good.cons (acall_le (by decide) _ _ _ _ g28) (Good.cons (acall_le (by decide) _ _ _ _ g36) (Good.cons (acall_le (by decide) _ _ _ _ g40) (Good.cons (acall_le (by decide) _ _ _ _ g48) (Good.cons (acall_le (by decide) _ _ _ _ g53) (Good.cons (acall_le (by decide) _ _ _ _ g54) (Good.cons (acall_le (by decide) _ _ _ _ g62) (Good.cons (acall_le (by decide) _ _ _ _ g66) (Good.cons (acall_le (by decide) _ _ _ _ g67) (Good.cons (acall_le (by decide) _ _ _ _ g75) (Good.cons (acall_le (by decide) _ _ _ _ g76) (Good.cons (acall_le (by decide) _ _ _ _ g80) Good.nil)))))))))))))))))) (by kernel_rfl)
theorem run : isTrue (acall Tryd.prog (fun _ => none) HD 32882 13 [] []) = true := by
  show isTrue (acall Tryd.prog (fun _ => none) HD 32882 c81.f c81.args c81.S) = true
  rw [g81]; rfl
end Go.Proofs.YtmicmlcfbmphfaaDoor.R13

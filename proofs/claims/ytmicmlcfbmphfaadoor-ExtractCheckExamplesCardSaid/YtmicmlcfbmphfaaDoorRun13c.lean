/- A run of a law without arguments, in parts.
   No conditions: each is a closed fact of the given program. -/
import Derived.Test.YtmicmlcfbmphfaaDoorAeChunk
import Derived.Test.YtmicmlcfbmphfaaDoorAeData
import Derived.Test.YtmicmlcfbmphfaaDoorHints
import Derived.Test.YtmicmlcfbmphfaaDoorProg
import Derived.Test.YtmicmlcfbmphfaaDoorRun13b
import Derived.KernelRfl
set_option linter.unusedSimpArgs false
set_option linter.unusedVariables false
set_option linter.unnecessarySimpa false
set_option maxRecDepth 100000
namespace Go.Proofs.YtmicmlcfbmphfaaDoor.R13
open Go Go.Proofs Go.Proofs.YtmicmlcfbmphfaaDoor.Ae
def c24 : Chunk := ⟨108, [.vs [.agg [I 2, I 0, .vs [] .dead], .agg [I 4, I 0, .vs [I 0, I 0] .dead]] .dead], T46, (.rs 557 0 2 1, T47)⟩
theorem g24 : acall Tryd.prog (fun _ => none) HD 10025 c24.f c24.args c24.S = some c24.r := chunk (l := []) (M := 9624) 400 Good.nil (by kernel_rfl)
def c25 : Chunk := ⟨108, [.vs [.agg [I 2, I 0, .vs [] .dead], .agg [I 4, I 0, .vs [I 0, I 0] .dead], .agg [I 26, I 0, .vs [] .dead]] .dead], T48, (.rs 569 0 3 1, T49)⟩
theorem g25 : acall Tryd.prog (fun _ => none) HD 10426 c25.f c25.args c25.S = some c25.r := chunk (l := []) (M := 10025) 400 Good.nil (by kernel_rfl)
def c26 : Chunk := ⟨55, [.vs [.agg [I 2, I 0, .vs [] .dead], .agg [I 4, I 0, .vs [I 0, I 0] .dead], .agg [I 26, I 0, .vs [] .dead]] .dead], T45, (.tuple [.rs 550 0 3 1, .bool true], T50)⟩
theorem g26 : acall Tryd.prog (fun _ => none) HD 10827 c26.f c26.args c26.S = some c26.r := chunk (l := [c24, c25]) (M := 10426) 400 (Good.cons (acall_le (by decide) _ _ _ _ g24) (Good.cons (acall_le (by decide) _ _ _ _ g25) Good.nil)) (by kernel_rfl)
def c27 : Chunk := ⟨52, [.ptr 491 0 0, .vs [I 0, I 1, I (-1), I 4, I (-1)] .exact], T44, (.tuple [.agg [.str [], I 1, .vs [.agg [I 2, I 0, .vs [] .dead], .agg [I 4, I 0, .vs [I 0, I 0] .dead], .agg [I 26, I 0, .vs [] .dead]] (.live 549), I 1, I 2], .bool true], T51)⟩
theorem g27 : acall Tryd.prog (fun _ => none) HD 11228 c27.f c27.args c27.S = some c27.r := chunk (l := [c26]) (M := 10827) 400 (Good.cons (acall_le (by decide) _ _ _ _ g26) Good.nil) (by kernel_rfl)
def c28 : Chunk := ⟨41, [.ptr 491 0 0, .rs 593 0 5 1], T52, (.agg [.vs [I 0, I 1, I 3] (.live 608), .vs [I 3] (.live 609), I 3, .bool true], T53)⟩
theorem g28 : acall Tryd.prog (fun _ => none) HD 11629 c28.f c28.args c28.S = some c28.r := chunk (l := []) (M := 11228) 400 Good.nil (by kernel_rfl)
def c29 : Chunk := ⟨108, [.vs [.agg [I 26, I 0, .vs [] .dead], .agg [I 2, I 0, .vs [] .dead], .agg [I 1, I 2, .vs [] .dead]] .dead], T54, (.rs 627 0 3 1, T55)⟩
theorem g29 : acall Tryd.prog (fun _ => none) HD 12030 c29.f c29.args c29.S = some c29.r := chunk (l := []) (M := 11629) 400 Good.nil (by kernel_rfl)
def c30 : Chunk := ⟨108, [.vs [.agg [I 26, I 0, .vs [] .dead], .agg [I 2, I 0, .vs [] .dead], .agg [I 1, I 2, .vs [] .dead], .agg [I 6, I 0, .vs [I 1, I 2] .dead]] .dead], T56, (.rs 634 0 4 1, T57)⟩
theorem g30 : acall Tryd.prog (fun _ => none) HD 12431 c30.f c30.args c30.S = some c30.r := chunk (l := []) (M := 12030) 400 Good.nil (by kernel_rfl)
def c31 : Chunk := ⟨108, [.vs [.agg [I 26, I 0, .vs [] .dead], .agg [I 2, I 0, .vs [] .dead], .agg [I 1, I 2, .vs [] .dead], .agg [I 6, I 0, .vs [I 1, I 2] .dead], .agg [I 4, I 0, .vs [I 1, I 1] .dead]] .dead], T58, (.rs 648 0 5 1, T59)⟩
theorem g31 : acall Tryd.prog (fun _ => none) HD 12832 c31.f c31.args c31.S = some c31.r := chunk (l := []) (M := 12431) 400 Good.nil (by kernel_rfl)
def c32 : Chunk := ⟨55, [.vs [.agg [I 26, I 0, .vs [] .dead], .agg [I 2, I 0, .vs [] .dead], .agg [I 1, I 2, .vs [] .dead], .agg [I 6, I 0, .vs [I 1, I 2] .dead], .agg [I 4, I 0, .vs [I 1, I 1] .dead]] .dead], T53, (.tuple [.rs 614 0 5 1, .bool true], T60)⟩
theorem g32 : acall Tryd.prog (fun _ => none) HD 13233 c32.f c32.args c32.S = some c32.r := chunk (l := [c29, c30, c31]) (M := 12832) 400 (Good.cons (acall_le (by decide) _ _ _ _ g29) (Good.cons (acall_le (by decide) _ _ _ _ g30) (Good.cons (acall_le (by decide) _ _ _ _ g31) Good.nil))) (by kernel_rfl)
def c33 : Chunk := ⟨99, [.rs 668 0 5 1, .agg [I 6, I 0, .vs [I 1, I 2] .dead]], T62, (.tuple [.str [6, 0, 0, 0, 0, 0, 0, 0, 0, 0, 0, 0, 0, 0, 0, 0, 1, 0, 0, 0, 0, 0, 0, 0, 2, 0, 0, 0, 0, 0, 0, 0], .bool true], T63)⟩
theorem g33 : acall Tryd.prog (fun _ => none) HD 13634 c33.f c33.args c33.S = some c33.r := chunk (l := []) (M := 13233) 400 Good.nil (by kernel_rfl)
def c34 : Chunk := ⟨99, [.rs 668 0 5 1, .agg [I 4, I 0, .vs [I 1, I 1] .dead]], T64, (.tuple [.str [4, 0, 0, 0, 0, 0, 0, 0, 0, 0, 0, 0, 0, 0, 0, 0, 1, 0, 0, 0, 0, 0, 0, 0, 1, 0, 0, 0, 0, 0, 0, 0], .bool true], T65)⟩
theorem g34 : acall Tryd.prog (fun _ => none) HD 14035 c34.f c34.args c34.S = some c34.r := chunk (l := []) (M := 13634) 400 Good.nil (by kernel_rfl)
def c35 : Chunk := ⟨71, [.vs [.agg [I 26, I 0, .vs [] .dead], .agg [I 2, I 0, .vs [] .dead], .agg [I 1, I 2, .vs [] .dead], .agg [I 6, I 0, .vs [I 1, I 2] .dead], .agg [I 4, I 0, .vs [I 1, I 1] .dead]] .dead, .vs [.agg [I 3, I 4]] (.live 667)], T61, (.rs 788 0 5 1, T66)⟩
theorem g35 : acall Tryd.prog (fun _ => none) HD 14436 c35.f c35.args c35.S = some c35.r := chunk (l := [c33, c34]) (M := 14035) 400 (Good.cons (acall_le (by decide) _ _ _ _ g33) (Good.cons (acall_le (by decide) _ _ _ _ g34) Good.nil)) (by kernel_rfl)
end Go.Proofs.YtmicmlcfbmphfaaDoor.R13

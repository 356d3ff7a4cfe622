/- A run of a law without arguments, in parts.
   No conditions: each is a closed fact of the given program. -/
import Derived.Test.YtmicmlcfbmphfaaDoorAeChunk
import Derived.Test.YtmicmlcfbmphfaaDoorAeData
import Derived.Test.YtmicmlcfbmphfaaDoorHints
import Derived.Test.YtmicmlcfbmphfaaDoorProg
import Derived.Test.YtmicmlcfbmphfaaDoorRun13d
import Derived.KernelRfl
set_option linter.unusedSimpArgs false
set_option linter.unusedVariables false
set_option linter.unnecessarySimpa false
set_option maxRecDepth 100000
namespace Go.Proofs.YtmicmlcfbmphfaaDoor.R13
open Go Go.Proofs Go.Proofs.YtmicmlcfbmphfaaDoor.Ae
def c48 : Chunk := ⟨39, [.agg [.vs [.agg [I 26, I 0, .vs [] .dead], .agg [I 2, I 0, .vs [] .dead], .agg [I 1, I 2, .vs [] .dead], .agg [I 6, I 0, .vs [I 1, I 2] .dead], .agg [I 4, I 0, .vs [I 1, I 1] .dead]] .dead, .vs [.agg [I 3, I 4, I 1, .vs [] .dead, .vs [] .dead]] .dead, .vs [] .dead, I 3, I 0, I 0, I 0]], T75, (.tuple [.ptr 1068 0 0, .bool true], T89)⟩
theorem g48 : acall Tryd.prog (fun _ => none) HD 19649 c48.f c48.args c48.S = some c48.r := chunk (l := [c44, c47]) (M := 19248) 400 (Good.cons (acall_le (by decide) _ _ _ _ g44) (Good.cons (acall_le (by decide) _ _ _ _ g47) Good.nil)) (by kernel_rfl)
def c49 : Chunk := ⟨89, [.ptr 1068 0 0, .vs [I 0, I 1, I 2, I 3, I (-1)] .exact], T90, (.tuple [.vs [I 1, I 2, I 3, I 0] (.live 1117), .bool true], T91)⟩
theorem g49 : acall Tryd.prog (fun _ => none) HD 20050 c49.f c49.args c49.S = some c49.r := chunk (l := []) (M := 19649) 400 Good.nil (by kernel_rfl)
def c50 : Chunk := ⟨108, [.vs [.agg [I 2, I 0, .vs [] .dead], .agg [I 1, I 2, .vs [] .dead], .agg [I 6, I 0, .vs [I 0, I 1] .dead]] .dead], T93, (.rs 1143 0 3 1, T94)⟩
theorem g50 : acall Tryd.prog (fun _ => none) HD 20451 c50.f c50.args c50.S = some c50.r := chunk (l := []) (M := 20050) 400 Good.nil (by kernel_rfl)
def c51 : Chunk := ⟨108, [.vs [.agg [I 2, I 0, .vs [] .dead], .agg [I 1, I 2, .vs [] .dead], .agg [I 6, I 0, .vs [I 0, I 1] .dead], .agg [I 26, I 0, .vs [] .dead]] .dead], T95, (.rs 1156 0 4 1, T96)⟩
theorem g51 : acall Tryd.prog (fun _ => none) HD 20852 c51.f c51.args c51.S = some c51.r := chunk (l := []) (M := 20451) 400 Good.nil (by kernel_rfl)
def c52 : Chunk := ⟨55, [.vs [.agg [I 2, I 0, .vs [] .dead], .agg [I 1, I 2, .vs [] .dead], .agg [I 6, I 0, .vs [I 0, I 1] .dead], .agg [I 26, I 0, .vs [] .dead]] .dead], T92, (.tuple [.rs 1130 0 4 1, .bool true], T97)⟩
theorem g52 : acall Tryd.prog (fun _ => none) HD 21253 c52.f c52.args c52.S = some c52.r := chunk (l := [c50, c51]) (M := 20852) 400 (Good.cons (acall_le (by decide) _ _ _ _ g50) (Good.cons (acall_le (by decide) _ _ _ _ g51) Good.nil)) (by kernel_rfl)
def c53 : Chunk := ⟨52, [.ptr 1068 0 0, .vs [I 0, I 1, I 2, I 3, I (-1)] .exact], T89, (.tuple [.agg [.str [], I 1, .vs [.agg [I 2, I 0, .vs [] .dead], .agg [I 1, I 2, .vs [] .dead], .agg [I 6, I 0, .vs [I 0, I 1] .dead], .agg [I 26, I 0, .vs [] .dead]] (.live 1129), I 2, I 3], .bool true], T98)⟩
theorem g53 : acall Tryd.prog (fun _ => none) HD 21654 c53.f c53.args c53.S = some c53.r := chunk (l := [c49, c52]) (M := 21253) 400 (Good.cons (acall_le (by decide) _ _ _ _ g49) (Good.cons (acall_le (by decide) _ _ _ _ g52) Good.nil)) (by kernel_rfl)
def c54 : Chunk := ⟨41, [.ptr 1068 0 0, .rs 1185 0 5 1], T99, (.agg [.vs [I 0, I 1, I 3] (.live 1200), .vs [I 3] (.live 1201), I 3, .bool true], T100)⟩
theorem g54 : acall Tryd.prog (fun _ => none) HD 22055 c54.f c54.args c54.S = some c54.r := chunk (l := []) (M := 21654) 400 Good.nil (by kernel_rfl)
def c55 : Chunk := ⟨108, [.vs [.agg [I 26, I 0, .vs [] .dead], .agg [I 2, I 0, .vs [] .dead], .agg [I 1, I 2, .vs [] .dead]] .dead], T101, (.rs 1219 0 3 1, T102)⟩
theorem g55 : acall Tryd.prog (fun _ => none) HD 22456 c55.f c55.args c55.S = some c55.r := chunk (l := []) (M := 22055) 400 Good.nil (by kernel_rfl)
def c56 : Chunk := ⟨108, [.vs [.agg [I 26, I 0, .vs [] .dead], .agg [I 2, I 0, .vs [] .dead], .agg [I 1, I 2, .vs [] .dead], .agg [I 6, I 0, .vs [I 1, I 2] .dead]] .dead], T103, (.rs 1226 0 4 1, T104)⟩
theorem g56 : acall Tryd.prog (fun _ => none) HD 22857 c56.f c56.args c56.S = some c56.r := chunk (l := []) (M := 22456) 400 Good.nil (by kernel_rfl)
def c57 : Chunk := ⟨108, [.vs [.agg [I 26, I 0, .vs [] .dead], .agg [I 2, I 0, .vs [] .dead], .agg [I 1, I 2, .vs [] .dead], .agg [I 6, I 0, .vs [I 1, I 2] .dead], .agg [I 4, I 0, .vs [I 1, I 1] .dead]] .dead], T105, (.rs 1240 0 5 1, T106)⟩
theorem g57 : acall Tryd.prog (fun _ => none) HD 23258 c57.f c57.args c57.S = some c57.r := chunk (l := []) (M := 22857) 400 Good.nil (by kernel_rfl)
def c58 : Chunk := ⟨55, [.vs [.agg [I 26, I 0, .vs [] .dead], .agg [I 2, I 0, .vs [] .dead], .agg [I 1, I 2, .vs [] .dead], .agg [I 6, I 0, .vs [I 1, I 2] .dead], .agg [I 4, I 0, .vs [I 1, I 1] .dead]] .dead], T100, (.tuple [.rs 1206 0 5 1, .bool true], T107)⟩
theorem g58 : acall Tryd.prog (fun _ => none) HD 23659 c58.f c58.args c58.S = some c58.r := chunk (l := [c55, c56, c57]) (M := 23258) 400 (Good.cons (acall_le (by decide) _ _ _ _ g55) (Good.cons (acall_le (by decide) _ _ _ _ g56) (Good.cons (acall_le (by decide) _ _ _ _ g57) Good.nil))) (by kernel_rfl)
def c59 : Chunk := ⟨99, [.rs 1260 0 5 1, .agg [I 6, I 0, .vs [I 1, I 2] .dead]], T109, (.tuple [.str [6, 0, 0, 0, 0, 0, 0, 0, 0, 0, 0, 0, 0, 0, 0, 0, 1, 0, 0, 0, 0, 0, 0, 0, 2, 0, 0, 0, 0, 0, 0, 0], .bool true], T110)⟩
theorem g59 : acall Tryd.prog (fun _ => none) HD 24060 c59.f c59.args c59.S = some c59.r := chunk (l := []) (M := 23659) 400 Good.nil (by kernel_rfl)
end Go.Proofs.YtmicmlcfbmphfaaDoor.R13

/- A run of a law without arguments, in parts.
   No conditions: each is a closed fact of the given program. -/
import Derived.Test.YtmicmlcfbmphfaaDoorAeChunk
import Derived.Test.YtmicmlcfbmphfaaDoorAeData
import Derived.Test.YtmicmlcfbmphfaaDoorHints
import Derived.Test.YtmicmlcfbmphfaaDoorProg
import Derived.Test.YtmicmlcfbmphfaaDoorRun13e
import Derived.KernelRfl
set_option linter.unusedSimpArgs false
set_option linter.unusedVariables false
set_option linter.unnecessarySimpa false
set_option maxRecDepth 100000
namespace Go.Proofs.YtmicmlcfbmphfaaDoor.R13
open Go Go.Proofs Go.Proofs.YtmicmlcfbmphfaaDoor.Ae
def c60 : Chunk := ⟨99, [.rs 1260 0 5 1, .agg [I 4, I 0, .vs [I 1, I 1] .dead]], T111, (.tuple [.str [4, 0, 0, 0, 0, 0, 0, 0, 0, 0, 0, 0, 0, 0, 0, 0, 1, 0, 0, 0, 0, 0, 0, 0, 1, 0, 0, 0, 0, 0, 0, 0], .bool true], T112)⟩
theorem g60 : acall Tryd.prog (fun _ => none) HD 24461 c60.f c60.args c60.S = some c60.r := chunk (l := []) (M := 24060) 400 Good.nil (by kernel_rfl)
def c61 : Chunk := ⟨71, [.vs [.agg [I 26, I 0, .vs [] .dead], .agg [I 2, I 0, .vs [] .dead], .agg [I 1, I 2, .vs [] .dead], .agg [I 6, I 0, .vs [I 1, I 2] .dead], .agg [I 4, I 0, .vs [I 1, I 1] .dead]] .dead, .vs [.agg [I 3, I 4]] (.live 1259)], T108, (.rs 1380 0 5 1, T113)⟩
theorem g61 : acall Tryd.prog (fun _ => none) HD 24862 c61.f c61.args c61.S = some c61.r := chunk (l := [c59, c60]) (M := 24461) 400 (Good.cons (acall_le (by decide) _ _ _ _ g59) (Good.cons (acall_le (by decide) _ _ _ _ g60) Good.nil)) (by kernel_rfl)
def c62 : Chunk := ⟨39, [.agg [.vs [.agg [I 26, I 0, .vs [] .dead], .agg [I 2, I 0, .vs [] .dead], .agg [I 1, I 2, .vs [] .dead], .agg [I 6, I 0, .vs [I 1, I 2] .dead], .agg [I 4, I 0, .vs [I 1, I 1] .dead]] .dead, .vs [.agg [I 3, I 4, I 1, .vs [] .dead, .vs [] .dead]] .dead, .vs [] .dead, I 3, I 0, I 0, I 0]], T100, (.tuple [.ptr 1382 0 0, .bool true], T114)⟩
theorem g62 : acall Tryd.prog (fun _ => none) HD 25263 c62.f c62.args c62.S = some c62.r := chunk (l := [c58, c61]) (M := 24862) 400 (Good.cons (acall_le (by decide) _ _ _ _ g58) (Good.cons (acall_le (by decide) _ _ _ _ g61) Good.nil)) (by kernel_rfl)
def c63 : Chunk := ⟨108, [.vs [.agg [I 2, I 0, .vs [] .dead], .agg [I 4, I 0, .vs [I 0, I 0] .dead]] .dead], T116, (.rs 1448 0 2 1, T117)⟩
theorem g63 : acall Tryd.prog (fun _ => none) HD 25664 c63.f c63.args c63.S = some c63.r := chunk (l := []) (M := 25263) 400 Good.nil (by kernel_rfl)
def c64 : Chunk := ⟨108, [.vs [.agg [I 2, I 0, .vs [] .dead], .agg [I 4, I 0, .vs [I 0, I 0] .dead], .agg [I 26, I 0, .vs [] .dead]] .dead], T118, (.rs 1460 0 3 1, T119)⟩
theorem g64 : acall Tryd.prog (fun _ => none) HD 26065 c64.f c64.args c64.S = some c64.r := chunk (l := []) (M := 25664) 400 Good.nil (by kernel_rfl)
def c65 : Chunk := ⟨55, [.vs [.agg [I 2, I 0, .vs [] .dead], .agg [I 4, I 0, .vs [I 0, I 0] .dead], .agg [I 26, I 0, .vs [] .dead]] .dead], T115, (.tuple [.rs 1441 0 3 1, .bool true], T120)⟩
theorem g65 : acall Tryd.prog (fun _ => none) HD 26466 c65.f c65.args c65.S = some c65.r := chunk (l := [c63, c64]) (M := 26065) 400 (Good.cons (acall_le (by decide) _ _ _ _ g63) (Good.cons (acall_le (by decide) _ _ _ _ g64) Good.nil)) (by kernel_rfl)
def c66 : Chunk := ⟨52, [.ptr 1382 0 0, .vs [I 0, I 1, I (-1), I 4, I (-1)] .exact], T114, (.tuple [.agg [.str [], I 1, .vs [.agg [I 2, I 0, .vs [] .dead], .agg [I 4, I 0, .vs [I 0, I 0] .dead], .agg [I 26, I 0, .vs [] .dead]] (.live 1440), I 1, I 2], .bool true], T121)⟩
theorem g66 : acall Tryd.prog (fun _ => none) HD 26867 c66.f c66.args c66.S = some c66.r := chunk (l := [c65]) (M := 26466) 400 (Good.cons (acall_le (by decide) _ _ _ _ g65) Good.nil) (by kernel_rfl)
def c67 : Chunk := ⟨41, [.ptr 1382 0 0, .rs 1484 0 5 1], T122, (.agg [.vs [I 0, I 1, I 3] (.live 1499), .vs [I 3] (.live 1500), I 3, .bool true], T123)⟩
theorem g67 : acall Tryd.prog (fun _ => none) HD 27268 c67.f c67.args c67.S = some c67.r := chunk (l := []) (M := 26867) 400 Good.nil (by kernel_rfl)
def c68 : Chunk := ⟨108, [.vs [.agg [I 26, I 0, .vs [] .dead], .agg [I 2, I 0, .vs [] .dead], .agg [I 1, I 2, .vs [] .dead]] .dead], T125, (.rs 1519 0 3 1, T126)⟩
theorem g68 : acall Tryd.prog (fun _ => none) HD 27669 c68.f c68.args c68.S = some c68.r := chunk (l := []) (M := 27268) 400 Good.nil (by kernel_rfl)
def c69 : Chunk := ⟨108, [.vs [.agg [I 26, I 0, .vs [] .dead], .agg [I 2, I 0, .vs [] .dead], .agg [I 1, I 2, .vs [] .dead], .agg [I 6, I 0, .vs [I 1, I 2] .dead]] .dead], T127, (.rs 1526 0 4 1, T128)⟩
theorem g69 : acall Tryd.prog (fun _ => none) HD 28070 c69.f c69.args c69.S = some c69.r := chunk (l := []) (M := 27669) 400 Good.nil (by kernel_rfl)
def c70 : Chunk := ⟨108, [.vs [.agg [I 26, I 0, .vs [] .dead], .agg [I 2, I 0, .vs [] .dead], .agg [I 1, I 2, .vs [] .dead], .agg [I 6, I 0, .vs [I 1, I 2] .dead], .agg [I 4, I 0, .vs [I 1, I 1] .dead]] .dead], T129, (.rs 1540 0 5 1, T130)⟩
theorem g70 : acall Tryd.prog (fun _ => none) HD 28471 c70.f c70.args c70.S = some c70.r := chunk (l := []) (M := 28070) 400 Good.nil (by kernel_rfl)
def c71 : Chunk := ⟨55, [.vs [.agg [I 26, I 0, .vs [] .dead], .agg [I 2, I 0, .vs [] .dead], .agg [I 1, I 2, .vs [] .dead], .agg [I 6, I 0, .vs [I 1, I 2] .dead], .agg [I 4, I 0, .vs [I 1, I 1] .dead]] .dead], T124, (.tuple [.rs 1506 0 5 1, .bool true], T131)⟩
theorem g71 : acall Tryd.prog (fun _ => none) HD 28872 c71.f c71.args c71.S = some c71.r := chunk (l := [c68, c69, c70]) (M := 28471) 400 (Good.cons (acall_le (by decide) _ _ _ _ g68) (Good.cons (acall_le (by decide) _ _ _ _ g69) (Good.cons (acall_le (by decide) _ _ _ _ g70) Good.nil))) (by kernel_rfl)
end Go.Proofs.YtmicmlcfbmphfaaDoor.R13

/- A run of a law without arguments, in parts.
   No conditions: each is a closed fact of the given program. -/
import Derived.Test.YtmicmlcfbmphfaaDoorAeChunk
import Derived.Test.YtmicmlcfbmphfaaDoorAeData
import Derived.Test.YtmicmlcfbmphfaaDoorHints
import Derived.Test.YtmicmlcfbmphfaaDoorProg
import Derived.Test.YtmicmlcfbmphfaaDoorRun13a
import Derived.KernelRfl
set_option linter.unusedSimpArgs false
set_option linter.unusedVariables false
set_option linter.unnecessarySimpa false
set_option maxRecDepth 100000
namespace Go.Proofs.YtmicmlcfbmphfaaDoor.R13
open Go Go.Proofs Go.Proofs.YtmicmlcfbmphfaaDoor.Ae
def c12 : Chunk := ⟨78, [.ptr 178 0 0, .rs 281 0 5 1, .rs 283 0 5 1], T24, (.bool false, T25)⟩
theorem g12 : acall Tryd.prog (fun _ => none) HD 5213 c12.f c12.args c12.S = some c12.r := chunk (l := []) (M := 4812) 400 Good.nil (by kernel_rfl)
def c13 : Chunk := ⟨41, [.ptr 178 0 0, .rs 281 0 5 1], T23, (.agg [.vs [I 0, I 1, I 2, I 3] (.live 294), .vs [] .nil, I 6, .bool true], T26)⟩
theorem g13 : acall Tryd.prog (fun _ => none) HD 5614 c13.f c13.args c13.S = some c13.r := chunk (l := [c12]) (M := 5213) 400 (Good.cons (acall_le (by decide) _ _ _ _ g12) Good.nil) (by kernel_rfl)
def c14 : Chunk := ⟨78, [.ptr 178 0 0, .rs 299 0 5 1, .rs 301 0 5 1], T28, (.bool false, T29)⟩
theorem g14 : acall Tryd.prog (fun _ => none) HD 6015 c14.f c14.args c14.S = some c14.r := chunk (l := []) (M := 5614) 400 Good.nil (by kernel_rfl)
def c15 : Chunk := ⟨41, [.ptr 178 0 0, .rs 299 0 5 1], T27, (.agg [.vs [I 0, I 1, I 3] (.live 310), .vs [] .nil, I 3, .bool true], T30)⟩
theorem g15 : acall Tryd.prog (fun _ => none) HD 6416 c15.f c15.args c15.S = some c15.r := chunk (l := [c14]) (M := 6015) 400 (Good.cons (acall_le (by decide) _ _ _ _ g14) Good.nil) (by kernel_rfl)
def c16 : Chunk := ⟨108, [.vs [.agg [I 26, I 0, .vs [] .dead], .agg [I 2, I 0, .vs [] .dead], .agg [I 1, I 2, .vs [] .dead]] .dead], T31, (.rs 328 0 3 1, T32)⟩
theorem g16 : acall Tryd.prog (fun _ => none) HD 6817 c16.f c16.args c16.S = some c16.r := chunk (l := []) (M := 6416) 400 Good.nil (by kernel_rfl)
def c17 : Chunk := ⟨108, [.vs [.agg [I 26, I 0, .vs [] .dead], .agg [I 2, I 0, .vs [] .dead], .agg [I 1, I 2, .vs [] .dead], .agg [I 6, I 0, .vs [I 1, I 2] .dead]] .dead], T33, (.rs 335 0 4 1, T34)⟩
theorem g17 : acall Tryd.prog (fun _ => none) HD 7218 c17.f c17.args c17.S = some c17.r := chunk (l := []) (M := 6817) 400 Good.nil (by kernel_rfl)
def c18 : Chunk := ⟨108, [.vs [.agg [I 26, I 0, .vs [] .dead], .agg [I 2, I 0, .vs [] .dead], .agg [I 1, I 2, .vs [] .dead], .agg [I 6, I 0, .vs [I 1, I 2] .dead], .agg [I 4, I 0, .vs [I 1, I 1] .dead]] .dead], T35, (.rs 349 0 5 1, T36)⟩
theorem g18 : acall Tryd.prog (fun _ => none) HD 7619 c18.f c18.args c18.S = some c18.r := chunk (l := []) (M := 7218) 400 Good.nil (by kernel_rfl)
def c19 : Chunk := ⟨55, [.vs [.agg [I 26, I 0, .vs [] .dead], .agg [I 2, I 0, .vs [] .dead], .agg [I 1, I 2, .vs [] .dead], .agg [I 6, I 0, .vs [I 1, I 2] .dead], .agg [I 4, I 0, .vs [I 1, I 1] .dead]] .dead], T30, (.tuple [.rs 315 0 5 1, .bool true], T37)⟩
theorem g19 : acall Tryd.prog (fun _ => none) HD 8020 c19.f c19.args c19.S = some c19.r := chunk (l := [c16, c17, c18]) (M := 7619) 400 (Good.cons (acall_le (by decide) _ _ _ _ g16) (Good.cons (acall_le (by decide) _ _ _ _ g17) (Good.cons (acall_le (by decide) _ _ _ _ g18) Good.nil))) (by kernel_rfl)
def c20 : Chunk := ⟨99, [.rs 369 0 5 1, .agg [I 6, I 0, .vs [I 1, I 2] .dead]], T39, (.tuple [.str [6, 0, 0, 0, 0, 0, 0, 0, 0, 0, 0, 0, 0, 0, 0, 0, 1, 0, 0, 0, 0, 0, 0, 0, 2, 0, 0, 0, 0, 0, 0, 0], .bool true], T40)⟩
theorem g20 : acall Tryd.prog (fun _ => none) HD 8421 c20.f c20.args c20.S = some c20.r := chunk (l := []) (M := 8020) 400 Good.nil (by kernel_rfl)
def c21 : Chunk := ⟨99, [.rs 369 0 5 1, .agg [I 4, I 0, .vs [I 1, I 1] .dead]], T41, (.tuple [.str [4, 0, 0, 0, 0, 0, 0, 0, 0, 0, 0, 0, 0, 0, 0, 0, 1, 0, 0, 0, 0, 0, 0, 0, 1, 0, 0, 0, 0, 0, 0, 0], .bool true], T42)⟩
theorem g21 : acall Tryd.prog (fun _ => none) HD 8822 c21.f c21.args c21.S = some c21.r := chunk (l := []) (M := 8421) 400 Good.nil (by kernel_rfl)
def c22 : Chunk := ⟨71, [.vs [.agg [I 26, I 0, .vs [] .dead], .agg [I 2, I 0, .vs [] .dead], .agg [I 1, I 2, .vs [] .dead], .agg [I 6, I 0, .vs [I 1, I 2] .dead], .agg [I 4, I 0, .vs [I 1, I 1] .dead]] .dead, .vs [.agg [I 3, I 4]] (.live 368)], T38, (.rs 489 0 5 1, T43)⟩
theorem g22 : acall Tryd.prog (fun _ => none) HD 9223 c22.f c22.args c22.S = some c22.r := chunk (l := [c20, c21]) (M := 8822) 400 (Good.cons (acall_le (by decide) _ _ _ _ g20) (Good.cons (acall_le (by decide) _ _ _ _ g21) Good.nil)) (by kernel_rfl)
def c23 : Chunk := ⟨39, [.agg [.vs [.agg [I 26, I 0, .vs [] .dead], .agg [I 2, I 0, .vs [] .dead], .agg [I 1, I 2, .vs [] .dead], .agg [I 6, I 0, .vs [I 1, I 2] .dead], .agg [I 4, I 0, .vs [I 1, I 1] .dead]] .dead, .vs [.agg [I 3, I 4, I 1, .vs [] .dead, .vs [] .dead]] .dead, .vs [] .dead, I 3, I 0, I 0, I 0]], T30, (.tuple [.ptr 491 0 0, .bool true], T44)⟩
theorem g23 : acall Tryd.prog (fun _ => none) HD 9624 c23.f c23.args c23.S = some c23.r := chunk (l := [c19, c22]) (M := 9223) 400 (Good.cons (acall_le (by decide) _ _ _ _ g19) (Good.cons (acall_le (by decide) _ _ _ _ g22) Good.nil)) (by kernel_rfl)
end Go.Proofs.YtmicmlcfbmphfaaDoor.R13

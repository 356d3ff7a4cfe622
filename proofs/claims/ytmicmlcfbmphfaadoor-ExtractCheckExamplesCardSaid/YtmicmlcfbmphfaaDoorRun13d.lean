/- A run of a law without arguments, in parts.
   No conditions: each is a closed fact of the given program. -/
import Derived.Test.YtmicmlcfbmphfaaDoorAeChunk
import Derived.Test.YtmicmlcfbmphfaaDoorAeData
import Derived.Test.YtmicmlcfbmphfaaDoorHints
import Derived.Test.YtmicmlcfbmphfaaDoorProg
import Derived.Test.YtmicmlcfbmphfaaDoorRun13c
import Derived.KernelRfl
set_option linter.unusedSimpArgs false
set_option linter.unusedVariables false
set_option linter.unnecessarySimpa false
set_option maxRecDepth 100000
namespace Go.Proofs.YtmicmlcfbmphfaaDoor.R13
open Go Go.Proofs Go.Proofs.YtmicmlcfbmphfaaDoor.Ae
def c36 : Chunk := ⟨39, [.agg [.vs [.agg [I 26, I 0, .vs [] .dead], .agg [I 2, I 0, .vs [] .dead], .agg [I 1, I 2, .vs [] .dead], .agg [I 6, I 0, .vs [I 1, I 2] .dead], .agg [I 4, I 0, .vs [I 1, I 1] .dead]] .dead, .vs [.agg [I 3, I 4, I 1, .vs [] .dead, .vs [] .dead]] .dead, .vs [] .dead, I 3, I 0, I 0, I 0]], T53, (.tuple [.ptr 790 0 0, .bool true], T67)⟩
theorem g36 : acall Tryd.prog (fun _ => none) HD 14837 c36.f c36.args c36.S = some c36.r := chunk (l := [c32, c35]) (M := 14436) 400 (Good.cons (acall_le (by decide) _ _ _ _ g32) (Good.cons (acall_le (by decide) _ _ _ _ g35) Good.nil)) (by kernel_rfl)
def c37 : Chunk := ⟨108, [.vs [.agg [I 2, I 0, .vs [] .dead], .agg [I 4, I 0, .vs [I 0, I 0] .dead]] .dead], T69, (.rs 856 0 2 1, T70)⟩
theorem g37 : acall Tryd.prog (fun _ => none) HD 15238 c37.f c37.args c37.S = some c37.r := chunk (l := []) (M := 14837) 400 Good.nil (by kernel_rfl)
def c38 : Chunk := ⟨108, [.vs [.agg [I 2, I 0, .vs [] .dead], .agg [I 4, I 0, .vs [I 0, I 0] .dead], .agg [I 26, I 0, .vs [] .dead]] .dead], T71, (.rs 868 0 3 1, T72)⟩
theorem g38 : acall Tryd.prog (fun _ => none) HD 15639 c38.f c38.args c38.S = some c38.r := chunk (l := []) (M := 15238) 400 Good.nil (by kernel_rfl)
def c39 : Chunk := ⟨55, [.vs [.agg [I 2, I 0, .vs [] .dead], .agg [I 4, I 0, .vs [I 0, I 0] .dead], .agg [I 26, I 0, .vs [] .dead]] .dead], T68, (.tuple [.rs 849 0 3 1, .bool true], T73)⟩
theorem g39 : acall Tryd.prog (fun _ => none) HD 16040 c39.f c39.args c39.S = some c39.r := chunk (l := [c37, c38]) (M := 15639) 400 (Good.cons (acall_le (by decide) _ _ _ _ g37) (Good.cons (acall_le (by decide) _ _ _ _ g38) Good.nil)) (by kernel_rfl)
def c40 : Chunk := ⟨52, [.ptr 790 0 0, .vs [I 0, I 1, I (-1), I 4, I (-1)] .exact], T67, (.tuple [.agg [.str [], I 1, .vs [.agg [I 2, I 0, .vs [] .dead], .agg [I 4, I 0, .vs [I 0, I 0] .dead], .agg [I 26, I 0, .vs [] .dead]] (.live 848), I 1, I 2], .bool true], T74)⟩
theorem g40 : acall Tryd.prog (fun _ => none) HD 16441 c40.f c40.args c40.S = some c40.r := chunk (l := [c39]) (M := 16040) 400 (Good.cons (acall_le (by decide) _ _ _ _ g39) Good.nil) (by kernel_rfl)
def c41 : Chunk := ⟨108, [.vs [.agg [I 26, I 0, .vs [] .dead], .agg [I 2, I 0, .vs [] .dead], .agg [I 1, I 2, .vs [] .dead]] .dead], T76, (.rs 905 0 3 1, T77)⟩
theorem g41 : acall Tryd.prog (fun _ => none) HD 16842 c41.f c41.args c41.S = some c41.r := chunk (l := []) (M := 16441) 400 Good.nil (by kernel_rfl)
def c42 : Chunk := ⟨108, [.vs [.agg [I 26, I 0, .vs [] .dead], .agg [I 2, I 0, .vs [] .dead], .agg [I 1, I 2, .vs [] .dead], .agg [I 6, I 0, .vs [I 1, I 2] .dead]] .dead], T78, (.rs 912 0 4 1, T79)⟩
theorem g42 : acall Tryd.prog (fun _ => none) HD 17243 c42.f c42.args c42.S = some c42.r := chunk (l := []) (M := 16842) 400 Good.nil (by kernel_rfl)
def c43 : Chunk := ⟨108, [.vs [.agg [I 26, I 0, .vs [] .dead], .agg [I 2, I 0, .vs [] .dead], .agg [I 1, I 2, .vs [] .dead], .agg [I 6, I 0, .vs [I 1, I 2] .dead], .agg [I 4, I 0, .vs [I 1, I 1] .dead]] .dead], T80, (.rs 926 0 5 1, T81)⟩
theorem g43 : acall Tryd.prog (fun _ => none) HD 17644 c43.f c43.args c43.S = some c43.r := chunk (l := []) (M := 17243) 400 Good.nil (by kernel_rfl)
def c44 : Chunk := ⟨55, [.vs [.agg [I 26, I 0, .vs [] .dead], .agg [I 2, I 0, .vs [] .dead], .agg [I 1, I 2, .vs [] .dead], .agg [I 6, I 0, .vs [I 1, I 2] .dead], .agg [I 4, I 0, .vs [I 1, I 1] .dead]] .dead], T75, (.tuple [.rs 892 0 5 1, .bool true], T82)⟩
theorem g44 : acall Tryd.prog (fun _ => none) HD 18045 c44.f c44.args c44.S = some c44.r := chunk (l := [c41, c42, c43]) (M := 17644) 400 (Good.cons (acall_le (by decide) _ _ _ _ g41) (Good.cons (acall_le (by decide) _ _ _ _ g42) (Good.cons (acall_le (by decide) _ _ _ _ g43) Good.nil))) (by kernel_rfl)
def c45 : Chunk := ⟨99, [.rs 946 0 5 1, .agg [I 6, I 0, .vs [I 1, I 2] .dead]], T84, (.tuple [.str [6, 0, 0, 0, 0, 0, 0, 0, 0, 0, 0, 0, 0, 0, 0, 0, 1, 0, 0, 0, 0, 0, 0, 0, 2, 0, 0, 0, 0, 0, 0, 0], .bool true], T85)⟩
theorem g45 : acall Tryd.prog (fun _ => none) HD 18446 c45.f c45.args c45.S = some c45.r := chunk (l := []) (M := 18045) 400 Good.nil (by kernel_rfl)
def c46 : Chunk := ⟨99, [.rs 946 0 5 1, .agg [I 4, I 0, .vs [I 1, I 1] .dead]], T86, (.tuple [.str [4, 0, 0, 0, 0, 0, 0, 0, 0, 0, 0, 0, 0, 0, 0, 0, 1, 0, 0, 0, 0, 0, 0, 0, 1, 0, 0, 0, 0, 0, 0, 0], .bool true], T87)⟩
theorem g46 : acall Tryd.prog (fun _ => none) HD 18847 c46.f c46.args c46.S = some c46.r := chunk (l := []) (M := 18446) 400 Good.nil (by kernel_rfl)
def c47 : Chunk := ⟨71, [.vs [.agg [I 26, I 0, .vs [] .dead], .agg [I 2, I 0, .vs [] .dead], .agg [I 1, I 2, .vs [] .dead], .agg [I 6, I 0, .vs [I 1, I 2] .dead], .agg [I 4, I 0, .vs [I 1, I 1] .dead]] .dead, .vs [.agg [I 3, I 4]] (.live 945)], T83, (.rs 1066 0 5 1, T88)⟩
theorem g47 : acall Tryd.prog (fun _ => none) HD 19248 c47.f c47.args c47.S = some c47.r := chunk (l := [c45, c46]) (M := 18847) 400 (Good.cons (acall_le (by decide) _ _ _ _ g45) (Good.cons (acall_le (by decide) _ _ _ _ g46) Good.nil)) (by kernel_rfl)
end Go.Proofs.YtmicmlcfbmphfaaDoor.R13

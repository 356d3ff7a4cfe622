/- The hints for the interpreter: which slots stand from region to region, which rows may be written, what lives at the head of a loop.
   No conditions: these are data. -/
import Derived.Test.YtmicmlcfbmphfaaAeBase
set_option linter.unusedSimpArgs false
set_option linter.unusedVariables false
set_option linter.unnecessarySimpa false
namespace Go.Proofs.Ytmicmlcfbmphfaa
open Go.Proofs.Ytmicmlcfbmphfaa.Ae

def HAL : List Hint := [
  ⟨[], [], [], []⟩,
  ⟨[], [], [], []⟩,
  ⟨upto 0 [], [], [], []⟩,
  ⟨upto 2 [], [], [], []⟩,
  ⟨upto 15 [], [], [], [(0, [2, 3, 4, 11, 12, 13])]⟩,
  ⟨upto 16 [], [], [], [(2, [2, 7, 8, 9, 11]), (0, [1, 2, 7, 8, 9, 10])]⟩,
  ⟨upto 9 [], [(2, 0)], [], [(0, [0, 5, 6, 7])]⟩,
  ⟨upto 5 [], [], [], []⟩,
  ⟨upto 10 [31], [(1, 2), (6, 3)], [(21, 1), (26, 2), (27, 1)], []⟩,
  ⟨upto 12 [], [(5, 17)], [], [(2, [0, 1, 5, 6, 7, 8, 9, 11]), (0, [0, 1, 5, 6])]⟩,
  ⟨upto 2 [4], [], [], []⟩,
  ⟨upto 5 [], [], [], []⟩,
  ⟨upto 9 [], [], [], [(2, [0, 5, 7, 8]), (0, [0, 1, 5, 6])]⟩,
  ⟨upto 7 [], [], [], []⟩,
  ⟨upto 4 [], [], [], []⟩,
  ⟨upto 10 [], [], [], [(0, [0, 1, 2, 7, 8, 9])]⟩,
  ⟨upto 2 [4], [], [], []⟩,
  ⟨upto 4 [], [], [], []⟩,
  ⟨upto 6 [], [], [], [(0, [0, 3, 5])]⟩,
  ⟨upto 2 [4], [], [], []⟩,
  ⟨upto 8 [], [], [], [(4, [0, 1, 4, 5, 6]), (2, [0, 1, 4, 5]), (0, [0, 1, 4])]⟩,
  ⟨upto 9 [], [], [], [(2, [0, 3, 4, 5, 6, 7]), (0, [0, 3, 4])]⟩,
  ⟨upto 3 [], [], [], []⟩,
  ⟨upto 6 [], [], [], [(0, [2, 3, 5])]⟩,
  ⟨upto 10 [38], [], [], []⟩,
  ⟨upto 6 [], [], [], []⟩,
  ⟨upto 2 [4], [], [], []⟩,
  ⟨upto 4 [], [], [], [(0, [0, 3])]⟩,
  ⟨upto 4 [], [], [], []⟩]

def HA (f : Nat) : Hint := HAL.getD f ⟨[], [], [], []⟩

end Go.Proofs.Ytmicmlcfbmphfaa

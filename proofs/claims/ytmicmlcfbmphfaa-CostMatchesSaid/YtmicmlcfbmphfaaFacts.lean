/- What the program's types come to, and the hints function by function.
   No conditions: each is a fact of the given program. -/
import Derived.Test.YtmicmlcfbmphfaaAeRules
import Derived.Test.YtmicmlcfbmphfaaHints
import Derived.Test.YtmicmlcfbmphfaaProg
import Derived.KernelRfl
set_option linter.unusedSimpArgs false
set_option linter.unusedVariables false
set_option linter.unnecessarySimpa false
namespace Go.Proofs.Ytmicmlcfbmphfaa
open Go Go.Proofs Go.Proofs.Ytmicmlcfbmphfaa.Ae

attribute [go_sem] Try.underlying2 Try.underlying3 Try.underlying4 Try.underlying22 Try.underlying24 Try.underlying25 Try.underlying35 Try.underlying36 Try.underlying38 Try.underlying47
@[go_sem] theorem size_2 : sizeT Try.prog 2 = some 1 := by kernel_rfl
@[go_sem] theorem size_3 : sizeT Try.prog 3 = some 1 := by kernel_rfl
@[go_sem] theorem size_4 : sizeT Try.prog 4 = some 1 := by kernel_rfl
@[go_sem] theorem size_22 : sizeT Try.prog 22 = some 1 := by kernel_rfl
@[go_sem] theorem size_24 : sizeT Try.prog 24 = some 3 := by kernel_rfl
@[go_sem] theorem size_25 : sizeT Try.prog 25 = some 1 := by kernel_rfl
@[go_sem] theorem size_35 : sizeT Try.prog 35 = some 1 := by kernel_rfl
@[go_sem] theorem size_36 : sizeT Try.prog 36 = some 1 := by kernel_rfl
@[go_sem] theorem size_38 : sizeT Try.prog 38 = some 2 := by kernel_rfl
@[go_sem] theorem size_47 : sizeT Try.prog 47 = some 1 := by kernel_rfl
@[go_sem] theorem bytes_2 : bytesT Try.prog 2 = some 8 := by kernel_rfl
@[go_sem] theorem bytes_3 : bytesT Try.prog 3 = some 8 := by kernel_rfl
@[go_sem] theorem bytes_4 : bytesT Try.prog 4 = some 1 := by kernel_rfl
@[go_sem] theorem bytes_22 : bytesT Try.prog 22 = some 24 := by kernel_rfl
@[go_sem] theorem bytes_24 : bytesT Try.prog 24 = some 40 := by kernel_rfl
@[go_sem] theorem bytes_25 : bytesT Try.prog 25 = some 24 := by kernel_rfl
@[go_sem] theorem bytes_35 : bytesT Try.prog 35 = some 24 := by kernel_rfl
@[go_sem] theorem bytes_36 : bytesT Try.prog 36 = some 8 := by kernel_rfl
@[go_sem] theorem bytes_38 : bytesT Try.prog 38 = some 32 := by kernel_rfl
@[go_sem] theorem bytes_47 : bytesT Try.prog 47 = some 24 := by kernel_rfl
@[go_sem] theorem agg_2 : aggT Try.prog 2 = some false := by kernel_rfl
@[go_sem] theorem agg_3 : aggT Try.prog 3 = some false := by kernel_rfl
@[go_sem] theorem agg_4 : aggT Try.prog 4 = some false := by kernel_rfl
@[go_sem] theorem agg_22 : aggT Try.prog 22 = some false := by kernel_rfl
@[go_sem] theorem agg_24 : aggT Try.prog 24 = some true := by kernel_rfl
@[go_sem] theorem agg_25 : aggT Try.prog 25 = some false := by kernel_rfl
@[go_sem] theorem agg_35 : aggT Try.prog 35 = some false := by kernel_rfl
@[go_sem] theorem agg_36 : aggT Try.prog 36 = some false := by kernel_rfl
@[go_sem] theorem agg_38 : aggT Try.prog 38 = some true := by kernel_rfl
@[go_sem] theorem agg_47 : aggT Try.prog 47 = some false := by kernel_rfl
@[go_sem] theorem zero_2 : zeroT Try.prog 2 = some (.int .i64 0) := by kernel_rfl
@[go_sem] theorem zero_3 : zeroT Try.prog 3 = some (.int .i64 0) := by kernel_rfl
@[go_sem] theorem zero_4 : zeroT Try.prog 4 = some (.bool false) := by kernel_rfl
@[go_sem] theorem zero_22 : zeroT Try.prog 22 = some (.vs [] .nil) := by kernel_rfl
@[go_sem] theorem zero_24 : zeroT Try.prog 24 = some (.agg [(.int .i64 0), (.int .i64 0), (.vs [] .nil)]) := by kernel_rfl
@[go_sem] theorem zero_25 : zeroT Try.prog 25 = some (.vs [] .nil) := by kernel_rfl
@[go_sem] theorem zero_35 : zeroT Try.prog 35 = some (.vs [] .nil) := by kernel_rfl
@[go_sem] theorem zero_36 : zeroT Try.prog 36 = some .nilptr := by kernel_rfl
@[go_sem] theorem zero_38 : zeroT Try.prog 38 = some (.agg [(.vs [] .nil), (.int .i64 0)]) := by kernel_rfl
@[go_sem] theorem zero_47 : zeroT Try.prog 47 = some (.vs [] .nil) := by kernel_rfl
theorem sl_22 : SlT Try.prog 22 3 1 8 (.int .i64 0) := ⟨Try.underlying22, size_3, bytes_3, zero_3, rfl, by decide⟩
@[go_sem] theorem make_22 {S : St} {k k' : IntKind} {n c : Int} (h1 : 0 ≤ n) (h2 : n ≤ c) (h3 : c * 8 ≤ 211106232532992) (h4 : c < 9223372036854775808) : makeSliceP Try.prog S 22 (.int k n) (.int k' c) = some (.rs S.length 0 n.toNat 1, S ++ [.cells 1 (List.replicate n.toNat (.int .i64 0))]) := make_sl sl_22 h1 h2 h3 h4
@[go_sem] theorem build_22 {S : St} {mt : Bool} {n : Nat} {ps : List (Nat × AV)} (h : n ≤ 16) : buildSliceP Try.prog mt S 22 n ps = (fillRow 1 ps (List.replicate n (.int .i64 0))).bind fun es => if mt then some (.rs S.length 0 n 1, S ++ [.cells 1 es]) else some (.vs (es.map AV.weak) .exact, S) := build_sl sl_22 h
@[go_sem] theorem cut_22_h {b off len : Nat} {k : IntKind} {n : Int} (h1 : 0 ≤ n) (h2 : n ≤ len) : sliceP Try.prog 22 (.rs b off len 1) none (some (.int k n)) none = some (.rs b off n.toNat 1) := by rw [slice_rs sl_22 rfl (optNat_int h1) (by omega)]; rfl
@[go_sem] theorem cut_22_l {b off len : Nat} {k : IntKind} {n : Int} (h1 : 0 ≤ n) (h2 : n ≤ len) : sliceP Try.prog 22 (.rs b off len 1) (some (.int k n)) none none = some (.rs b (off + n.toNat) (len - n.toNat) 1) := slice_rs sl_22 (optNat_int h1) rfl (by omega)
theorem sl_25 : SlT Try.prog 25 24 3 40 (.agg [(.int .i64 0), (.int .i64 0), (.vs [] .nil)]) := ⟨Try.underlying25, size_24, bytes_24, zero_24, rfl, by decide⟩
@[go_sem] theorem make_25 {S : St} {k k' : IntKind} {n c : Int} (h1 : 0 ≤ n) (h2 : n ≤ c) (h3 : c * 40 ≤ 211106232532992) (h4 : c < 9223372036854775808) : makeSliceP Try.prog S 25 (.int k n) (.int k' c) = some (.rs S.length 0 n.toNat 3, S ++ [.cells 3 (List.replicate n.toNat (.agg [(.int .i64 0), (.int .i64 0), (.vs [] .nil)]))]) := make_sl sl_25 h1 h2 h3 h4
@[go_sem] theorem build_25 {S : St} {mt : Bool} {n : Nat} {ps : List (Nat × AV)} (h : n ≤ 16) : buildSliceP Try.prog mt S 25 n ps = (fillRow 3 ps (List.replicate n (.agg [(.int .i64 0), (.int .i64 0), (.vs [] .nil)]))).bind fun es => if mt then some (.rs S.length 0 n 3, S ++ [.cells 3 es]) else some (.vs (es.map AV.weak) .exact, S) := build_sl sl_25 h
@[go_sem] theorem cut_25_h {b off len : Nat} {k : IntKind} {n : Int} (h1 : 0 ≤ n) (h2 : n ≤ len) : sliceP Try.prog 25 (.rs b off len 3) none (some (.int k n)) none = some (.rs b off n.toNat 3) := by rw [slice_rs sl_25 rfl (optNat_int h1) (by omega)]; rfl
@[go_sem] theorem cut_25_l {b off len : Nat} {k : IntKind} {n : Int} (h1 : 0 ≤ n) (h2 : n ≤ len) : sliceP Try.prog 25 (.rs b off len 3) (some (.int k n)) none none = some (.rs b (off + n.toNat) (len - n.toNat) 3) := slice_rs sl_25 (optNat_int h1) rfl (by omega)
theorem sl_35 : SlT Try.prog 35 4 1 1 (.bool false) := ⟨Try.underlying35, size_4, bytes_4, zero_4, rfl, by decide⟩
@[go_sem] theorem make_35 {S : St} {k k' : IntKind} {n c : Int} (h1 : 0 ≤ n) (h2 : n ≤ c) (h3 : c * 1 ≤ 211106232532992) (h4 : c < 9223372036854775808) : makeSliceP Try.prog S 35 (.int k n) (.int k' c) = some (.rs S.length 0 n.toNat 1, S ++ [.cells 1 (List.replicate n.toNat (.bool false))]) := make_sl sl_35 h1 h2 h3 h4
@[go_sem] theorem build_35 {S : St} {mt : Bool} {n : Nat} {ps : List (Nat × AV)} (h : n ≤ 16) : buildSliceP Try.prog mt S 35 n ps = (fillRow 1 ps (List.replicate n (.bool false))).bind fun es => if mt then some (.rs S.length 0 n 1, S ++ [.cells 1 es]) else some (.vs (es.map AV.weak) .exact, S) := build_sl sl_35 h
@[go_sem] theorem cut_35_h {b off len : Nat} {k : IntKind} {n : Int} (h1 : 0 ≤ n) (h2 : n ≤ len) : sliceP Try.prog 35 (.rs b off len 1) none (some (.int k n)) none = some (.rs b off n.toNat 1) := by rw [slice_rs sl_35 rfl (optNat_int h1) (by omega)]; rfl
@[go_sem] theorem cut_35_l {b off len : Nat} {k : IntKind} {n : Int} (h1 : 0 ≤ n) (h2 : n ≤ len) : sliceP Try.prog 35 (.rs b off len 1) (some (.int k n)) none none = some (.rs b (off + n.toNat) (len - n.toNat) 1) := slice_rs sl_35 (optNat_int h1) rfl (by omega)
theorem sl_47 : SlT Try.prog 47 2 1 8 (.int .i64 0) := ⟨Try.underlying47, size_2, bytes_2, zero_2, rfl, by decide⟩
@[go_sem] theorem make_47 {S : St} {k k' : IntKind} {n c : Int} (h1 : 0 ≤ n) (h2 : n ≤ c) (h3 : c * 8 ≤ 211106232532992) (h4 : c < 9223372036854775808) : makeSliceP Try.prog S 47 (.int k n) (.int k' c) = some (.rs S.length 0 n.toNat 1, S ++ [.cells 1 (List.replicate n.toNat (.int .i64 0))]) := make_sl sl_47 h1 h2 h3 h4
@[go_sem] theorem build_47 {S : St} {mt : Bool} {n : Nat} {ps : List (Nat × AV)} (h : n ≤ 16) : buildSliceP Try.prog mt S 47 n ps = (fillRow 1 ps (List.replicate n (.int .i64 0))).bind fun es => if mt then some (.rs S.length 0 n 1, S ++ [.cells 1 es]) else some (.vs (es.map AV.weak) .exact, S) := build_sl sl_47 h
@[go_sem] theorem cut_47_h {b off len : Nat} {k : IntKind} {n : Int} (h1 : 0 ≤ n) (h2 : n ≤ len) : sliceP Try.prog 47 (.rs b off len 1) none (some (.int k n)) none = some (.rs b off n.toNat 1) := by rw [slice_rs sl_47 rfl (optNat_int h1) (by omega)]; rfl
@[go_sem] theorem cut_47_l {b off len : Nat} {k : IntKind} {n : Int} (h1 : 0 ≤ n) (h2 : n ≤ len) : sliceP Try.prog 47 (.rs b off len 1) (some (.int k n)) none none = some (.rs b (off + n.toNat) (len - n.toNat) 1) := slice_rs sl_47 (optNat_int h1) rfl (by omega)
@[go_sem] theorem fa_24_0_v {cs : List AV} : fieldAddrP Try.prog 24 (.pv cs) 0 = some (.pv (cs.drop 0)) := by kernel_rfl
@[go_sem] theorem fa_24_0_p {b i o : Nat} : fieldAddrP Try.prog 24 (.ptr b i o) 0 = some (.ptr b i (o + 0)) := by kernel_rfl
@[go_sem] theorem fi_24_0 {cs : List AV} : fieldP Try.prog 24 (.agg cs) 0 = take1 Try.prog 3 (cs.drop 0) := by kernel_rfl
@[go_sem] theorem fa_24_1_v {cs : List AV} : fieldAddrP Try.prog 24 (.pv cs) 1 = some (.pv (cs.drop 1)) := by kernel_rfl
@[go_sem] theorem fa_24_1_p {b i o : Nat} : fieldAddrP Try.prog 24 (.ptr b i o) 1 = some (.ptr b i (o + 1)) := by kernel_rfl
@[go_sem] theorem fi_24_1 {cs : List AV} : fieldP Try.prog 24 (.agg cs) 1 = take1 Try.prog 2 (cs.drop 1) := by kernel_rfl
@[go_sem] theorem fa_24_2_v {cs : List AV} : fieldAddrP Try.prog 24 (.pv cs) 2 = some (.pv (cs.drop 2)) := by kernel_rfl
@[go_sem] theorem fa_24_2_p {b i o : Nat} : fieldAddrP Try.prog 24 (.ptr b i o) 2 = some (.ptr b i (o + 2)) := by kernel_rfl
@[go_sem] theorem fi_24_2 {cs : List AV} : fieldP Try.prog 24 (.agg cs) 2 = take1 Try.prog 22 (cs.drop 2) := by kernel_rfl
@[go_sem] theorem fa_38_0_v {cs : List AV} : fieldAddrP Try.prog 38 (.pv cs) 0 = some (.pv (cs.drop 0)) := by kernel_rfl
@[go_sem] theorem fa_38_0_p {b i o : Nat} : fieldAddrP Try.prog 38 (.ptr b i o) 0 = some (.ptr b i (o + 0)) := by kernel_rfl
@[go_sem] theorem fi_38_0 {cs : List AV} : fieldP Try.prog 38 (.agg cs) 0 = take1 Try.prog 22 (cs.drop 0) := by kernel_rfl
@[go_sem] theorem fa_38_1_v {cs : List AV} : fieldAddrP Try.prog 38 (.pv cs) 1 = some (.pv (cs.drop 1)) := by kernel_rfl
@[go_sem] theorem fa_38_1_p {b i o : Nat} : fieldAddrP Try.prog 38 (.ptr b i o) 1 = some (.ptr b i (o + 1)) := by kernel_rfl
@[go_sem] theorem fi_38_1 {cs : List AV} : fieldP Try.prog 38 (.agg cs) 1 = take1 Try.prog 3 (cs.drop 1) := by kernel_rfl
theorem al_24 {S : St} : allocP Try.prog S 24 = some (.ptr S.length 0 0, S ++ [.cells 3 [(.agg [(.int .i64 0), (.int .i64 0), (.vs [] .nil)])]]) := by kernel_rfl
@[go_sem] theorem bp_24 {ps : List (Nat × AV)} : buildP Try.prog 24 ps = (buildQ Try.prog 24 ps [(.int .i64 0), (.int .i64 0), (.vs [] .nil)]).map .agg := by kernel_rfl
@[go_sem] theorem bq_24 {cs : List AV} : buildQ Try.prog 24 [] cs = some cs := by kernel_rfl
@[go_sem] theorem bq_24_0 {v : AV} {r : List (Nat × AV)} {cs : List AV} : buildQ Try.prog 24 ((0, v) :: r) cs = if v.cells.length = 1 ∧ 0 + 1 ≤ cs.length then buildQ Try.prog 24 r (splice cs 0 v.cells) else none := by kernel_rfl
@[go_sem] theorem bq_24_1 {v : AV} {r : List (Nat × AV)} {cs : List AV} : buildQ Try.prog 24 ((1, v) :: r) cs = if v.cells.length = 1 ∧ 1 + 1 ≤ cs.length then buildQ Try.prog 24 r (splice cs 1 v.cells) else none := by kernel_rfl
@[go_sem] theorem bq_24_2 {v : AV} {r : List (Nat × AV)} {cs : List AV} : buildQ Try.prog 24 ((2, v) :: r) cs = if v.cells.length = 1 ∧ 2 + 1 ≤ cs.length then buildQ Try.prog 24 r (splice cs 2 v.cells) else none := by kernel_rfl
theorem al_38 {S : St} : allocP Try.prog S 38 = some (.ptr S.length 0 0, S ++ [.cells 2 [(.agg [(.vs [] .nil), (.int .i64 0)])]]) := by kernel_rfl
@[go_sem] theorem bp_38 {ps : List (Nat × AV)} : buildP Try.prog 38 ps = (buildQ Try.prog 38 ps [(.vs [] .nil), (.int .i64 0)]).map .agg := by kernel_rfl
@[go_sem] theorem bq_38 {cs : List AV} : buildQ Try.prog 38 [] cs = some cs := by kernel_rfl
@[go_sem] theorem bq_38_0 {v : AV} {r : List (Nat × AV)} {cs : List AV} : buildQ Try.prog 38 ((0, v) :: r) cs = if v.cells.length = 1 ∧ 0 + 1 ≤ cs.length then buildQ Try.prog 38 r (splice cs 0 v.cells) else none := by kernel_rfl
@[go_sem] theorem bq_38_1 {v : AV} {r : List (Nat × AV)} {cs : List AV} : buildQ Try.prog 38 ((1, v) :: r) cs = if v.cells.length = 1 ∧ 1 + 1 ≤ cs.length then buildQ Try.prog 38 r (splice cs 1 v.cells) else none := by kernel_rfl
theorem hint_3 : HA 3 = ⟨upto 2 [], [], [], []⟩ := by kernel_rfl
theorem hint_4 : HA 4 = ⟨upto 15 [], [], [], [(0, [2, 3, 4, 11, 12, 13])]⟩ := by kernel_rfl
theorem hint_5 : HA 5 = ⟨upto 16 [], [], [], [(2, [2, 7, 8, 9, 11]), (0, [1, 2, 7, 8, 9, 10])]⟩ := by kernel_rfl
theorem hint_6 : HA 6 = ⟨upto 9 [], [(2, 0)], [], [(0, [0, 5, 6, 7])]⟩ := by kernel_rfl
theorem hint_7 : HA 7 = ⟨upto 5 [], [], [], []⟩ := by kernel_rfl
theorem hint_8 : HA 8 = ⟨upto 10 [31], [(1, 2), (6, 3)], [(21, 1), (26, 2), (27, 1)], []⟩ := by kernel_rfl
theorem hint_9 : HA 9 = ⟨upto 12 [], [(5, 17)], [], [(2, [0, 1, 5, 6, 7, 8, 9, 11]), (0, [0, 1, 5, 6])]⟩ := by kernel_rfl
theorem hint_10 : HA 10 = ⟨upto 2 [4], [], [], []⟩ := by kernel_rfl
theorem hint_11 : HA 11 = ⟨upto 5 [], [], [], []⟩ := by kernel_rfl
theorem hint_12 : HA 12 = ⟨upto 9 [], [], [], [(2, [0, 5, 7, 8]), (0, [0, 1, 5, 6])]⟩ := by kernel_rfl
theorem hint_13 : HA 13 = ⟨upto 7 [], [], [], []⟩ := by kernel_rfl
theorem hint_14 : HA 14 = ⟨upto 4 [], [], [], []⟩ := by kernel_rfl
theorem hint_15 : HA 15 = ⟨upto 10 [], [], [], [(0, [0, 1, 2, 7, 8, 9])]⟩ := by kernel_rfl
theorem hint_16 : HA 16 = ⟨upto 2 [4], [], [], []⟩ := by kernel_rfl
theorem hint_17 : HA 17 = ⟨upto 4 [], [], [], []⟩ := by kernel_rfl
theorem hint_18 : HA 18 = ⟨upto 6 [], [], [], [(0, [0, 3, 5])]⟩ := by kernel_rfl
theorem hint_19 : HA 19 = ⟨upto 2 [4], [], [], []⟩ := by kernel_rfl
theorem hint_20 : HA 20 = ⟨upto 8 [], [], [], [(4, [0, 1, 4, 5, 6]), (2, [0, 1, 4, 5]), (0, [0, 1, 4])]⟩ := by kernel_rfl
theorem hint_21 : HA 21 = ⟨upto 9 [], [], [], [(2, [0, 3, 4, 5, 6, 7]), (0, [0, 3, 4])]⟩ := by kernel_rfl
theorem hint_22 : HA 22 = ⟨upto 3 [], [], [], []⟩ := by kernel_rfl
theorem hint_23 : HA 23 = ⟨upto 6 [], [], [], [(0, [2, 3, 5])]⟩ := by kernel_rfl
theorem hint_24 : HA 24 = ⟨upto 10 [38], [], [], []⟩ := by kernel_rfl
theorem hint_25 : HA 25 = ⟨upto 6 [], [], [], []⟩ := by kernel_rfl
theorem hint_26 : HA 26 = ⟨upto 2 [4], [], [], []⟩ := by kernel_rfl
theorem hint_27 : HA 27 = ⟨upto 4 [], [], [], [(0, [0, 3])]⟩ := by kernel_rfl
theorem hint_28 : HA 28 = ⟨upto 4 [], [], [], []⟩ := by kernel_rfl

end Go.Proofs.Ytmicmlcfbmphfaa

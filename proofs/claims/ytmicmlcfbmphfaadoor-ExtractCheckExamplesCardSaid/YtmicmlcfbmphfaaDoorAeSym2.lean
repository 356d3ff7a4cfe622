/- Rules by which the interpreter runs over values that are not known: what the operations come to.
   No conditions beyond those of each lemma. -/
import Derived.Test.YtmicmlcfbmphfaaDoorAeSym
set_option linter.unusedSimpArgs false
set_option linter.unusedVariables false
set_option linter.unnecessarySimpa false
namespace Go.Proofs.YtmicmlcfbmphfaaDoor.Ae
open Go

@[go_sem] theorem cells_int {k : IntKind} {n : Int} : (AV.int k n).cells = [.int k n] := rfl
@[go_sem] theorem cells_bool {b : Bool} : (AV.bool b).cells = [.bool b] := rfl
@[go_sem] theorem cells_str {s : List UInt8} : (AV.str s).cells = [.str s] := rfl
@[go_sem] theorem cells_ptr {b i o : Nat} : (AV.ptr b i o).cells = [.ptr b i o] := rfl
@[go_sem] theorem cells_aptr {b i o z : Nat} : (AV.aptr b i o z).cells = [.aptr b i o z] := rfl
@[go_sem] theorem cells_nilptr : AV.nilptr.cells = [.nilptr] := rfl
@[go_sem] theorem cells_pv {cs : List AV} : (AV.pv cs).cells = [.pv cs] := rfl
@[go_sem] theorem cells_vs {cs : List AV} {tk : Tk} : (AV.vs cs tk).cells = [.vs cs tk] := rfl
@[go_sem] theorem cells_rs {b o l z : Nat} : (AV.rs b o l z).cells = [.rs b o l z] := rfl
@[go_sem] theorem cells_map {b : Nat} : (AV.map b).cells = [.map b] := rfl
@[go_sem] theorem cells_nilmap : AV.nilmap.cells = [.nilmap] := rfl
@[go_sem] theorem cells_func {f : Nat} {a c : List AV} : (AV.func f a c).cells = [.func f a c] := rfl
@[go_sem] theorem cells_nilfunc : AV.nilfunc.cells = [.nilfunc] := rfl
@[go_sem] theorem cells_agg {cs : List AV} : (AV.agg cs).cells = cs := rfl

@[go_sem] theorem noTup_int {k : IntKind} {n : Int} : (AV.int k n).noTup = true := rfl
@[go_sem] theorem noTup_bool {b : Bool} : (AV.bool b).noTup = true := rfl
@[go_sem] theorem noTup_str {s : List UInt8} : (AV.str s).noTup = true := rfl
@[go_sem] theorem noTup_ptr {b i o : Nat} : (AV.ptr b i o).noTup = true := rfl
@[go_sem] theorem noTup_aptr {b i o z : Nat} : (AV.aptr b i o z).noTup = true := rfl
@[go_sem] theorem noTup_nilptr : AV.nilptr.noTup = true := rfl
@[go_sem] theorem noTup_pv {cs : List AV} : (AV.pv cs).noTup = true := rfl
@[go_sem] theorem noTup_vs {cs : List AV} {tk : Tk} : (AV.vs cs tk).noTup = true := rfl
@[go_sem] theorem noTup_rs {b o l z : Nat} : (AV.rs b o l z).noTup = true := rfl
@[go_sem] theorem noTup_map {b : Nat} : (AV.map b).noTup = true := rfl
@[go_sem] theorem noTup_nilmap : AV.nilmap.noTup = true := rfl
@[go_sem] theorem noTup_func {f : Nat} {a c : List AV} : (AV.func f a c).noTup = true := rfl
@[go_sem] theorem noTup_nilfunc : AV.nilfunc.noTup = true := rfl
@[go_sem] theorem noTup_agg {cs : List AV} : (AV.agg cs).noTup = true := rfl

@[go_sem] theorem weak1_int {k : IntKind} {n : Int} : (AV.int k n).weak1 = .int k n := rfl
@[go_sem] theorem weak1_bool {b : Bool} : (AV.bool b).weak1 = .bool b := rfl
@[go_sem] theorem weak1_str {s : List UInt8} : (AV.str s).weak1 = .str s := rfl
@[go_sem] theorem weak1_ptr {b i o : Nat} : (AV.ptr b i o).weak1 = .ptr b i o := rfl
@[go_sem] theorem weak1_pv {cs : List AV} : (AV.pv cs).weak1 = .pv cs := rfl
@[go_sem] theorem weak1_vs {cs : List AV} {tk : Tk} : (AV.vs cs tk).weak1 = .vs cs .dead := rfl
@[go_sem] theorem weak1_rs {b o l z : Nat} : (AV.rs b o l z).weak1 = .rs b o l z := rfl
@[go_sem] theorem weak_int {k : IntKind} {n : Int} : (AV.int k n).weak = .int k n := rfl
@[go_sem] theorem weak_bool {b : Bool} : (AV.bool b).weak = .bool b := rfl
@[go_sem] theorem weak_str {s : List UInt8} : (AV.str s).weak = .str s := rfl
@[go_sem] theorem weak_ptr {b i o : Nat} : (AV.ptr b i o).weak = .ptr b i o := rfl
@[go_sem] theorem weak_pv {cs : List AV} : (AV.pv cs).weak = .pv cs := rfl
@[go_sem] theorem weak_vs {cs : List AV} {tk : Tk} : (AV.vs cs tk).weak = .vs cs .dead := rfl
@[go_sem] theorem weak_rs {b o l z : Nat} : (AV.rs b o l z).weak = .rs b o l z := rfl
@[go_sem] theorem weak_agg {cs : List AV} : (AV.agg cs).weak = .agg (cs.map AV.weak1) := rfl

attribute [go_sem] List.toList_toArray List.map_cons List.map_nil List.length_cons List.length_nil List.getElem?_map List.length_map List.zip_cons_cons List.zip_nil_left List.zip_nil_right List.all_cons List.all_nil
  List.nil_append List.cons_append List.append_nil Bool.and_self Bool.and_true Bool.true_and List.head?_cons List.head?_nil Option.toList_some Option.toList_none Int.toNat_natCast
  List.drop_zero List.drop_succ_cons List.drop_nil List.take_zero List.take_succ_cons List.take_nil if_true if_false List.getElem?_cons_zero List.getElem?_cons_succ List.getElem?_nil
  Bool.false_eq_true decide_true decide_false ite_true ite_false reduceCtorEq

@[go_sem] theorem nonNil_ptr {b i o : Nat} : nonNil (.ptr b i o) = some (.ptr b i o) := rfl
@[go_sem] theorem nonNil_pv {cs : List AV} : nonNil (.pv cs) = some (.pv cs) := rfl
@[go_sem] theorem nonNil_aptr {b i o z : Nat} : nonNil (.aptr b i o z) = some (.aptr b i o z) := rfl
@[go_sem] theorem nonNil_func {f : Nat} {a c : List AV} : nonNil (.func f a c) = some (.func f a c) := rfl
section
variable {P : Program} {gl : Gl} {S : St} {t : TypeId}

theorem sizeT_of {i : TypeInfo} (h : P.info? t = some i) : sizeT P t = some i.size := by simp [sizeT, h]
theorem bytesT_of {i : TypeInfo} (h : P.info? t = some i) : bytesT P t = some i.bytes := by simp [bytesT, h]

-- integers
theorem bin_op {op : BinOp} {k : IntKind} {a b : Int} (h1 : op ≠ .shl) (h2 : op ≠ .shr) : binP P op t (.int k a) (.int k b) = intBin op k a b := by
  unfold binP
  cases op <;> simp_all
@[go_sem] theorem bin_add {k : IntKind} {a b : Int} : binP P .add t (.int k a) (.int k b) = some (.int k (k.wrap (a + b))) := by rw [bin_op (by simp) (by simp)]; rfl
@[go_sem] theorem bin_sub {k : IntKind} {a b : Int} : binP P .sub t (.int k a) (.int k b) = some (.int k (k.wrap (a - b))) := by rw [bin_op (by simp) (by simp)]; rfl
@[go_sem] theorem bin_mul {k : IntKind} {a b : Int} : binP P .mul t (.int k a) (.int k b) = some (.int k (k.wrap (a * b))) := by rw [bin_op (by simp) (by simp)]; rfl
@[go_sem] theorem bin_quo {k : IntKind} {a b : Int} : binP P .quo t (.int k a) (.int k b) = if b = 0 then none else some (.int k (k.wrap (a.tdiv b))) := by rw [bin_op (by simp) (by simp)]; rfl
@[go_sem] theorem bin_rem {k : IntKind} {a b : Int} : binP P .rem t (.int k a) (.int k b) = if b = 0 then none else some (.int k (a.tmod b)) := by rw [bin_op (by simp) (by simp)]; rfl
@[go_sem] theorem bin_eql {k : IntKind} {a b : Int} : binP P .eql t (.int k a) (.int k b) = some (.bool (decide (a = b))) := by
  rw [bin_op (by simp) (by simp)]; simp only [intBin]; by_cases h : a = b <;> simp [h]
@[go_sem] theorem bin_neq {k : IntKind} {a b : Int} : binP P .neq t (.int k a) (.int k b) = some (.bool (!decide (a = b))) := by
  rw [bin_op (by simp) (by simp)]; simp only [intBin]; by_cases h : a = b <;> simp [h]
@[go_sem] theorem bin_lss {k : IntKind} {a b : Int} : binP P .lss t (.int k a) (.int k b) = some (.bool (decide (a < b))) := by rw [bin_op (by simp) (by simp)]; rfl
@[go_sem] theorem bin_leq {k : IntKind} {a b : Int} : binP P .leq t (.int k a) (.int k b) = some (.bool (decide (a ≤ b))) := by rw [bin_op (by simp) (by simp)]; rfl
@[go_sem] theorem bin_gtr {k : IntKind} {a b : Int} : binP P .gtr t (.int k a) (.int k b) = some (.bool (decide (b < a))) := by rw [bin_op (by simp) (by simp)]; rfl
@[go_sem] theorem bin_geq {k : IntKind} {a b : Int} : binP P .geq t (.int k a) (.int k b) = some (.bool (decide (b ≤ a))) := by rw [bin_op (by simp) (by simp)]; rfl
@[go_sem] theorem un_not {b : Bool} : unP .not (.bool b) = some (.bool (!b)) := rfl
@[go_sem] theorem un_neg {k : IntKind} {a : Int} : unP .neg (.int k a) = some (.int k (k.wrap (0 - a))) := rfl
theorem str_beq {a b : List UInt8} : (a == b) = decide (a = b) := by
  by_cases h : a = b
  · simp [h]
  · simp [h]
@[go_sem] theorem bin_seql {a b : List UInt8} : binP P .eql t (.str a) (.str b) = some (.bool (decide (a = b))) := by simp only [binP, str_beq]
@[go_sem] theorem bin_sneq {a b : List UInt8} : binP P .neq t (.str a) (.str b) = some (.bool (!decide (a = b))) := by simp only [binP, str_beq]
theorem wrap_id {x : Int} (h1 : -9223372036854775808 ≤ x) (h2 : x < 9223372036854775808) : IntKind.i64.wrap x = x := by
  simp only [IntKind.wrap, IntKind.bits, IntKind.signed, Bool.true_and, Int.reducePow, Nat.reduceSub, ge_iff_le, decide_eq_true_eq]
  split <;> omega
@[go_sem] theorem nat_lt_zero {n : Nat} : ((n : Int) < 0) = False := by simp

-- lengths
theorem len_vs {es : List AV} {tk : Tk} {e : TypeId} (h : P.underlying t = some (.slice e)) : lenP P S t (.vs es tk) = some (.int .i64 es.length) := by simp [lenP, h]
theorem len_rs {b o l z : Nat} {e : TypeId} (h : P.underlying t = some (.slice e)) : lenP P S t (.rs b o l z) = some (.int .i64 l) := by simp [lenP, h]

attribute [go_sem] lenP loadP place take1 indexAddrP indexP
end
end Go.Proofs.YtmicmlcfbmphfaaDoor.Ae

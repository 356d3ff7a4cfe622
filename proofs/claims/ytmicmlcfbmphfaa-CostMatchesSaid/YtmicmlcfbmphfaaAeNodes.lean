/- The sorts of nodes in plain Lean.
   No conditions: these are definitions. -/
import Derived.Test.YtmicmlcfbmphfaaAeGraph
set_option linter.unusedSimpArgs false
set_option linter.unusedVariables false
set_option linter.unnecessarySimpa false
namespace Go.Proofs.Ytmicmlcfbmphfaa.Ae

/-- The number of operands of an operation (-1: it varies), or nothing. -/
def arityN (op : Int) : Int × Bool :=
  if op = 1 ∨ op = 2 ∨ op = 3 ∨ op = 26 then (0, true)
  else if op = 20 ∨ op = 21 ∨ op = 24 ∨ op = 25 then (1, true)
  else if (4 ≤ op ∧ op ≤ 19) ∨ op = 23 ∨ op = 27 ∨ op = 29 then (2, true)
  else if op = 22 ∨ op = 28 then (3, true)
  else if op = 30 ∨ op = 31 then (-1, true)
  else (0, false)

def sort15N (op : Int) : Int := if op = 27 ∨ op = 28 ∨ op = 29 then 2 else 1
def opndSort (op k : Int) : Int := if k = 0 ∧ (sort15N op = 2 ∨ op = 23 ∨ op = 24) then 2 else 1

def maxImmN (op : Int) : Int :=
  if op = 2 then 5 else if op = 3 then 255 else if op = 23 ∨ op = 28 then 3 else if op = 27 then 1000016 else if op = 30 then 7 else if op = 31 then 15 else if op = 25 then 15 else -1

def validImmN (op n : Int) : Bool :=
  if op = 1 then true else if maxImmN op < 0 then decide (n = 0) else decide (0 ≤ n ∧ n ≤ maxImmN op ∧ (op ≠ 27 ∨ 0 < n))

def allVal (k : List Int) : Bool := k.all (fun x => decide (x = 1))
def sortIf (b : Bool) (n : Int) : Int := if b = true then n else 0

/-- The remainder that is not negative, and the words that the generator knows. -/
def words : List Int := [0, 1, -1, 2, -9223372036854775808, 9223372036854775807, 4294967296, -2147483648, 63, 64]
def wordN (n raw : Int) : Int :=
  if n % 24 < 10 then words.getD (n % 24).toNat 0
  else if n % 24 < 22 then (Go.IntKind.i64.wrap (n.tdiv 24)) % 17 - 6 else raw

/-- The sort of a node whose operands have the sorts k. -/
def nodeSortN (l : List GNode) (n : GNode) (k : List Int) : Int :=
  if (arityN n.op).2 = false ∨ (0 ≤ (arityN n.op).1 ∧ (n.kids.length : Int) ≠ (arityN n.op).1) ∨ validImmN n.op n.imm = false then 0
  else if n.op = 3 then (if n.imm.tmod 16 = 0 then 2 else 1)
  else if n.op = 26 then 2
  else if n.op = 22 then (if k.getD 0 default ≠ 1 ∨ k.getD 1 default ≠ k.getD 2 default ∨ k.getD 1 default = 3 then 0 else k.getD 1 default)
  else if n.op = 23 then sortIf (decide (k.getD 0 default = 2 ∧ k.getD 1 default = 1)) 1
  else if n.op = 24 then sortIf (decide (k.getD 0 default = 2)) 1
  else if n.op = 25 then (if k.getD 0 default ≠ 3 ∨ ((nodeAt l (n.kids.getD 0 default).toNat).kids.length : Int) / 2 ≤ n.imm then 0 else sortIf (decide (n.imm = 0)) 1 + 1)
  else if n.op = 27 ∨ n.op = 29 then sortIf (decide (k.getD 0 default = 2 ∧ k.getD 1 default = 1)) 2
  else if n.op = 28 then sortIf (decide (k.getD 0 default = 2 ∧ k.getD 1 default = 1 ∧ k.getD 2 default = 1)) 2
  else if n.op = 30 then sortIf (decide (1 ≤ k.length ∧ k.length ≤ 7 ∧ k.getD 0 default = 2 ∧ allVal (k.drop 1) = true)) 2
  else if n.op = 31 then sortIf (decide (k.length % 2 = 1 ∧ 1 ≤ k.length / 2 ∧ k.length / 2 ≤ 16 ∧ k.getD 0 default = 2 ∧ allVal ((k.take (k.length / 2 + 1)).drop 1) = true ∧ k.getD (k.length / 2 + 1) default = 2 ∧ allVal (k.drop (k.length / 2 + 2)) = true)) 3
  else sortIf (allVal k) 1

/-- May the operand q stand behind the sorts of out? -/
def okKid (out : List Int) (q : Int) : Bool := decide (0 ≤ q ∧ q < out.length ∧ out.getD q.toNat default ≠ 0)
/-- The sorts of the nodes, one behind the other. -/
def sortStep (l : List GNode) (out : List Int) (n : GNode) : List Int :=
  out ++ [if n.kids.all (okKid out) = true then nodeSortN l n (n.kids.map fun q => out.getD q.toNat default) else 0]
def sortsN (l : List GNode) : List Int := l.foldl (sortStep l) []

theorem costN_out {op : Int} (h : op < 1 ∨ 31 < op) : costN op = 0 := by
  unfold costN; (repeat' split) <;> omega
theorem arityN_out {op : Int} (h : op < 1 ∨ 31 < op) : arityN op = (0, false) := by
  unfold arityN; (repeat' split) <;> first | rfl | omega
theorem maxImmN_27 : maxImmN 27 = 1000016 := rfl
theorem sortsN_length {l : List GNode} : ∀ {xs : List GNode} {acc : List Int}, (xs.foldl (sortStep l) acc).length = acc.length + xs.length
  | [], acc => by simp
  | x :: xs, acc => by simp only [List.foldl_cons, sortsN_length (xs := xs), sortStep, List.length_append, List.length_cons, List.length_nil]; omega
theorem foldl_take_succ {α β : Type} [Inhabited α] {f : β → α → β} {acc : β} {xs : List α} {i : Nat} (h : i < xs.length) : (xs.take (i + 1)).foldl f acc = f ((xs.take i).foldl f acc) (xs.getD i default) := by
  rw [List.take_add_one, List.foldl_append, List.getElem?_eq_getElem h, List.getD_eq_getElem?_getD, List.getElem?_eq_getElem h]; rfl
theorem all_take_succ {p : Int → Bool} {xs : List Int} {i : Nat} (h : i < xs.length) : (xs.take (i + 1)).all p = ((xs.take i).all p && p (xs.getD i default)) := by
  rw [List.take_add_one, List.all_append, List.getElem?_eq_getElem h, List.getD_eq_getElem?_getD, List.getElem?_eq_getElem h]; simp
theorem map_take_succ {α β : Type} [Inhabited α] {f : α → β} {xs : List α} {i : Nat} (h : i < xs.length) : (xs.take (i + 1)).map f = (xs.take i).map f ++ [f (xs.getD i default)] := by
  rw [List.take_add_one, List.map_append, List.getElem?_eq_getElem h, List.getD_eq_getElem?_getD, List.getElem?_eq_getElem h]; rfl
theorem take_succ' {α : Type} [Inhabited α] {xs : List α} {i : Nat} (h : i < xs.length) : xs.take (i + 1) = xs.take i ++ [xs.getD i default] := by
  rw [List.take_add_one, List.getElem?_eq_getElem h, List.getD_eq_getElem?_getD, List.getElem?_eq_getElem h]; rfl
theorem getD_mem' {α : Type} [Inhabited α] {xs : List α} {i : Nat} (h : i < xs.length) : xs.getD i default ∈ xs := by
  rw [List.getD_eq_getElem?_getD, List.getElem?_eq_getElem h]; exact List.getElem_mem _
end Go.Proofs.Ytmicmlcfbmphfaa.Ae

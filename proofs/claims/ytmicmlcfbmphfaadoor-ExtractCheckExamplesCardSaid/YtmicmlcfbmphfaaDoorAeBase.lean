/- The abstract interpreter: it runs the model's code over values that hold slices as lists. Definitions only.
   No conditions: these are definitions. -/
import GoSem.Dispatch
import Derived.Calls
set_option linter.unusedSimpArgs false
set_option linter.unusedVariables false
set_option linter.unnecessarySimpa false
namespace Go.Proofs.YtmicmlcfbmphfaaDoor.Ae
open Go

/-- What is known of the spare places behind a slice: none at all (nil), none (a literal), nothing, or a growth right (its block). -/
inductive Tk where
  | nil | exact | dead
  | live (t : Nat)
  deriving DecidableEq, Inhabited

inductive AV where
  | int (k : IntKind) (n : Int)
  | bool (b : Bool)
  | str (s : List UInt8)
  | ptr (b i o : Nat)
  | aptr (b off n sz : Nat)
  | nilptr
  | pv (cells : List AV)
  | vs (elems : List AV) (tk : Tk)
  | rs (b off len sz : Nat)
  | map (b : Nat)
  | nilmap
  | func (f : Nat) (first captured : List AV)
  | nilfunc
  | agg (cells : List AV)
  | tuple (parts : List AV)
  deriving Inhabited

mutual
def AV.same : AV → AV → Bool
  | .int k n, .int k' n' => decide (k = k') && decide (n = n')
  | .bool b, .bool b' => decide (b = b')
  | .str s, .str s' => decide (s = s')
  | .ptr b i o, .ptr b' i' o' => decide (b = b') && decide (i = i') && decide (o = o')
  | .aptr b i n z, .aptr b' i' n' z' => decide (b = b') && decide (i = i') && decide (n = n') && decide (z = z')
  | .nilptr, .nilptr => true
  | .pv cs, .pv cs' => sameL cs cs'
  | .vs es tk, .vs es' tk' => sameL es es' && decide (tk = tk')
  | .rs b o l z, .rs b' o' l' z' => decide (b = b') && decide (o = o') && decide (l = l') && decide (z = z')
  | .map b, .map b' => decide (b = b')
  | .nilmap, .nilmap => true
  | .func f as cs, .func f' as' cs' => decide (f = f') && sameL as as' && sameL cs cs'
  | .nilfunc, .nilfunc => true
  | .agg cs, .agg cs' => sameL cs cs'
  | .tuple cs, .tuple cs' => sameL cs cs'
  | _, _ => false
def sameL : List AV → List AV → Bool
  | [], [] => true
  | a :: r, b :: s => a.same b && sameL r s
  | _, _ => false
end

def AV.cells : AV → List AV
  | .agg cs => cs
  | v => [v]

def AV.noTup : AV → Bool
  | .tuple _ => false
  | _ => true

def AV.weak1 : AV → AV
  | .vs es _ => .vs es .dead
  | v => v

def AV.weak : AV → AV
  | .agg cs => .agg (cs.map AV.weak1)
  | v => v.weak1

inductive AObj where
  | cells (sz : Nat) (elems : List AV)
  | map (ents : List (AV × AV))
  | tok
  | dead
  deriving Inhabited

abbrev St := List AObj
abbrev Env := List (Nat × AV)

def look : Env → Nat → Option AV
  | [], _ => none
  | (k, v) :: r, t => match Nat.beq k t with
    | true => some v
    | false => look r t

def put (e : Env) (t : Nat) (v : AV) : Env := (t, v) :: e

def putd (e : Env) (d : Option Nat) (v : AV) : Env :=
  match d with
  | some t => put e t v
  | none => e

def has : List Nat → Nat → Bool
  | [], _ => false
  | k :: r, t => match Nat.beq k t with
    | true => true
    | false => has r t

/-- The slots below b, and those of x. -/
def upto : Nat → List Nat → List Nat
  | 0, x => x
  | b + 1, x => b :: upto b x

def keepOnly (l : List Nat) : Env → Env
  | [] => []
  | (k, v) :: r => match has l k with
    | true => (k, v) :: keepOnly l r
    | false => keepOnly l r

def restrict (e : Env) : List Nat → Env
  | [] => []
  | t :: r => match look e t with
    | some v => (t, v) :: restrict e r
    | none => restrict e r

def ofVal0 : Value → Option AV
  | .int k n => some (.int k n)
  | .bool b => some (.bool b)
  | .string s => some (.str s.data.toList)
  | .pointer none => some .nilptr
  | .slice none 0 0 => some (.vs [] .nil)
  | .map none => some .nilmap
  | .nilFunc => some .nilfunc
  | _ => none

def ofVals : List Value → Option (List AV)
  | [] => some []
  | v :: r => (ofVal0 v).bind fun a => (ofVals r).bind fun as => some (a :: as)

def ofVal : Value → Option AV
  | .agg cs => (ofVals cs.toList).map .agg
  | v => ofVal0 v

/-- What a package-level variable holds, where that is known. -/
abbrev Gl := Nat → Option (List AV)

def opnd (gl : Gl) (e : Env) : Operand → Option AV
  | .tmp t => look e t
  | .const v => ofVal v
  | .func f => some (.func f [] [])
  | .global n => (gl n).map .pv

def opnds (gl : Gl) (e : Env) : List Operand → Option (List AV)
  | [] => some []
  | x :: r => (opnd gl e x).bind fun a => (opnds gl e r).bind fun as => some (a :: as)

def sizeT (P : Program) (t : TypeId) : Option Nat := (P.info? t).map (·.size)
def bytesT (P : Program) (t : TypeId) : Option Nat := (P.info? t).map (·.bytes)
def zeroT (P : Program) (t : TypeId) : Option AV := ((P.info? t).bind (·.zero)).bind ofVal

def aggT (P : Program) (t : TypeId) : Option Bool :=
  match P.underlying t with
  | some (.struct _) => some true
  | some (.array _ _) => some true
  | some _ => some false
  | none => none

/-- The cells from a place on, within its element. -/
def place (S : St) : AV → Option (List AV)
  | .pv cs => some cs
  | .ptr b i o =>
    match S[b]? with
    | some (.cells _ es) => (es[i]?).map fun e => e.cells.drop o
    | _ => none
  | .aptr b off _ _ =>
    match S[b]? with
    | some (.cells _ es) => if off ≤ es.length then some ((es.drop off).flatMap AV.cells) else none
    | _ => none
  | _ => none

/-- A part of a row of cells, as a value of type t. -/
def take1 (P : Program) (t : TypeId) (cs : List AV) : Option AV :=
  (aggT P t).bind fun
    | true => (sizeT P t).bind fun n => if n ≤ cs.length then some (.agg (cs.take n)) else none
    | false => cs[0]?

def loadP (P : Program) (S : St) (t : TypeId) (p : AV) : Option AV := (place S p).bind (take1 P t)

def mkElem (e : AV) (cs : List AV) : AV :=
  match e with
  | .agg _ => .agg cs
  | _ => match cs with
    | [c] => c
    | cs => .agg cs

def splice (xs : List AV) (o : Nat) (ys : List AV) : List AV := xs.take o ++ ys ++ xs.drop (o + ys.length)

def storeP (P : Program) (S : St) (t : TypeId) (p v : AV) : Option St :=
  match p with
  | .ptr b i o =>
    match S[b]? with
    | some (.cells sz es) =>
      (es[i]?).bind fun e => (sizeT P t).bind fun n =>
        if v.cells.length = n ∧ o + n ≤ e.cells.length then some (S.set b (.cells sz (es.set i (mkElem e (splice e.cells o v.cells))))) else none
    | _ => none
  | .aptr b off _ _ =>
    match S[b]? with
    | some (.cells sz es) =>
      (sizeT P t).bind fun n => if sz = 1 ∧ v.cells.length = n ∧ off + n ≤ es.length then some (S.set b (.cells 1 (splice es off v.cells))) else none
    | _ => none
  | _ => none

def newBlk (S : St) (o : AObj) : Nat × St := (S.length, S ++ [o])

/-- A new variable. An array of one-cell elements is laid out as a row of its elements. -/
def allocP (P : Program) (S : St) (t : TypeId) : Option (AV × St) :=
  (zeroT P t).bind fun z =>
  match P.underlying t with
  | some (.array n e) => (sizeT P e).bind fun sz =>
      if sz = 1 ∧ z.cells.length = n ∧ 0 < n then some (.aptr S.length 0 n 1, S ++ [.cells 1 z.cells])
      else some (.ptr S.length 0 0, S ++ [.cells z.cells.length [z]])
  | some _ => some (.ptr S.length 0 0, S ++ [.cells z.cells.length [z]])
  | none => none

def fieldOf (P : Program) (s : TypeId) (f : Nat) : Option Field :=
  match P.underlying s with
  | some (.struct fs) => fs[f]?
  | _ => none

def fieldAddrP (P : Program) (s : TypeId) (p : AV) (f : Nat) : Option AV :=
  (fieldOf P s f).bind fun fd => (sizeT P fd.type).bind fun n =>
    if n = 0 then none else
    match p with
    | .ptr b i o => some (.ptr b i (o + fd.offset))
    | .pv cs => some (.pv (cs.drop fd.offset))
    | _ => none

def fieldP (P : Program) (s : TypeId) (x : AV) (f : Nat) : Option AV :=
  (fieldOf P s f).bind fun fd =>
    match x with
    | .agg cs => take1 P fd.type (cs.drop fd.offset)
    | _ => none

def indexAddrP (P : Program) (t : TypeId) (x ix : AV) : Option AV :=
  match ix with
  | .int _ i =>
    if i < 0 then none else
    match P.underlying t with
    | some (.array n e) =>
      (sizeT P e).bind fun sz => if sz = 0 then none else
        if i.toNat < n then
          match x with
          | .ptr b j o => some (.ptr b j (o + i.toNat * sz))
          | .pv cs => some (.pv (cs.drop (i.toNat * sz)))
          | .aptr b off m asz => if i.toNat < m ∧ asz = sz then some (.ptr b (off + i.toNat) 0) else none
          | _ => none
        else none
    | some (.slice e) =>
      (sizeT P e).bind fun sz =>
      match x with
      | .vs es _ => (es[i.toNat]?).bind fun e => if e.cells.length = sz then some (.pv e.cells) else none
      | .rs b off len rsz => if i.toNat < len ∧ rsz = sz then some (.ptr b (off + i.toNat) 0) else none
      | _ => none
    | _ => none
  | _ => none

def indexP (P : Program) (t : TypeId) (x ix : AV) : Option AV :=
  match ix with
  | .int _ i =>
    if i < 0 then none else
    match P.underlying t, x with
    | some .string, .str s => (s[i.toNat]?).map fun b => .int .u8 b.toNat
    | some (.array n e), .agg cs => (sizeT P e).bind fun sz => if i.toNat < n then take1 P e (cs.drop (i.toNat * sz)) else none
    | _, _ => none
  | _ => none

def allSize (sz : Nat) : List AV → Bool
  | [] => true
  | e :: r => match Nat.beq e.cells.length sz with
    | true => allSize sz r
    | false => false

def natOf : AV → Option Nat
  | .int _ n => if n < 0 then none else some n.toNat
  | _ => none

def optNat (d : Nat) : Option AV → Option Nat
  | none => some d
  | some v => natOf v

/-- xs[l:h:m]: the growth right of the part. -/
def cutTk (tk : Tk) (l h len : Nat) (m : Option Nat) : Tk :=
  if l = h then (match tk with | .nil => .nil | _ => .dead) else
  match m with
  | some m => if h = m then .exact else .dead
  | none => if h = len then (match tk with | .exact => .exact | .live b => (if l = 0 then .live b else .dead) | _ => .dead) else .dead

def sliceP (P : Program) (t : TypeId) (x : AV) (lo hi mx : Option AV) : Option AV :=
  match P.underlying t, x with
  | some (.array tn e), .aptr b off n asz =>
    match mx with
    | some _ => none
    | none => (sizeT P e).bind fun sz => (optNat n hi).bind fun h => (optNat 0 lo).bind fun l => if l ≤ h ∧ h ≤ n ∧ asz = sz ∧ tn = n then some (.rs b (off + l) (h - l) sz) else none
  | some (.slice e), .vs es tk =>
    (sizeT P e).bind fun sz => if allSize sz es = false then none else
    (optNat es.length hi).bind fun h => (optNat 0 lo).bind fun l =>
      match mx with
      | none => if l ≤ h ∧ h ≤ es.length then some (.vs ((es.take h).drop l) (cutTk tk l h es.length none)) else none
      | some mv => (natOf mv).bind fun m => if l ≤ h ∧ h ≤ m ∧ m ≤ es.length ∧ hi.isSome = true then some (.vs ((es.take h).drop l) (cutTk tk l h es.length (some m))) else none
  | some (.slice e), .rs b off len rsz =>
    match mx with
    | some _ => none
    | none => (sizeT P e).bind fun sz => (optNat len hi).bind fun h => (optNat 0 lo).bind fun l => if l ≤ h ∧ h ≤ len ∧ rsz = sz then some (.rs b (off + l) (h - l) sz) else none
  | some .string, .str s =>
    match mx with
    | some _ => none
    | none => (optNat s.length hi).bind fun h => (optNat 0 lo).bind fun l => if l ≤ h ∧ h ≤ s.length then some (.str ((s.take h).drop l)) else none
  | _, _ => none

/-- The elements that a slice or a string lends to append and copy. -/
def elemsOf (S : St) : AV → Option (List AV)
  | .vs es _ => some es
  | .rs b off len _ =>
    match S[b]? with
    | some (.cells _ es) => if off + len ≤ es.length then some ((es.drop off).take len) else none
    | _ => none
  | .str s => some (s.map fun b => .int .u8 b.toNat)
  | _ => none

/-- What memory bears: a little less than what append can ask for. -/
def roomOk (n bytes : Nat) : Bool := n * bytes ≤ 211106232532992 && bytes ≤ 1048576

def growV (S : St) (es new : List AV) : AV × St := (.vs (es ++ new) (.live S.length), S ++ [.tok])

/-- append: `mt`: what it makes of a slice without elements of its own is a row that may be written. -/
def appendP (P : Program) (mt : Bool) (S : St) (t : TypeId) (s x : AV) : Option (AV × St) :=
  match P.underlying t with
  | some (.slice e) =>
    (sizeT P e).bind fun sz => (bytesT P e).bind fun bytes => (zeroT P e).bind fun z => (elemsOf S x).bind fun new =>
    if allSize sz new = false ∨ z.cells.length ≠ sz ∨ sz = 0 ∨ bytes = 0 then none else
    match s with
    | .vs es tk =>
      if roomOk (es.length + new.length) bytes = false then none else
      match new with
      | [] => some (.vs es tk, S)
      | n :: r =>
        if allSize sz es = false then none else
        let ws := (n :: r).map AV.weak
        match tk with
        | .live b =>
          match S[b]? with
          | some .tok => some (growV (S.set b .dead) es ws)
          | _ => none
        | .dead => none
        | _ => if mt then some (.rs S.length 0 (es.length + (n :: r).length) sz, S ++ [.cells sz (es ++ (n :: r))]) else some (growV S es ws)
    | .rs b off len rsz =>
      if roomOk (len + new.length) bytes = false then none else
      match new with
      | [] => some (.rs b off len rsz, S)
      | n :: r =>
        match S[b]? with
        | some (.cells bsz bes) =>
          if bsz = sz ∧ rsz = sz ∧ off + len ≤ bes.length then
            some (.rs S.length 0 (len + (n :: r).length) sz, S.set b .dead ++ [.cells sz ((bes.drop off).take len ++ (n :: r))])
          else none
        | _ => none
    | _ => none
  | _ => none

def buildS (P : Program) (fs : Array Field) : List (Nat × AV) → List AV → Option (List AV)
  | [], cs => some cs
  | (i, v) :: r, cs => (fs[i]?).bind fun f => (sizeT P f.type).bind fun n =>
    if v.cells.length = n ∧ f.offset + n ≤ cs.length then buildS P fs r (splice cs f.offset v.cells) else none

def buildA (sz : Nat) : List (Nat × AV) → List AV → Option (List AV)
  | [], cs => some cs
  | (i, v) :: r, cs => if v.cells.length = sz ∧ i * sz + sz ≤ cs.length then buildA sz r (splice cs (i * sz) v.cells) else none

def buildP (P : Program) (t : TypeId) (parts : List (Nat × AV)) : Option AV :=
  (zeroT P t).bind fun z =>
    match P.underlying t with
    | some (.struct fs) => if fs.toList.all (fun f => (sizeT P f.type).isSome) then (buildS P fs parts z.cells).map .agg else none
    | some (.array _ e) => (sizeT P e).bind fun sz => (buildA sz parts z.cells).map .agg
    | _ => none

def fillRow (sz : Nat) : List (Nat × AV) → List AV → Option (List AV)
  | [], es => some es
  | (i, v) :: r, es => if v.cells.length = sz ∧ i < es.length then fillRow sz r (es.set i v) else none

def buildSliceP (P : Program) (mt : Bool) (S : St) (t : TypeId) (len : Nat) (parts : List (Nat × AV)) : Option (AV × St) :=
  match P.underlying t with
  | some (.slice e) =>
    (sizeT P e).bind fun sz => (zeroT P e).bind fun z =>
      if z.cells.length = sz ∧ 0 < sz ∧ len * sz ≤ 16777216 then
        (fillRow sz parts (List.replicate len z)).bind fun es =>
          if mt then some (.rs S.length 0 len sz, S ++ [.cells sz es]) else some (.vs (es.map AV.weak) .exact, S)
      else none
  | _ => none

def makeSliceP (P : Program) (S : St) (t : TypeId) (len cap : AV) : Option (AV × St) :=
  match P.underlying t with
  | some (.slice e) =>
    (sizeT P e).bind fun sz => (bytesT P e).bind fun bytes => (zeroT P e).bind fun z => (natOf len).bind fun n => (natOf cap).bind fun c =>
      if z.cells.length = sz ∧ 0 < sz ∧ n ≤ c ∧ roomOk c bytes = true ∧ c < 9223372036854775808 then some (.rs S.length 0 n sz, S ++ [.cells sz (List.replicate n z)]) else none
  | _ => none

def keyEq : AV → AV → Option Bool
  | .int k a, .int k' b => if k = k' then some (a == b) else none
  | .str a, .str b => some (a == b)
  | .bool a, .bool b => some (a == b)
  | _, _ => none

def findK (k : AV) : List (AV × AV) → Nat → Option (Option (Nat × AV))
  | [], _ => some none
  | (k', v) :: r, i =>
    match keyEq k k' with
    | some true => some (some (i, v))
    | some false => findK k r (i + 1)
    | none => none

/-- The kinds of keys that are served: integers, strings, bools. -/
def keyD : TypeDesc → AV → Bool
  | .int _, .int _ _ => true
  | .string, .str _ => true
  | .bool, .bool _ => true
  | _, _ => false

def keyT (P : Program) (t : TypeId) (k : AV) : Bool :=
  match P.underlying t with
  | some d => keyD d k
  | none => false

def entsOf (S : St) : AV → Option (List (AV × AV))
  | .nilmap => some []
  | .map b =>
    match S[b]? with
    | some (.map es) => some es
    | _ => none
  | _ => none

def lookupP (P : Program) (S : St) (t : TypeId) (m k : AV) (ok : Bool) : Option AV :=
  match P.underlying t with
  | some (.map kt et) =>
    if keyT P kt k = false then none else
    (entsOf S m).bind fun es => (findK k es 0).bind fun r =>
      match r with
      | some (_, v) => some (if ok then .tuple [v.weak, .bool true] else v.weak)
      | none => (zeroT P et).map fun z => if ok then .tuple [z, .bool false] else z
  | _ => none

def mapUpdateP (P : Program) (S : St) (t : TypeId) (m k v : AV) : Option St :=
  match P.underlying t with
  | some (.map kt _) =>
    if keyT P kt k = false then none else
    match m with
    | .map b =>
      match S[b]? with
      | some (.map es) => (findK k es 0).bind fun r =>
        match r with
        | some (i, _) => some (S.set b (.map (es.set i (k, v))))
        | none => some (S.set b (.map (es ++ [(k, v)])))
      | _ => none
    | _ => none
  | _ => none

def lenP (P : Program) (S : St) (t : TypeId) (x : AV) : Option AV :=
  match P.underlying t, x with
  | some .string, .str s => some (.int .i64 s.length)
  | some (.array n _), _ => some (.int .i64 n)
  | some (.slice _), .vs es _ => some (.int .i64 es.length)
  | some (.slice _), .rs _ _ len _ => some (.int .i64 len)
  | some (.map _ _), m => (entsOf S m).map fun es => .int .i64 es.length
  | _, _ => none

def minmax (mx : Bool) : AV → AV → Option AV
  | .int k x, .int _ y => some (.int k (if mx then (if y > x then y else x) else (if y < x then y else x)))
  | _, _ => none

def minmaxs (mx : Bool) : List AV → AV → Option AV
  | [], a => some a
  | y :: r, a => (minmax mx a y).bind (minmaxs mx r)

def intBin (op : BinOp) (k : IntKind) (a b : Int) : Option AV :=
  match op with
  | .add => some (.int k (k.wrap (a + b)))
  | .sub => some (.int k (k.wrap (a - b)))
  | .mul => some (.int k (k.wrap (a * b)))
  | .quo => if b = 0 then none else some (.int k (k.wrap (a.tdiv b)))
  | .rem => if b = 0 then none else some (.int k (a.tmod b))
  | .and => some (.int k (k.wrap (BitVec.ofInt k.bits a &&& BitVec.ofInt k.bits b).toNat))
  | .or => some (.int k (k.wrap (BitVec.ofInt k.bits a ||| BitVec.ofInt k.bits b).toNat))
  | .xor => some (.int k (k.wrap (BitVec.ofInt k.bits a ^^^ BitVec.ofInt k.bits b).toNat))
  | .andNot => some (.int k (k.wrap (BitVec.ofInt k.bits a &&& ~~~(BitVec.ofInt k.bits b)).toNat))
  | .eql => some (.bool (a == b))
  | .neq => some (.bool (a != b))
  | .lss => some (.bool (decide (a < b)))
  | .leq => some (.bool (decide (a ≤ b)))
  | .gtr => some (.bool (decide (a > b)))
  | .geq => some (.bool (decide (a ≥ b)))
  | _ => none

def shiftBin (op : BinOp) (k : IntKind) (a b : Int) : Option AV :=
  if b < 0 then none else
  match op with
  | .shl => some (.int k (k.wrap (a * 2 ^ (min b.toNat k.bits))))
  | .shr => some (.int k (a.fdiv (2 ^ (min b.toNat k.bits))))
  | _ => none

/-- Is it nil? Known of what is nil, and of what has an address. -/
def isNil : AV → Option Bool
  | .vs [] .nil => some true
  | .vs [] .exact => some false
  | .vs [] _ => none
  | .vs (_ :: _) _ => some false
  | .rs .. => some false
  | .nilptr => some true
  | .ptr .. => some false
  | .pv _ => some false
  | .nilmap => some true
  | .map _ => some false
  | .nilfunc => some true
  | .func .. => some false
  | _ => none

def nilT : TypeDesc → AV → Bool
  | .slice _, .vs [] .nil => true
  | .pointer _, .nilptr => true
  | .map _ _, .nilmap => true
  | .func _ _ _, .nilfunc => true
  | _, _ => false

def fitT : TypeDesc → AV → Bool
  | .slice _, .vs _ _ => true
  | .slice _, .rs .. => true
  | .pointer _, .ptr .. => true
  | .pointer _, .pv _ => true
  | .pointer _, .nilptr => true
  | .map _ _, .map _ => true
  | .map _ _, .nilmap => true
  | .func _ _ _, .func .. => true
  | .func _ _ _, .nilfunc => true
  | _, _ => false

def eqlP (P : Program) (t : TypeId) (x y : AV) : Option Bool :=
  match P.underlying t with
  | some d =>
    match d, x, y with
    | .bool, .bool a, .bool b => some (a == b)
    | _, _, _ =>
      if nilT d y && fitT d x then isNil x
      else if nilT d x && fitT d y then isNil y
      else none
  | none => none

def binP (P : Program) (op : BinOp) (t : TypeId) (x y : AV) : Option AV :=
  match x, y with
  | .int k a, .int k' b =>
    match op with
    | .shl => shiftBin .shl k a b
    | .shr => shiftBin .shr k a b
    | op => if k = k' then intBin op k a b else none
  | .str a, .str b =>
    match op with
    | .eql => some (.bool (a == b))
    | .neq => some (.bool (!(a == b)))
    | .add => if a.length + b.length < 9223372036854775808 then some (.str (a ++ b)) else none
    | _ => none
  | x, y =>
    match op with
    | .eql => (eqlP P t x y).map .bool
    | .neq => (eqlP P t x y).map fun b => .bool (!b)
    | _ => none

def unP (op : UnOp) (x : AV) : Option AV :=
  match op, x with
  | .neg, .int k n => some (.int k (k.wrap (0 - n)))
  | .xor, .int k n => some (.int k (k.wrap (BitVec.ofInt k.bits (if k.signed then -1 else k.max) ^^^ BitVec.ofInt k.bits n).toNat))
  | .not, .bool b => some (.bool (!b))
  | _, _ => none

def bytesOf : List AV → Option (List UInt8)
  | [] => some []
  | .int .u8 n :: r => (bytesOf r).map fun s => UInt8.ofNat n.toNat :: s
  | _ => none

def isSl : AV → Bool
  | .vs _ _ => true
  | .rs _ _ _ _ => true
  | _ => false

def convP (P : Program) (S : St) (src dst : TypeId) (x : AV) : Option AV :=
  match P.underlying src, P.underlying dst with
  | some (.int _), some (.int k) => (match x with
    | .int _ n => some (.int k (k.wrap n))
    | _ => none)
  | some .string, some .string => (match x with
    | .str s => some (.str s)
    | _ => none)
  | some (.slice e), some .string => (match P.underlying e with
    | some (.int .u8) => if isSl x then (elemsOf S x).bind fun es => (bytesOf es).map .str else none
    | _ => none)
  | _, _ => none

/-- A row that may be written becomes one that may not. -/
def freeze (S : St) : AV → Option (AV × St)
  | .rs b off len _ =>
    match S[b]? with
    | some (.cells _ es) => if off + len ≤ es.length then some (.vs (((es.drop off).take len).map AV.weak) .dead, S.set b .dead) else none
    | _ => none
  | .ptr b i o =>
    match S[b]? with
    | some (.cells _ es) => (es[i]?).map fun e => (.pv ((e.cells.drop o).map AV.weak1), S.set b .dead)
    | _ => none
  | v => some (v, S)

/-- .. in each part of a struct. -/
def freezeL : St → List AV → Option (List AV × St)
  | S, [] => some ([], S)
  | S, .rs b off len sz :: r => (freeze S (.rs b off len sz)).bind fun (v, S) => (freezeL S r).map fun (r, S) => (v :: r, S)
  | S, v :: r => (freezeL S r).map fun (r, S) => (v :: r, S)

/-- .. in place, in an element of a row. -/
def freezeAt (S : St) : AV → Option St
  | .ptr b i _ =>
    match S[b]? with
    | some (.cells _ es) => (es[i]?).bind fun e => (freezeL S e.cells).bind fun (cs, S1) =>
      match S1[b]? with
      | some (.cells sz es1) => if cs.length = sz ∧ i < es1.length then some (S1.set b (.cells sz (es1.set i (mkElem e cs)))) else none
      | _ => none
    | _ => none
  | _ => none

def freezeV (S : St) : AV → Option (AV × St)
  | .agg cs => (freezeL S cs).map fun (cs, S) => (.agg cs, S)
  | .ptr b i o => (freezeAt S (.ptr b i o)).bind fun S1 => freeze S1 (.ptr b i o)
  | v => freeze S v

structure Hint where
  keep : List Nat
  muts : List (Nat × Nat)
  frz : List (Nat × Nat)
  live : List (Nat × List Nat)
  deriving Inhabited

def has2 : List (Nat × Nat) → Nat → Nat → Bool
  | [], _, _ => false
  | (a, b) :: r, x, y => match Nat.beq a x && Nat.beq b y with
    | true => true
    | false => has2 r x y

def liveAt : List (Nat × List Nat) → Nat → Option (List Nat)
  | [], _ => none
  | (a, l) :: r, x => match Nat.beq a x with
    | true => some l
    | false => liveAt r x

abbrev CallF := Nat → List AV → St → Option (AV × St)

def val (v : Option AV) (S : St) : Option (Option AV × St) := v.map fun v => (some v, S)
def valS (v : Option (AV × St)) : Option (Option AV × St) := v.map fun (v, S) => (some v, S)
def eff (S : Option St) : Option (Option AV × St) := S.map fun S => (none, S)

def builtinP (P : Program) (mt : Bool) (S : St) (b : Builtin) (as : List AV) (ts : List TypeId) : Option (Option AV × St) :=
  match b with
  | .len => (match as, ts with
    | [x], t :: _ => val (lenP P S t x) S
    | _, _ => none)
  | .append => (match as, ts with
    | [s, x], [t, u] => (match P.underlying u with
      | some (.int _) => none
      | some _ => valS (appendP P mt S t s x)
      | none => none)
    | _, _ => none)
  | .min => (match as with
    | x :: r => val (minmaxs false r x) S
    | _ => none)
  | .max => (match as with
    | x :: r => val (minmaxs true r x) S
    | _ => none)
  | _ => none

/-- One operation. -/
def oper (P : Program) (gl : Gl) (call : CallF) (mt frz : Bool) (o : Oper) (e : Env) (S : St) : Option (Option AV × St) :=
  let ρ := opnd gl e
  match o.op with
  | .move x => (ρ x).bind fun v => match frz with
    | true => valS (freezeV S v)
    | false => some (some v, S)
  | .assign x => (ρ x).bind fun v => match frz with
    | true => valS (freezeV S v)
    | false => some (some v, S)
  | .pick c a b => (ρ c).bind fun
    | .bool true => val (ρ a) S
    | .bool false => val (ρ b) S
    | _ => none
  | .alloc t => valS (allocP P S t)
  | .box t x => (ρ x).bind fun v => (sizeT P t).bind fun n => if v.cells.length = n ∧ v.noTup = true then
      (match mt with
      | true => some (some (.ptr S.length 0 0), S ++ [.cells n [v]])
      | false => some (some (.pv (v.cells.map AV.weak1)), S)) else none
  | .build t ps => (opnds gl e (ps.toList.map (·.2))).bind fun vs => if vs.all AV.noTup then val (buildP P t ((ps.toList.map (·.1)).zip vs)) S else none
  | .buildSlice t len ps => (opnds gl e (ps.toList.map (·.2))).bind fun vs => if vs.all AV.noTup then valS (buildSliceP P mt S t len ((ps.toList.map (·.1)).zip vs)) else none
  | .load t x => (ρ x).bind fun p => match frz with
    | true => valS ((freezeAt S p).bind fun S1 => (loadP P S1 t p).map fun v => (v, S1))
    | false => val (loadP P S t p) S
  | .store t x y => (ρ x).bind fun p => (ρ y).bind fun v => match frz with
    | true => (freezeV S v).bind fun (v, S) => if v.noTup then eff (storeP P S t p v) else none
    | false => if v.noTup then eff (storeP P S t p v) else none
  | .nilCheck x => (ρ x).bind fun
    | .ptr b i o => some (some (.ptr b i o), S)
    | .pv cs => some (some (.pv cs), S)
    | .aptr b i o z => some (some (.aptr b i o z), S)
    | .func f a c => some (some (.func f a c), S)
    | _ => none
  | .binOp op t x y _ => (ρ x).bind fun a => (ρ y).bind fun b => val (binP P op t a b) S
  | .unOp op _ x => (ρ x).bind fun a => val (unP op a) S
  | .convert src dst x => (ρ x).bind fun a => val (convP P S src dst a) S
  | .makeFunc (.func f) fs cs => (opnds gl e fs.toList).bind fun fs => (opnds gl e cs.toList).bind fun cs => some (some (.func f fs cs), S)
  | .makeMap t r => match P.underlying t with
    | some (.map _ _) => (match r with
      | none => some Unit.unit
      | some x => (ρ x).bind fun | .int _ _ => some Unit.unit | _ => none).bind fun _ => some (some (AV.map S.length), S ++ [AObj.map []])
    | _ => none
  | .makeSlice t l c => (ρ l).bind fun l => (ρ c).bind fun c => valS (makeSliceP P S t l c)
  | .slice t x lo hi mx => (ρ x).bind fun x => (opnds gl e lo.toList).bind fun lo => (opnds gl e hi.toList).bind fun hi => (opnds gl e mx.toList).bind fun mx =>
      val (sliceP P t x lo.head? hi.head? mx.head?) S
  | .fieldAddr s x f => (ρ x).bind fun p => val (fieldAddrP P s p f) S
  | .field s x f => (ρ x).bind fun v => val (fieldP P s v f) S
  | .indexAddr t x ix => (ρ x).bind fun x => (ρ ix).bind fun ix => val (indexAddrP P t x ix) S
  | .index t x ix => (ρ x).bind fun x => (ρ ix).bind fun ix => val (indexP P t x ix) S
  | .lookup t x ix ok => (ρ x).bind fun x => (ρ ix).bind fun ix => val (lookupP P S t x ix ok) S
  | .mapUpdate t m k x => (ρ m).bind fun m => (ρ k).bind fun k => (ρ x).bind fun x => eff (mapUpdateP P S t m k x)
  | .extract t ix => (ρ t).bind fun
    | .tuple vs => val vs[ix]? S
    | _ => none
  | .call { callee := .value f, args := as, .. } => (ρ f).bind fun
    | .func g fs cs => (opnds gl e as.toList).bind fun as => valS (call g (fs ++ as ++ cs) S)
    | _ => none
  | .call { callee := .builtin b, args := as, argTypes := ts } =>
    (opnds gl e as.toList).bind fun as => builtinP P mt S b as ts.toList
  | _ => none

/-- Is the operation to be done? By the bool that its guard names. -/
def wanted (ops : List Oper) (o : Oper) (e : Env) : Option Bool :=
  match o.guard with
  | none => some true
  | some (j, want) =>
    ((ops[j]?).bind (·.dst)).bind fun t => (look e t).bind fun
      | .bool b => some (b == want)
      | .tuple [] => some false
      | _ => none

def step1 (P : Program) (gl : Gl) (call : CallF) (mt frz : Bool) (ops : List Oper) (o : Oper) (e : Env) (S : St) : Option (Env × St) :=
  (wanted ops o e).bind fun
    | true => (oper P gl call mt frz o e S).bind fun (v, S') =>
      match v, o.dst with
      | some v, some t => some (put e t v, S')
      | _, none => some (e, S')
      | none, some _ => none
    | false => some (putd e o.dst (.tuple []), S)

def opsFrom (P : Program) (gl : Gl) (call : CallF) (h : Hint) (id : Nat) (all : List Oper) : List Oper → Nat → Env → St → Option (Env × St)
  | [], _, e, S => some (e, S)
  | o :: r, i, e, S => (step1 P gl call (has2 h.muts id i) (has2 h.frz id i) all o e S).bind fun (e, S) => opsFrom P gl call h id all r (i + 1) e S

/-- Does the operation turn the interpreter's state? -/
def isEff (mt frz : Bool) : Op → Bool
  | .alloc _ => true
  | .box _ _ => mt
  | .buildSlice _ _ _ => mt
  | .assign _ => frz
  | .move _ => frz
  | .load _ _ => frz
  | .store _ _ _ => true
  | .makeMap _ _ => true
  | .makeSlice _ _ _ => true
  | .mapUpdate _ _ _ _ => true
  | .call { callee := .builtin .len, .. } => false
  | .call { callee := .builtin .min, .. } => false
  | .call { callee := .builtin .max, .. } => false
  | .call _ => true
  | _ => false

/-- Does it make a new row of memory and nothing else, whatever the state? -/
def isEarly : Op → Bool
  | .alloc _ => true
  | .makeSlice _ _ _ => true
  | _ => false

/-- Does it only look at the state? -/
def isRead (frz : Bool) : Op → Bool
  | .load _ _ => !frz
  | .lookup _ _ _ _ => true
  | .convert _ _ _ => true
  | .call { callee := .builtin .len, .. } => true
  | _ => false

def readV (P : Program) (gl : Gl) (o : Oper) (e : Env) (S : St) : Option AV := (oper P gl (fun _ _ _ => none) false false o e S).bind (·.1)

def tmpsOf : List Operand → List Nat
  | [] => []
  | .tmp t :: r => t :: tmpsOf r
  | _ :: r => tmpsOf r

/-- The slots that an operation names. -/
def names (ops : List Oper) (o : Oper) : List Nat :=
  (match o.dst with | some t => [t] | none => []) ++ tmpsOf o.op.operands.toList ++
  (match o.guard with | some (j, _) => (match (ops[j]?).bind (·.dst) with | some t => [t] | none => []) | none => [])

/-- Of a region whose order is open: may its operations be done in the text's order, and which looks are to be tried at which other states? -/
def drawPlan (h : Hint) (id : Nat) (ops : List Oper) : Option (List (Nat × List Nat)) :=
  let B := Region.before ops.toArray
  let n := ops.length
  let anc (i j : Nat) : Bool := (B.getD j 0).testBit i
  let eff (i : Nat) : Bool := match ops[i]? with
    | some o => isEff (has2 h.muts id i) (has2 h.frz id i) o.op
    | none => false
  let edges : Bool := (List.range n).all fun j => match ops[j]? with
    | some o => o.after.toList.all fun e => !Region.binds .any e || Nat.blt e.on j
    | none => true
  let early (j : Nat) : Bool := match ops[j]? with
    | some o => isEarly o.op && o.guard.isNone
    | none => false
  let effs : Bool := (List.range n).all fun j => (List.range j).all fun i => !(eff i && eff j) || anc i j || (early j && (List.range n).all fun k => !anc j k || anc i k)
  let slots : Bool := (List.range n).all fun i => match ops[i]? with
    | some o => (List.range n).all fun j => match (ops[j]?).bind (·.dst) with
      | some t => Nat.beq i j || !has (names ops o) t || (if j < i then anc j i else anc i j)
      | none => true
    | none => true
  if edges && effs && slots then
    some ((List.range n).filterMap fun i => match ops[i]? with
      | some o => if isRead (has2 h.frz id i) o.op then
          let js := (List.range (n + 1)).filter fun j => (Nat.beq j 0 || eff (j - 1)) && ((List.range n).all fun k => !eff k || ((!anc k i || Nat.blt k j) && (!anc i k || Nat.ble j k))) &&
            !(Nat.ble j i && (List.range i).all fun k => Nat.blt k j || !eff k)
          if js.isEmpty then none else some (i, js)
        else none
      | none => none)
  else none

def opsTr (P : Program) (gl : Gl) (call : CallF) (h : Hint) (id : Nat) (all : List Oper) : List Oper → Nat → Env → St → Option (Env × St × List (Env × St))
  | [], _, e, S => some (e, S, [(e, S)])
  | o :: r, i, e, S => (step1 P gl call (has2 h.muts id i) (has2 h.frz id i) all o e S).bind fun (e', S') =>
    (opsTr P gl call h id all r (i + 1) e' S').map fun (ef, Sf, tr) => (ef, Sf, (e, S) :: tr)

/-- The look comes to the same at another state. -/
def sameAt (P : Program) (gl : Gl) (all : List Oper) (o : Oper) (e : Env) (S S' : St) : Bool :=
  match wanted all o e with
  | some true => match readV P gl o e S, readV P gl o e S' with
    | some u, some v => u.same v
    | _, _ => false
  | _ => true

def tryPlan (P : Program) (gl : Gl) (all : List Oper) (tr : List (Env × St)) : List (Nat × List Nat) → Bool
  | [] => true
  | (i, js) :: r => (match all[i]?, tr[i]? with
    | some o, some (e, S) => js.all fun j => match tr[j]? with
      | some (_, S') => sameAt P gl all o e S S'
      | none => false
    | _, _ => false) && tryPlan P gl all tr r

def drawn (P : Program) (gl : Gl) (call : CallF) (h : Hint) (id : Nat) (ops : List Oper) (e : Env) (S : St) : Option (Env × St) :=
  (drawPlan h id ops).bind fun plan => match plan with
    | [] => opsFrom P gl call h id ops ops 0 e S
    | plan => (opsTr P gl call h id ops ops 0 e S).bind fun (e', S', tr) => if tryPlan P gl ops tr plan then some (e', S') else none

inductive AExit where
  | normal
  | exit (id : Nat)
  | ret
  deriving DecidableEq, Inhabited

abbrev Res := AExit × Env × St

def clean (l : Option (List Nat)) (e : Env) : Env :=
  match l with
  | some l => restrict e l
  | none => e

def loopN (body : Env → St → Option Res) (l : Option (List Nat)) : Nat → Env → St → Option Res
  | 0, _, _ => none
  | n + 1, e, S => (body (clean l e) S).bind fun
    | (.normal, e, S) => loopN body l n e S
    | r => some r

def code (P : Program) (gl : Gl) (call : CallF) (h : Hint) (n : Nat) : Nat → Code → Env → St → Option Res
  | _, .skip, e, S => some (.normal, e, S)
  | _, .region id ops false, e, S => (opsFrom P gl call h id ops.toList ops.toList 0 (keepOnly h.keep e) S).map fun (e, S) => (.normal, e, S)
  | _, .region id ops true, e, S => (drawn P gl call h id ops.toList (keepOnly h.keep e) S).map fun (e, S) => (.normal, e, S)
  | cur, .seq a b, e, S => (code P gl call h n cur a e S).bind fun
    | (.normal, e, S) => code P gl call h n cur b e S
    | r => some r
  | cur, .cond c a b, e, S => (opnd gl e c).bind fun
    | .bool true => code P gl call h n cur a e S
    | .bool false => code P gl call h n cur b e S
    | _ => none
  | _, .block id c, e, S => (code P gl call h n id c e S).map fun
    | (.exit id', e, S) => if id' = id then (.normal, e, S) else (.exit id', e, S)
    | r => r
  | cur, .loop c, e, S => loopN (code P gl call h n cur c) (liveAt h.live cur) n e S
  | _, .exit id, e, S => some (.exit id, e, S)
  | _, .ret, e, S => some (.ret, e, S)
  | _, _, _, _ => none

def resOf (P : Program) (e : Env) (S : St) : ResultVar → Option AV
  | .tmp t => look e t
  | .cell a t => (look e a).bind fun p => loadP P S t p

def resOfs (P : Program) (e : Env) (S : St) : List ResultVar → Option (List AV)
  | [] => some []
  | x :: r => (resOf P e S x).bind fun a => (resOfs P e S r).bind fun as => some (a :: as)

def params : Nat → List AV → Env
  | _, [] => []
  | i, v :: r => (i, v) :: params (i + 1) r

/-- Every slot that the code writes lies in the frame. -/
def dstOk (n : Nat) : Code → Bool
  | .region _ ops _ => ops.toList.all fun o => match o.dst with
    | some t => Nat.blt t n
    | none => true
  | .seq a b => dstOk n a && dstOk n b
  | .cond _ a b => dstOk n a && dstOk n b
  | .block _ c => dstOk n c
  | .loop c => dstOk n c
  | .scope c => dstOk n c
  | _ => true

def fbody (P : Program) (f : Nat) : Option (Func × Code) :=
  (P.funcs[f]?).bind fun fn => fn.body.bind fun c => if (fn.name == "runtime.NumGoroutine") = false ∧ dstOk fn.ntmps c = true then some (fn, c) else none

/-- A call. -/
def acall (P : Program) (gl : Gl) (H : Nat → Hint) : Nat → CallF
  | 0, _, _, _ => none
  | k + 1, f, args, S => (fbody P f).bind fun (fn, c) =>
    if fn.ntmps < args.length then none else
    (code P gl (acall P gl H k) (H f) k 0 c (params 0 args) S).bind fun
      | (.exit _, _, _) => none
      | (_, e, S) => (resOfs P e S fn.results.toList).map fun vs => (match vs with | [v] => v | vs => .tuple vs, S)

end Go.Proofs.YtmicmlcfbmphfaaDoor.Ae

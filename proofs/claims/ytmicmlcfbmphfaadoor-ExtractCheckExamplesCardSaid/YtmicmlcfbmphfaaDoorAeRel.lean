/- The relation between the abstract interpreter's values and memory, and what keeps it.
   No conditions beyond those of each lemma. -/
import Derived.Test.YtmicmlcfbmphfaaDoorAeBase
import Derived.Below
set_option linter.unusedSimpArgs false
set_option linter.unusedVariables false
set_option linter.unnecessarySimpa false
namespace Go.Proofs.YtmicmlcfbmphfaaDoor.Ae
open Go Go.RowKit

def AV.one : AV → Bool
  | .agg _ => false
  | .tuple _ => false
  | _ => true

def oneV : Value → Bool
  | .agg _ => false
  | .tuple _ => false
  | _ => true

def flat (es : List AV) : List AV := es.flatMap AV.cells

theorem flat_nil : flat [] = [] := rfl
theorem flat_cons (e : AV) (es : List AV) : flat (e :: es) = e.cells ++ flat es := rfl
theorem flat_append (xs ys : List AV) : flat (xs ++ ys) = flat xs ++ flat ys := by simp [flat]

theorem flat_length {sz : Nat} : ∀ {es : List AV}, (∀ e ∈ es, e.cells.length = sz) → (flat es).length = es.length * sz
  | [], _ => by simp [flat]
  | e :: es, h => by
    rw [flat_cons, List.length_append, h e (by simp), flat_length (fun x hx => h x (by simp [hx]))]
    simp [Nat.succ_mul]; omega

theorem flat_take {sz : Nat} : ∀ {es : List AV} (n : Nat), (∀ e ∈ es, e.cells.length = sz) → flat (es.take n) = (flat es).take (n * sz)
  | [], n, _ => by simp [flat]
  | e :: es, 0, _ => by simp [flat]
  | e :: es, n + 1, h => by
    have he := h e (by simp)
    rw [List.take_succ_cons, flat_cons, flat_cons, flat_take n (fun x hx => h x (by simp [hx])), List.take_append, he]
    have : (n + 1) * sz - sz = n * sz := by rw [Nat.succ_mul]; omega
    rw [this]; congr 1; exact (List.take_of_length_le (by rw [he, Nat.succ_mul]; omega)).symm

theorem flat_drop {sz : Nat} : ∀ {es : List AV} (n : Nat), (∀ e ∈ es, e.cells.length = sz) → flat (es.drop n) = (flat es).drop (n * sz)
  | [], n, _ => by simp [flat]
  | e :: es, 0, _ => by simp
  | e :: es, n + 1, h => by
    have he := h e (by simp)
    rw [List.drop_succ_cons, flat_cons, flat_drop n (fun x hx => h x (by simp [hx])), List.drop_append, he]
    have : (n + 1) * sz - sz = n * sz := by rw [Nat.succ_mul]; omega
    rw [this, List.drop_of_length_le (l := e.cells) (by rw [he, Nat.succ_mul]; omega)]
    rfl

theorem flat_get {sz : Nat} : ∀ {es : List AV} {i : Nat} {e : AV}, (∀ e ∈ es, e.cells.length = sz) → es[i]? = some e → ∀ j, j < sz → (flat es)[i * sz + j]? = e.cells[j]?
  | [], i, e, _, h, _, _ => by simp at h
  | x :: es, 0, e, h, hi, j, hj => by
    simp at hi; subst hi
    rw [flat_cons, List.getElem?_append_left (by rw [h x (by simp)]; omega)]; simp
  | x :: es, i + 1, e, h, hi, j, hj => by
    have hx := h x (by simp)
    rw [flat_cons, List.getElem?_append_right (by rw [hx, Nat.succ_mul]; omega), hx]
    have : (i + 1) * sz + j - sz = i * sz + j := by rw [Nat.succ_mul]; omega
    rw [this]
    exact flat_get (fun y hy => h y (by simp [hy])) (by simpa using hi) j hj

inductive Kind where
  | imm (hi : Nat)
  | mine (b : Nat)
  | other
  deriving DecidableEq

structure G where
  n : Nat
  kind : Nat → Kind
  loc : Nat → Nat
  off : Nat → Nat
  sz : Nat → Nat
  top : Nat → Nat

def immAt (N0 : Nat) (g : G) (c o : Nat) : Prop := c < N0 ∨ ∃ hi, g.kind c = .imm hi ∧ o < hi

def cellA (w : World) (c o : Nat) : Option Value := w.cell? ⟨c, o, none⟩

/-- What the growth right says of a slice of n elements at (c, o). -/
def TkOk (g : G) (c o len cap sz : Nat) : Tk → Prop
  | .nil => False
  | .exact => cap = len
  | .dead => True
  | .live t => t < g.n ∧ g.loc t = c ∧ o = 0 ∧ g.off t = len * sz ∧ g.top t = cap * sz ∧ 0 < sz

/-- .. of a slice without elements. -/
def Tk0Ok (A : Option Addr) (cap : Nat) : Tk → Prop
  | .nil => A = none ∧ cap = 0
  | .exact => A.isSome = true ∧ cap = 0
  | .dead => True
  | .live _ => False

inductive Rel (N0 : Nat) (g : G) (w : World) : AV → Value → Prop where
  | int (k : IntKind) (n : Int) : Rel N0 g w (.int k n) (.int k n)
  | bool (b : Bool) : Rel N0 g w (.bool b) (.bool b)
  | str (l : List UInt8) (s : ByteArray) (h : s.data.toList = l) : Rel N0 g w (.str l) (.string s)
  | ptr (b i o : Nat) (h : b < g.n) : Rel N0 g w (.ptr b i o) (.pointer (some ⟨g.loc b, g.off b + i * g.sz b + o, none⟩))
  | aptr (b off n sz : Nat) (h : b < g.n) (hs : g.sz b = sz) (ht : g.off b + (off + n) * sz ≤ g.top b) : Rel N0 g w (.aptr b off n sz) (.pointer (some ⟨g.loc b, g.off b + off * g.sz b, none⟩))
  | nilptr : Rel N0 g w .nilptr (.pointer none)
  | pv (cs : List AV) (c o : Nat) (f : Nat → Value)
      (hc : ∀ (j : Nat) (v : AV), cs[j]? = some v → v.one = true ∧ immAt N0 g c (o + j) ∧ cellA w c (o + j) = some (f j))
      (hr : ∀ (j : Nat) (v : AV), cs[j]? = some v → Rel N0 g w v (f j)) : Rel N0 g w (.pv cs) (.pointer (some ⟨c, o, none⟩))
  | vs0 (tk : Tk) (A : Option Addr) (cap : Nat)
      (h : Tk0Ok A cap tk) :
      Rel N0 g w (.vs [] tk) (.slice A 0 cap)
  | vs (es : List AV) (tk : Tk) (c o cap sz : Nat) (f : Nat → Value) (hne : es ≠ [])
      (hs : ∀ e ∈ es, e.cells.length = sz) (hcap : es.length ≤ cap) (htk : TkOk g c o es.length cap sz tk)
      (hc : ∀ (j : Nat) (v : AV), (flat es)[j]? = some v → v.one = true ∧ immAt N0 g c (o + j) ∧ cellA w c (o + j) = some (f j))
      (hr : ∀ (j : Nat) (v : AV), (flat es)[j]? = some v → Rel N0 g w v (f j)) : Rel N0 g w (.vs es tk) (.slice (some ⟨c, o, none⟩) es.length cap)
  | rs (b off len sz cap : Nat) (A : Addr) (h : b < g.n) (hs : g.sz b = sz) (hl : len ≤ cap)
      (hA : cap = 0 ∨ (A = ⟨g.loc b, g.off b + off * g.sz b, none⟩ ∧ g.off b + (off + cap) * g.sz b ≤ g.top b)) :
      Rel N0 g w (.rs b off len sz) (.slice (some A) len cap)
  | map (b : Nat) (h : b < g.n) : Rel N0 g w (.map b) (.map (some (g.loc b)))
  | nilmap : Rel N0 g w .nilmap (.map none)
  | func (f : Nat) (as cs : List AV) (as' cs' : Array Value) (fa fc : Nat → Value) (ha : as'.size = as.length) (hc : cs'.size = cs.length)
      (ea : ∀ (j : Nat) (v : AV), as[j]? = some v → as'[j]? = some (fa j)) (ec : ∀ (j : Nat) (v : AV), cs[j]? = some v → cs'[j]? = some (fc j))
      (ra : ∀ (j : Nat) (v : AV), as[j]? = some v → Rel N0 g w v (fa j)) (rc : ∀ (j : Nat) (v : AV), cs[j]? = some v → Rel N0 g w v (fc j)) :
      Rel N0 g w (.func f as cs) (.func (.func f) as' cs')
  | nilfunc : Rel N0 g w .nilfunc .nilFunc
  | agg (cs : List AV) (cs' : Array Value) (f : Nat → Value) (h : cs'.size = cs.length) (ho : ∀ (j : Nat) (v : AV), cs[j]? = some v → v.one = true)
      (e : ∀ (j : Nat) (v : AV), cs[j]? = some v → cs'[j]? = some (f j)) (r : ∀ (j : Nat) (v : AV), cs[j]? = some v → Rel N0 g w v (f j)) : Rel N0 g w (.agg cs) (.agg cs')
  | tuple (cs : List AV) (cs' : Array Value) (f : Nat → Value) (h : cs'.size = cs.length)
      (e : ∀ (j : Nat) (v : AV), cs[j]? = some v → cs'[j]? = some (f j)) (r : ∀ (j : Nat) (v : AV), cs[j]? = some v → Rel N0 g w v (f j)) : Rel N0 g w (.tuple cs) (.tuple cs')

/-- A row of values. -/
def RelL (N0 : Nat) (g : G) (w : World) (cs : List AV) (cs' : Array Value) : Prop :=
  cs'.size = cs.length ∧ ∀ (j : Nat) (v : AV), cs[j]? = some v → ∃ v', cs'[j]? = some v' ∧ Rel N0 g w v v'

/-- Cells that no one writes. -/
def RelM (N0 : Nat) (g : G) (w : World) (cs : List AV) (c o : Nat) : Prop :=
  ∀ (j : Nat) (v : AV), cs[j]? = some v → v.one = true ∧ immAt N0 g c (o + j) ∧ ∃ v', cellA w c (o + j) = some v' ∧ Rel N0 g w v v'

section
variable {N0 : Nat} {g : G} {w : World}

theorem choose_cells {cs : List AV} {R : AV → Value → Prop} {get : Nat → Option Value}
    (h : ∀ (j : Nat) (v : AV), cs[j]? = some v → ∃ v', get j = some v' ∧ R v v') : ∃ f : Nat → Value, ∀ (j : Nat) (v : AV), cs[j]? = some v → get j = some (f j) ∧ R v (f j) := by
  refine ⟨fun j => (get j).getD default, fun j v hj => ?_⟩
  obtain ⟨v', h1, h2⟩ := h j v hj
  simp [h1, h2]

theorem Rel.mk_agg {cs : List AV} {cs' : Array Value} (ho : ∀ v ∈ cs, v.one = true) (h : RelL N0 g w cs cs') : Rel N0 g w (.agg cs) (.agg cs') := by
  obtain ⟨f, hf⟩ := choose_cells (R := Rel N0 g w) (get := fun j => cs'[j]?) h.2
  exact .agg cs cs' f h.1 (fun j v hj => ho v (List.mem_of_getElem? hj)) (fun j v hj => (hf j v hj).1) (fun j v hj => (hf j v hj).2)

theorem Rel.mk_tuple {cs : List AV} {cs' : Array Value} (h : RelL N0 g w cs cs') : Rel N0 g w (.tuple cs) (.tuple cs') := by
  obtain ⟨f, hf⟩ := choose_cells (R := Rel N0 g w) (get := fun j => cs'[j]?) h.2
  exact .tuple cs cs' f h.1 (fun j v hj => (hf j v hj).1) (fun j v hj => (hf j v hj).2)

theorem Rel.mk_func {f : Nat} {as cs : List AV} {as' cs' : Array Value} (h : RelL N0 g w as as') (h2 : RelL N0 g w cs cs') : Rel N0 g w (.func f as cs) (.func (.func f) as' cs') := by
  obtain ⟨fa, hf⟩ := choose_cells (R := Rel N0 g w) (get := fun j => as'[j]?) h.2
  obtain ⟨fc, hg⟩ := choose_cells (R := Rel N0 g w) (get := fun j => cs'[j]?) h2.2
  exact .func f as cs as' cs' fa fc h.1 h2.1 (fun j v hj => (hf j v hj).1) (fun j v hj => (hg j v hj).1) (fun j v hj => (hf j v hj).2) (fun j v hj => (hg j v hj).2)

theorem Rel.mk_pv {cs : List AV} {c o : Nat} (h : RelM N0 g w cs c o) : Rel N0 g w (.pv cs) (.pointer (some ⟨c, o, none⟩)) := by
  obtain ⟨f, hf⟩ := choose_cells (R := Rel N0 g w) (get := fun j => cellA w c (o + j)) (fun j v hj => (h j v hj).2.2)
  exact .pv cs c o f (fun j v hj => ⟨(h j v hj).1, (h j v hj).2.1, (hf j v hj).1⟩) (fun j v hj => (hf j v hj).2)

theorem Rel.mk_vs {es : List AV} {tk : Tk} {c o cap sz : Nat} (hne : es ≠ []) (hs : ∀ e ∈ es, e.cells.length = sz) (hcap : es.length ≤ cap)
    (htk : TkOk g c o es.length cap sz tk) (h : RelM N0 g w (flat es) c o) : Rel N0 g w (.vs es tk) (.slice (some ⟨c, o, none⟩) es.length cap) := by
  obtain ⟨f, hf⟩ := choose_cells (R := Rel N0 g w) (get := fun j => cellA w c (o + j)) (fun j v hj => (h j v hj).2.2)
  exact .vs es tk c o cap sz f hne hs hcap htk (fun j v hj => ⟨(h j v hj).1, (h j v hj).2.1, (hf j v hj).1⟩) (fun j v hj => (hf j v hj).2)

theorem RelM.of_pv {cs : List AV} {p : Value} (h : Rel N0 g w (.pv cs) p) : ∃ c o, p = .pointer (some ⟨c, o, none⟩) ∧ RelM N0 g w cs c o := by
  cases h with
  | pv cs c o f hc hr => exact ⟨c, o, rfl, fun j v hj => ⟨(hc j v hj).1, (hc j v hj).2.1, f j, (hc j v hj).2.2, hr j v hj⟩⟩

theorem RelL.of_agg {cs : List AV} {p : Value} (h : Rel N0 g w (.agg cs) p) : ∃ cs', p = .agg cs' ∧ RelL N0 g w cs cs' ∧ ∀ v ∈ cs, v.one = true := by
  cases h with
  | agg cs cs' f h ho e r => exact ⟨cs', rfl, ⟨h, fun j v hj => ⟨f j, e j v hj, r j v hj⟩⟩, fun v hv => by
      obtain ⟨j, hj⟩ := List.getElem?_of_mem hv; exact ho j v hj⟩

theorem RelL.of_tuple {cs : List AV} {p : Value} (h : Rel N0 g w (.tuple cs) p) : ∃ cs', p = .tuple cs' ∧ RelL N0 g w cs cs' := by
  cases h with
  | tuple cs cs' f h e r => exact ⟨cs', rfl, h, fun j v hj => ⟨f j, e j v hj, r j v hj⟩⟩

theorem RelL.of_func {f : Nat} {as cs : List AV} {p : Value} (h : Rel N0 g w (.func f as cs) p) :
    ∃ as' cs', p = .func (.func f) as' cs' ∧ RelL N0 g w as as' ∧ RelL N0 g w cs cs' := by
  cases h with
  | func f as cs as' cs' fa fc ha hc ea ec ra rc =>
    exact ⟨as', cs', rfl, ⟨ha, fun j v hj => ⟨fa j, ea j v hj, ra j v hj⟩⟩, ⟨hc, fun j v hj => ⟨fc j, ec j v hj, rc j v hj⟩⟩⟩

/-- What is known of a slice that is no longer written. -/
theorem Rel.of_vs {es : List AV} {tk : Tk} {p : Value} (h : Rel N0 g w (.vs es tk) p) :
    (es = [] ∧ ∃ A cap, p = .slice A 0 cap ∧ Tk0Ok A cap tk) ∨
    (es ≠ [] ∧ ∃ c o cap sz, p = .slice (some ⟨c, o, none⟩) es.length cap ∧ (∀ e ∈ es, e.cells.length = sz) ∧ es.length ≤ cap ∧ TkOk g c o es.length cap sz tk ∧
      RelM N0 g w (flat es) c o) := by
  cases h with
  | vs0 tk A cap h => exact .inl ⟨rfl, A, cap, rfl, h⟩
  | vs es tk c o cap sz f hne hs hcap htk hc hr =>
    exact .inr ⟨hne, c, o, cap, sz, rfl, hs, hcap, htk, fun j v hj => ⟨(hc j v hj).1, (hc j v hj).2.1, f j, (hc j v hj).2.2, hr j v hj⟩⟩

theorem RelL.nil : RelL N0 g w [] #[] := ⟨rfl, fun j v h => by simp at h⟩

theorem RelM.nil {c o : Nat} : RelM N0 g w [] c o := fun j v h => by simp at h

theorem RelM.append {xs ys : List AV} {c o : Nat} (h : RelM N0 g w xs c o) (k : RelM N0 g w ys c (o + xs.length)) : RelM N0 g w (xs ++ ys) c o := by
  intro j v hj
  by_cases hlt : j < xs.length
  · rw [List.getElem?_append_left hlt] at hj; exact h j v hj
  · rw [List.getElem?_append_right (by omega)] at hj
    have := k (j - xs.length) v hj
    rwa [show o + xs.length + (j - xs.length) = o + j by omega] at this

theorem RelM.drop {xs : List AV} {c o : Nat} (h : RelM N0 g w xs c o) (n : Nat) : RelM N0 g w (xs.drop n) c (o + n) := by
  intro j v hj
  rw [List.getElem?_drop] at hj
  have := h (n + j) v hj
  rwa [show o + (n + j) = o + n + j by omega] at this

theorem RelM.take {xs : List AV} {c o : Nat} (h : RelM N0 g w xs c o) (n : Nat) : RelM N0 g w (xs.take n) c o := by
  intro j v hj
  by_cases hlt : j < n
  · rw [List.getElem?_take_of_lt hlt] at hj; exact h j v hj
  · rw [List.getElem?_eq_none (by simp; omega)] at hj; simp at hj

/-- The cells of a value. -/
theorem Rel.cells {v : AV} {v' : Value} (h : Rel N0 g w v v') : RelL N0 g w v.cells v'.cells := by
  have one : ∀ {u : AV} {u' : Value}, u.cells = [u] → u'.cells = #[u'] → Rel N0 g w u u' → RelL N0 g w u.cells u'.cells := by
    intro u u' e e' r
    rw [e, e']
    refine ⟨rfl, fun j v hj => ?_⟩
    cases j with
    | zero => simp at hj; subst hj; exact ⟨u', rfl, r⟩
    | succ j => simp at hj
  cases h with
  | agg cs cs' f hh ho e r => exact ⟨hh, fun j v hj => ⟨f j, e j v hj, r j v hj⟩⟩
  | int => exact one rfl rfl (.int _ _)
  | bool => exact one rfl rfl (.bool _)
  | str l s hh => exact one rfl rfl (.str _ _ hh)
  | ptr b i o hh => exact one rfl rfl (.ptr _ _ _ hh)
  | aptr b o n z hh hz ht => exact one rfl rfl (.aptr _ _ _ _ hh hz ht)
  | nilptr => exact one rfl rfl .nilptr
  | pv cs c o f a b => exact one rfl rfl (.pv cs c o f a b)
  | vs0 tk A cap hh => exact one rfl rfl (.vs0 tk A cap hh)
  | vs es tk c o cap sz f h1 h2 h3 h4 h5 h6 => exact one rfl rfl (.vs es tk c o cap sz f h1 h2 h3 h4 h5 h6)
  | rs b o l z cap A h1 hz h2 h3 => exact one rfl rfl (.rs b o l z cap A h1 hz h2 h3)
  | map b hh => exact one rfl rfl (.map b hh)
  | nilmap => exact one rfl rfl .nilmap
  | func f as cs as' cs' fa fc h1 h2 h3 h4 h5 h6 => exact one rfl rfl (.func f as cs as' cs' fa fc h1 h2 h3 h4 h5 h6)
  | nilfunc => exact one rfl rfl .nilfunc
  | tuple cs cs' f h1 h2 h3 => exact one rfl rfl (.tuple cs cs' f h1 h2 h3)

theorem Rel.oneCell {v : AV} {v' : Value} (h : Rel N0 g w v v') (ho : v.one = true) : oneV v' = true := by
  cases h <;> first | rfl | simp [AV.one] at ho

/-- The cells of a value that may lie in a row: each of one cell. -/
theorem Rel.cells_one {v : AV} {v' : Value} (h : Rel N0 g w v v') (ht : ∀ l, v ≠ .tuple l) : ∀ u ∈ v.cells, u.one = true := by
  cases h with
  | agg cs cs' f hh ho e r => exact fun u hu => by obtain ⟨j, hj⟩ := List.getElem?_of_mem hu; exact ho j u hj
  | tuple cs cs' f h e r => exact absurd rfl (ht cs)
  | _ => intro u hu; simp [AV.cells] at hu; subst hu; rfl

end

/-- Memory and bookkeeping go on: what nobody writes stands. -/
structure Ext0 (N0 : Nat) (g : G) (w : World) (g' : G) (w' : World) : Prop where
  n : g.n ≤ g'.n
  loc : ∀ b, b < g.n → g'.loc b = g.loc b
  off : ∀ b, b < g.n → g'.off b = g.off b
  sz : ∀ b, b < g.n → g'.sz b = g.sz b
  top : ∀ b, b < g.n → g'.top b = g.top b
  imm : ∀ c o, immAt N0 g c o → immAt N0 g' c o
  cell : ∀ c o v, immAt N0 g c o → cellA w c o = some v → cellA w' c o = some v

/-- .. and what is not the interpreter's at all stands too. -/
structure Ext (N0 : Nat) (g : G) (w : World) (g' : G) (w' : World) : Prop extends Ext0 N0 g w g' w' where
  oth : ∀ c, c < w.heap.size → g.kind c = .other → g'.kind c = .other ∧ w'.heap[c]? = w.heap[c]?
  size : w.heap.size ≤ w'.heap.size

theorem Ext0.refl {N0 : Nat} {g : G} {w : World} : Ext0 N0 g w g w :=
  ⟨Nat.le_refl _, fun _ _ => rfl, fun _ _ => rfl, fun _ _ => rfl, fun _ _ => rfl, fun _ _ h => h, fun _ _ _ _ h => h⟩

theorem Ext.refl {N0 : Nat} {g : G} {w : World} : Ext N0 g w g w :=
  ⟨Ext0.refl, fun _ _ h => ⟨h, rfl⟩, Nat.le_refl _⟩

theorem Ext0.trans {N0 : Nat} {g g1 g2 : G} {w w1 w2 : World} (h : Ext0 N0 g w g1 w1) (k : Ext0 N0 g1 w1 g2 w2) : Ext0 N0 g w g2 w2 :=
  ⟨Nat.le_trans h.n k.n,
   fun b hb => (k.loc b (Nat.lt_of_lt_of_le hb h.n)).trans (h.loc b hb), fun b hb => (k.off b (Nat.lt_of_lt_of_le hb h.n)).trans (h.off b hb),
   fun b hb => (k.sz b (Nat.lt_of_lt_of_le hb h.n)).trans (h.sz b hb), fun b hb => (k.top b (Nat.lt_of_lt_of_le hb h.n)).trans (h.top b hb),
   fun c o hi => k.imm c o (h.imm c o hi), fun c o v hi hc => k.cell c o v (h.imm c o hi) (h.cell c o v hi hc)⟩

theorem Ext.trans {N0 : Nat} {g g1 g2 : G} {w w1 w2 : World} (h : Ext N0 g w g1 w1) (k : Ext N0 g1 w1 g2 w2) : Ext N0 g w g2 w2 :=
  ⟨h.toExt0.trans k.toExt0, fun c hc ho => let ⟨h1, h2⟩ := h.oth c hc ho; let ⟨k1, k2⟩ := k.oth c (Nat.lt_of_lt_of_le hc h.size) h1; ⟨k1, k2.trans h2⟩, Nat.le_trans h.size k.size⟩

theorem Rel.mono0 {N0 : Nat} {g g' : G} {w w' : World} (x : Ext0 N0 g w g' w') {v : AV} {v' : Value} (h : Rel N0 g w v v') : Rel N0 g' w' v v' := by
  induction h with
  | int => exact .int _ _
  | bool => exact .bool _
  | str l s hh => exact .str _ _ hh
  | ptr b i o hh => rw [← x.loc b hh, ← x.off b hh, ← x.sz b hh]; exact .ptr _ _ _ (Nat.lt_of_lt_of_le hh x.n)
  | aptr b o n z hh hz ht => rw [← x.loc b hh, ← x.off b hh, ← x.sz b hh]; exact .aptr _ _ _ _ (Nat.lt_of_lt_of_le hh x.n) ((x.sz b hh).trans hz) (by rw [x.off b hh, x.top b hh]; exact ht)
  | nilptr => exact .nilptr
  | pv cs c o f hc hr ih => exact .pv cs c o f (fun j v hj => ⟨(hc j v hj).1, x.imm _ _ (hc j v hj).2.1, x.cell _ _ _ (hc j v hj).2.1 (hc j v hj).2.2⟩) ih
  | vs0 tk A cap hh => exact .vs0 tk A cap hh
  | vs es tk c o cap sz f hne hs hcap htk hc hr ih =>
    refine .vs es tk c o cap sz f hne hs hcap ?_ (fun j v hj => ⟨(hc j v hj).1, x.imm _ _ (hc j v hj).2.1, x.cell _ _ _ (hc j v hj).2.1 (hc j v hj).2.2⟩) ih
    cases tk with
    | live t =>
      obtain ⟨h1, h2, h3, h4, h5, h6⟩ := htk
      exact ⟨Nat.lt_of_lt_of_le h1 x.n, (x.loc t h1).trans h2, h3, (x.off t h1).trans h4, (x.top t h1).trans h5, h6⟩
    | _ => exact htk
  | rs b o l z cap A hh hz hl hA =>
    refine .rs b o l z cap A (Nat.lt_of_lt_of_le hh x.n) ((x.sz b hh).trans hz) hl ?_
    rw [x.loc b hh, x.off b hh, x.sz b hh, x.top b hh]; exact hA
  | map b hh => rw [← x.loc b hh]; exact .map b (Nat.lt_of_lt_of_le hh x.n)
  | nilmap => exact .nilmap
  | func f as cs as' cs' fa fc ha hc ea ec ra rc iha ihc => exact .func f as cs as' cs' fa fc ha hc ea ec iha ihc
  | nilfunc => exact .nilfunc
  | agg cs cs' f hh ho e r ih => exact .agg cs cs' f hh ho e ih
  | tuple cs cs' f hh e r ih => exact .tuple cs cs' f hh e ih

theorem Rel.mono {N0 : Nat} {g g' : G} {w w' : World} (x : Ext N0 g w g' w') {v : AV} {v' : Value} (h : Rel N0 g w v v') : Rel N0 g' w' v v' := h.mono0 x.toExt0

theorem RelL.mono {N0 : Nat} {g g' : G} {w w' : World} (x : Ext N0 g w g' w') {cs : List AV} {cs' : Array Value} (h : RelL N0 g w cs cs') : RelL N0 g' w' cs cs' :=
  ⟨h.1, fun j v hj => let ⟨v', e, r⟩ := h.2 j v hj; ⟨v', e, r.mono x⟩⟩

theorem RelM.mono {N0 : Nat} {g g' : G} {w w' : World} (x : Ext N0 g w g' w') {cs : List AV} {c o : Nat} (h : RelM N0 g w cs c o) : RelM N0 g' w' cs c o :=
  fun j v hj => let ⟨h1, h2, v', e, r⟩ := h j v hj; ⟨h1, x.imm _ _ h2, v', x.cell _ _ _ h2 e, r.mono x⟩

/-- What a growth right is worth may be forgotten. -/
theorem Rel.weak1 {N0 : Nat} {g : G} {w : World} {v : AV} {v' : Value} (h : Rel N0 g w v v') : Rel N0 g w v.weak1 v' := by
  cases h with
  | vs0 tk A cap hh => exact .vs0 .dead A cap trivial
  | vs es tk c o cap sz f h1 h2 h3 h4 h5 h6 => exact .vs es .dead c o cap sz f h1 h2 h3 trivial h5 h6
  | int => exact .int _ _
  | bool => exact .bool _
  | str l s hh => exact .str _ _ hh
  | ptr b i o hh => exact .ptr _ _ _ hh
  | aptr b o n z hh hz ht => exact .aptr _ _ _ _ hh hz ht
  | nilptr => exact .nilptr
  | pv cs c o f a b => exact .pv cs c o f a b
  | rs b o l z cap A h1 hz h2 h3 => exact .rs b o l z cap A h1 hz h2 h3
  | map b hh => exact .map b hh
  | nilmap => exact .nilmap
  | func f as cs as' cs' fa fc h1 h2 h3 h4 h5 h6 => exact .func f as cs as' cs' fa fc h1 h2 h3 h4 h5 h6
  | nilfunc => exact .nilfunc
  | agg cs cs' f h1 h2 h3 h4 => exact .agg cs cs' f h1 h2 h3 h4
  | tuple cs cs' f h1 h2 h3 => exact .tuple cs cs' f h1 h2 h3

theorem AV.one_weak1 (v : AV) : v.weak1.one = v.one := by cases v <;> rfl
theorem AV.cells_weak1 (v : AV) (h : v.one = true) : v.weak1.cells = [v.weak1] := by cases v <;> first | rfl | simp [AV.one] at h

theorem Rel.weak {N0 : Nat} {g : G} {w : World} {v : AV} {v' : Value} (h : Rel N0 g w v v') : Rel N0 g w v.weak v' := by
  have other : (∀ l, v ≠ .agg l) → Rel N0 g w v.weak v' := by
    intro hv
    have : v.weak = v.weak1 := by cases v <;> first | rfl | exact absurd rfl (hv _)
    rw [this]; exact h.weak1
  cases h with
  | agg cs cs' f h1 h2 h3 h4 =>
    refine .agg (cs.map AV.weak1) cs' f (by simp [h1]) ?_ ?_ ?_
    · intro j v hj
      rw [List.getElem?_map] at hj
      cases hc : cs[j]? with
      | none => simp [hc] at hj
      | some u => simp [hc] at hj; subst hj; rw [AV.one_weak1]; exact h2 j u hc
    · intro j v hj
      rw [List.getElem?_map] at hj
      cases hc : cs[j]? with
      | none => simp [hc] at hj
      | some u => exact h3 j u hc
    · intro j v hj
      rw [List.getElem?_map] at hj
      cases hc : cs[j]? with
      | none => simp [hc] at hj
      | some u => simp [hc] at hj; subst hj; exact (h4 j u hc).weak1
  | _ => exact other (fun l h => by cases h)

theorem AV.cells_weak (v : AV) : v.weak.cells = v.cells.map AV.weak1 := by cases v <;> rfl

theorem flat_weak : ∀ es : List AV, flat (es.map AV.weak) = (flat es).map AV.weak1
  | [] => rfl
  | e :: es => by rw [List.map_cons, flat_cons, flat_cons, flat_weak es, List.map_append, AV.cells_weak]

/-- The interpreter's blocks stand in memory. -/
structure BlkOk (N0 : Nat) (g : G) (w : World) (b sz : Nat) (es : List AV) : Prop where
  old : N0 ≤ g.loc b
  kind : g.kind (g.loc b) = .mine b
  size : g.sz b = sz
  len : ∀ e ∈ es, e.cells.length = sz
  mem : ∃ (arr : Array Value) (e : TypeId), w.heap[g.loc b]? = some (.cells arr e (0, 0)) ∧ g.top b = arr.size ∧ g.off b + es.length * sz ≤ arr.size ∧
    ∀ (j : Nat) (v : AV), (flat es)[j]? = some v → v.one = true ∧ ∃ v', arr[g.off b + j]? = some v' ∧ Rel N0 g w v v'

structure MapOk (N0 : Nat) (g : G) (w : World) (b : Nat) (ents : List (AV × AV)) : Prop where
  old : N0 ≤ g.loc b
  kind : g.kind (g.loc b) = .mine b
  mem : ∃ (arr : Array MapEntry) (clock : Nat), w.heap[g.loc b]? = some (.map arr clock) ∧ arr.size = ents.length ∧
    ∀ (j : Nat) (k v : AV), ents[j]? = some (k, v) → ∃ e : MapEntry, arr[j]? = some e ∧ Rel N0 g w k e.key ∧ Rel N0 g w v e.val

structure TokOk (N0 : Nat) (g : G) (w : World) (t : Nat) : Prop where
  old : N0 ≤ g.loc t
  kind : g.kind (g.loc t) = .imm (g.off t)
  mem : ∃ (arr : Array Value) (e : TypeId), w.heap[g.loc t]? = some (.cells arr e (0, 0)) ∧ g.top t = arr.size ∧ g.off t ≤ arr.size

structure Inv (N0 : Nat) (S : St) (g : G) (w : World) : Prop where
  n : g.n = S.length
  le : N0 ≤ w.heap.size
  fresh : ∀ c, w.heap.size ≤ c → g.kind c = .other
  blk : ∀ b sz es, S[b]? = some (.cells sz es) → BlkOk N0 g w b sz es
  mp : ∀ b ents, S[b]? = some (.map ents) → MapOk N0 g w b ents
  tk : ∀ t, S[t]? = some .tok → TokOk N0 g w t
  inj : ∀ t u, S[t]? = some .tok → S[u]? = some .tok → g.loc t = g.loc u → t = u

end Go.Proofs.YtmicmlcfbmphfaaDoor.Ae

/- How the model's small programs over memory run: loads, stores and new rows.
   No conditions beyond those of each lemma. -/
import Derived.Test.YtmicmlcfbmphfaaDoorAeRel
set_option linter.unusedSimpArgs false
set_option linter.unusedVariables false
set_option linter.unnecessarySimpa false
namespace Go.Proofs.YtmicmlcfbmphfaaDoor.Ae
open Go Go.RowKit

theorem run_bind {α β : Type} (P : Program) (s : Sem α) (f : α → Sem β) : ∀ w : World, (s.bind f).run P w = match s.run P w with | .ok a w' => (f a).run P w' | .halt h w' => .halt h w' := by
  induction s with
  | pure a => intro w; rfl
  | load m a k ih =>
    intro w
    simp only [Sem.bind, Sem.run]
    split
    · exact ih _ w
    · split
      · exact ih _ w
      · rfl
  | store m a v k ih =>
    intro w
    simp only [Sem.bind]
    cases v <;> simp only [Sem.run] <;> first | rfl | (split <;> (try split) <;> first | rfl | exact ih _)
  | new o k ih => intro w; exact ih _ _
  | shape r k ih => intro w; exact ih _ w
  | freeze a n k ih => intro w; exact ih _
  | frozen a k ih => intro w; exact ih _ w
  | getObj r k ih =>
    intro w
    simp only [Sem.bind, Sem.run]
    split <;> first | rfl | exact ih _ w
  | setObj r o k ih =>
    intro w
    simp only [Sem.bind, Sem.run]
    split <;> first | rfl | exact ih _
  | choose q k ih =>
    intro w
    simp only [Sem.bind, Sem.run]
    split
    · exact ih _ w
    · exact ih _ _
  | sys c k ih => intro w; exact ih _ _
  | program k ih => intro w; exact ih _ w
  | mark m k ih => intro w; exact ih _
  | halt h => intro w; rfl

section
variable {α β : Type} {P : Program} {w w1 : World}

theorem run_bind_ok {s : Sem α} {f : α → Sem β} {a : α} (h : s.run P w = .ok a w1) : (s >>= f).run P w = (f a).run P w1 := by
  show (s.bind f).run P w = _
  rw [run_bind, h]

theorem run_pure (a : α) : (pure a : Sem α).run P w = .ok a w := rfl
theorem run_program : program.run P w = .ok P w := rfl

theorem run_underlying {t : TypeId} {d : TypeDesc} (h : P.underlying t = some d) : (underlying t).run P w = .ok d w := by
  unfold underlying
  rw [run_bind_ok run_program]
  simp only [h]
  rfl

theorem run_typeInfo {t : TypeId} {i : TypeInfo} (h : P.info? t = some i) : (typeInfo t).run P w = .ok i w := by
  unfold typeInfo
  rw [run_bind_ok run_program]
  simp only [h]
  rfl

theorem run_sizeOf {t : TypeId} {n : Nat} (h : sizeT P t = some n) : (sizeOf t).run P w = .ok n w := by
  unfold sizeT at h
  cases hi : P.info? t with
  | none => simp [hi] at h
  | some i =>
    simp [hi] at h; subst h
    unfold sizeOf
    rw [run_bind_ok (run_typeInfo hi)]
    rfl

theorem run_isAgg {t : TypeId} {b : Bool} (h : aggT P t = some b) : (isAgg t).run P w = .ok b w := by
  unfold aggT at h
  unfold isAgg
  split at h
  · rename_i x hu; simp at h; subst h; rw [run_bind_ok (run_underlying hu)]; rfl
  · rename_i x y hu; simp at h; subst h; rw [run_bind_ok (run_underlying hu)]; rfl
  · rename_i d h1 h2 hu
    simp at h; subst h; rw [run_bind_ok (run_underlying hu)]
    cases d <;> first | rfl | exact absurd hu (by simp_all) | (simp_all; done)
  · simp at h

theorem cellA_heap {c o : Nat} {arr : Array Value} {e : TypeId} {fz : Nat × Nat} (h : w.heap[c]? = some (.cells arr e fz)) : cellA w c o = arr[o]? := by
  simp [cellA, World.cell?, h]

theorem heap_cellA {c o : Nat} {v : Value} (h : cellA w c o = some v) : ∃ arr e fz, w.heap[c]? = some (.cells arr e fz) ∧ arr[o]? = some v := by
  unfold cellA World.cell? at h
  split at h
  · rename_i arr e fz hc; exact ⟨arr, e, fz, hc, by simpa using h⟩
  · simp at h

theorem add_cell (c o n : Nat) : (⟨c, o, none⟩ : Addr).add n = ⟨c, o + n, none⟩ := by
  unfold Addr.add
  split
  · rename_i h; subst h; rfl
  · rfl

theorem run_load {c o : Nat} {v : Value} (h : cellA w c o = some v) : (load ⟨c, o, none⟩).run P w = .ok v w := by
  unfold cellA at h
  simp [load, Sem.run, h]

theorem run_loadCellsFrom (c o : Nat) : ∀ (n i : Nat) (acc : Array Value) (f : Nat → Value), (∀ j, j < n → cellA w c (o + (i + j)) = some (f j)) →
    ∃ arr : Array Value, (loadCellsFrom ⟨c, o, none⟩ i n acc).run P w = .ok arr w ∧ arr.size = acc.size + n ∧ (∀ j, j < acc.size → arr[j]? = acc[j]?) ∧ ∀ j, j < n → arr[acc.size + j]? = some (f j)
  | 0, i, acc, f, _ => ⟨acc, rfl, rfl, fun _ _ => rfl, fun j hj => by omega⟩
  | n + 1, i, acc, f, h => by
    have h0 := h 0 (by omega)
    obtain ⟨arr, hr, hs, hl, hn⟩ := run_loadCellsFrom c o n (i + 1) (acc.push (f 0)) (fun j => f (j + 1)) (fun j hj => by
      have := h (j + 1) (by omega); rwa [show i + (j + 1) = i + 1 + j by omega] at this)
    refine ⟨arr, ?_, by simp at hs; omega, fun j hj => ?_, fun j hj => ?_⟩
    · unfold loadCellsFrom
      rw [add_cell, run_bind_ok (run_load (by simpa using h0))]
      exact hr
    · rw [hl j (by simp; omega), Array.getElem?_push]
      simp; omega
    · cases j with
      | zero =>
        rw [hl _ (by simp)]
        simp
      | succ j =>
        have := hn j (by omega)
        rw [show (acc.push (f 0)).size + j = acc.size + (j + 1) by simp; omega] at this
        exact this

theorem run_loadCells {c o n : Nat} {f : Nat → Value} (h : ∀ j, j < n → cellA w c (o + j) = some (f j)) :
    ∃ arr : Array Value, (loadCells ⟨c, o, none⟩ n).run P w = .ok arr w ∧ arr.size = n ∧ ∀ j, j < n → arr[j]? = some (f j) := by
  obtain ⟨arr, hr, hs, _, hn⟩ := run_loadCellsFrom (P := P) c o n 0 #[] f (by simpa using h)
  exact ⟨arr, hr, by simpa using hs, by simpa using hn⟩

/-- The cells of a row, as an array. -/
theorem run_loadRel {N0 : Nat} {g : G} {cs : List AV} {c o : Nat} (h : RelM N0 g w cs c o) :
    ∃ arr : Array Value, (loadCells ⟨c, o, none⟩ cs.length).run P w = .ok arr w ∧ RelL N0 g w cs arr := by
  obtain ⟨f, hf⟩ := choose_cells (R := Rel N0 g w) (get := fun j => cellA w c (o + j)) (fun j v hj => (h j v hj).2.2)
  obtain ⟨arr, hr, hs, hn⟩ := run_loadCells (P := P) (w := w) (c := c) (o := o) (n := cs.length) (f := f) (fun j hj => (hf j cs[j] (by simp [hj])).1)
  refine ⟨arr, hr, hs, fun j v hj => ?_⟩
  have hlt : j < cs.length := by
    rcases Nat.lt_or_ge j cs.length with h | h
    · exact h
    · rw [List.getElem?_eq_none h] at hj; simp at hj
  exact ⟨f j, hn j hlt, (hf j v hj).2⟩

/-- A row in memory takes values from o on. -/
def putCells (arr : Array Value) (o : Nat) : List Value → Array Value
  | [] => arr
  | v :: r => putCells (arr.setIfInBounds o v) (o + 1) r

theorem putCells_size (vs : List Value) : ∀ (arr : Array Value) (o : Nat), (putCells arr o vs).size = arr.size := by
  induction vs with
  | nil => intro arr o; rfl
  | cons v r ih => intro arr o; simp [putCells, ih]

theorem putCells_get : ∀ (vs : List Value) (arr : Array Value) (o k : Nat), o + vs.length ≤ arr.size →
    (putCells arr o vs)[k]? = if o ≤ k ∧ k < o + vs.length then vs[k - o]? else arr[k]?
  | [], arr, o, k, _ => by simp [putCells]; omega
  | v :: r, arr, o, k, h => by
    simp only [List.length_cons] at h
    rw [putCells, putCells_get r _ _ _ (by simp; omega)]
    by_cases h1 : k = o
    · subst h1
      rw [if_neg (by omega), if_pos (by simp)]
      simp [Array.getElem?_setIfInBounds]; omega
    · by_cases h2 : o ≤ k ∧ k < o + (r.length + 1)
      · rw [if_pos (by omega), if_pos (by simpa using h2)]
        rw [show k - o = (k - (o + 1)) + 1 by omega]; simp
      · rw [if_neg (by omega), if_neg (by simpa using h2)]
        rw [Array.getElem?_setIfInBounds, if_neg (by omega)]

def setBlk (w : World) (c : Nat) (o : Obj) : World := { w with heap := w.heap.setIfInBounds c o }

theorem setBlk_get {c k : Nat} {o : Obj} : (setBlk w c o).heap[k]? = if k = c ∧ c < w.heap.size then some o else w.heap[k]? := by
  simp only [setBlk, Array.getElem?_setIfInBounds]
  by_cases h : c = k
  · subst h; by_cases h2 : c < w.heap.size <;> simp [h2]
  · rw [if_neg h, if_neg (by omega)]

theorem setBlk_same {c : Nat} {o : Obj} (h : w.heap[c]? = some o) : setBlk w c o = w := by
  unfold setBlk
  have : w.heap.setIfInBounds c o = w.heap := by
    apply Array.ext_getElem?
    intro i
    rw [Array.getElem?_setIfInBounds]
    by_cases hc : c = i
    · subst hc
      obtain ⟨hlt, he⟩ := Array.getElem?_eq_some_iff.1 h
      simp [hlt, he]
    · simp [hc]
  rw [this]

theorem setBlk_setBlk {c : Nat} {o o' : Obj} : setBlk (setBlk w c o) c o' = setBlk w c o' := by
  unfold setBlk
  simp

theorem lt_of_heap {c : Nat} {o : Obj} (h : w.heap[c]? = some o) : c < w.heap.size := (Array.getElem?_eq_some_iff.1 h).1

theorem run_store {c o : Nat} {arr : Array Value} {e : TypeId} {v : Value} (h : w.heap[c]? = some (.cells arr e (0, 0))) (ho : o < arr.size) (hv : oneV v = true) :
    (store ⟨c, o, none⟩ v).run P w = .ok () (setBlk w c (.cells (arr.setIfInBounds o v) e (0, 0))) := by
  have hc : w.cell? ⟨c, o, none⟩ = some arr[o] := by simp [World.cell?, h, ho]
  have hf : w.frozen? ⟨c, o, none⟩ = false := by simp [World.frozen?, h]
  have hw : w.setCell ⟨c, o, none⟩ v = setBlk w c (.cells (arr.setIfInBounds o v) e (0, 0)) := by
    unfold World.setCell setBlk
    congr 1
    apply Array.ext_getElem?
    intro i
    rw [Array.getElem?_modify, Array.getElem?_setIfInBounds]
    by_cases hi : c = i
    · subst hi
      obtain ⟨hlt, he⟩ := Array.getElem?_eq_some_iff.1 h
      simp [hlt, he]
    · simp [hi]
  unfold store
  cases v <;> first | (simp [oneV] at hv; done) | (simp only [Sem.run, hc, hf, hw]; rfl)

theorem run_storeCells (c : Nat) (e : TypeId) : ∀ (vs : List Value) (w : World) (arr : Array Value) (o i : Nat), w.heap[c]? = some (.cells arr e (0, 0)) →
    o + i + vs.length ≤ arr.size → (∀ v ∈ vs, oneV v = true) →
    (storeCells ⟨c, o, none⟩ vs i).run P w = .ok () (setBlk w c (.cells (putCells arr (o + i) vs) e (0, 0)))
  | [], w, arr, o, i, h, _, _ => by
    rw [show putCells arr (o + i) [] = arr from rfl, setBlk_same h]; rfl
  | v :: r, w, arr, o, i, h, hl, hv => by
    simp only [List.length_cons] at hl
    unfold storeCells
    rw [add_cell, run_bind_ok (run_store h (by omega) (hv v (by simp)))]
    have h2 : (setBlk w c (.cells (arr.setIfInBounds (o + i) v) e (0, 0))).heap[c]? = some (.cells (arr.setIfInBounds (o + i) v) e (0, 0)) := by
      rw [setBlk_get, if_pos ⟨rfl, lt_of_heap h⟩]
    rw [run_storeCells c e r _ _ o (i + 1) h2 (by simp; omega) (fun u hu => hv u (by simp [hu])), setBlk_setBlk]
    rfl

def pushBlk (w : World) (o : Obj) : World := { w with heap := w.heap.push o }

theorem pushBlk_get {k : Nat} {o : Obj} : (pushBlk w o).heap[k]? = if k = w.heap.size then some o else w.heap[k]? := by
  simp only [pushBlk, Array.getElem?_push]

theorem run_newRow {t : TypeId} {arr : Array Value} : (newRow t arr).run P w = .ok ⟨w.heap.size, 0, none⟩ (pushBlk w (.cells arr t (0, 0))) := rfl

theorem below_setBlk {N0 c : Nat} {o : Obj} (h : N0 ≤ c) : Below N0 w (setBlk w c o) :=
  ⟨rfl, rfl, rfl, by simp [setBlk], fun k hk => by rw [setBlk_get, if_neg (by omega)]⟩

theorem below_pushBlk {N0 : Nat} {o : Obj} (h : N0 ≤ w.heap.size) : Below N0 w (pushBlk w o) :=
  ⟨rfl, rfl, rfl, by simp [pushBlk], fun k hk => by rw [pushBlk_get, if_neg (by omega)]⟩

theorem below_drawn {N0 : Nat} {n : Nat} : Below N0 w { w with drawn := n } := ⟨rfl, rfl, rfl, Nat.le_refl _, fun _ _ => rfl⟩

end
end Go.Proofs.YtmicmlcfbmphfaaDoor.Ae

/- Each operation of the interpreter is what the model's operation comes to: the ones that make or write memory.
   No conditions beyond those of each lemma. -/
import Derived.Test.YtmicmlcfbmphfaaDoorAeOps4
set_option linter.unusedSimpArgs false
set_option linter.unusedVariables false
set_option linter.unnecessarySimpa false
namespace Go.Proofs.YtmicmlcfbmphfaaDoor.Ae
open Go Go.RowKit

section
variable {N0 : Nat} {S S' : St} {g : G} {w : World} {P : Program}

/-- What an operation that makes a value leaves. -/
def Made (N0 : Nat) (S' : St) (g : G) (w : World) (P : Program) (s : Sem Value) (v : AV) : Prop :=
  ∃ v' w' g', s.run P w = .ok v' w' ∧ Below N0 w w' ∧ Ext N0 g w g' w' ∧ Inv N0 S' g' w' ∧ Rel N0 g' w' v v'

/-- What an operation that only writes leaves. -/
def Wrote (N0 : Nat) (S' : St) (g : G) (w : World) (P : Program) (s : Sem Unit) : Prop :=
  ∃ w' g', s.run P w = .ok () w' ∧ Below N0 w w' ∧ Ext N0 g w g' w' ∧ Inv N0 S' g' w'

theorem run_zero {t : TypeId} {z : AV} (h : zeroT P t = some z) : ∃ z', (zeroValue t).run P w = .ok z' w ∧ Rel N0 g w z z' ∧ (∀ u ∈ z.cells, u.one = true) ∧ (P.info? t).bind (·.zero) = some z' := by
  unfold zeroT at h
  cases hi : P.info? t with
  | none => simp [hi] at h
  | some i =>
    simp only [hi, Option.bind_some] at h
    cases hz : i.zero with
    | none => simp [hz] at h
    | some z' =>
      simp [hz] at h
      refine ⟨z', ?_, rel_val h, rel_val_one h, by simp [hz]⟩
      unfold zeroValue
      rw [run_bind_ok (run_typeInfo hi)]
      simp only [hz]
      rfl

/-- A new row that the interpreter may write. -/
theorem push_mine (hi : Inv N0 S g w) {es : List AV} {arr : Array Value} {sz : Nat} (t : TypeId) (hlen : ∀ e ∈ es, e.cells.length = sz) (hfit : es.length * sz ≤ arr.size)
    (hr : ∀ (j : Nat) (v : AV), (flat es)[j]? = some v → v.one = true ∧ ∃ v' : Value, arr[j]? = some v' ∧ Rel N0 g w v v') :
    ∃ g', Ext N0 g w g' (pushBlk w (.cells arr t (0, 0))) ∧ Inv N0 (S ++ [.cells sz es]) g' (pushBlk w (.cells arr t (0, 0))) ∧ S.length < g'.n ∧ g'.loc S.length = w.heap.size ∧ g'.off S.length = 0 ∧
      g'.sz S.length = sz ∧ g'.top S.length = arr.size := by
  obtain ⟨h1, x1⟩ := hi.turn hi.unclaimed_new hi.le (.mine g.n) (.inr (Nat.le_refl _)) (w' := pushBlk w (.cells arr t (0, 0))) (fun k hk => by rw [pushBlk_get, if_neg hk]) (by simp [pushBlk]) (by simp [pushBlk])
    (.inr ⟨by simp [pushBlk], rfl⟩) (fun h0 e => by rw [hi.fresh _ (Nat.le_refl _)] at e; cases e)
  have x2 : Ext N0 { g with kind := upd g.kind w.heap.size (.mine g.n) } (pushBlk w (.cells arr t (0, 0))) (({ g with kind := upd g.kind w.heap.size (.mine g.n) } : G).add w.heap.size 0 sz arr.size) (pushBlk w (.cells arr t (0, 0))) := Ext.add
  have h2 := h1.add (c := w.heap.size) 0 sz arr.size (.cells sz es) (fun sz' es' he => by
    cases he
    have eloc : (({ g with kind := upd g.kind w.heap.size (.mine g.n) } : G).add w.heap.size 0 sz arr.size).loc g.n = w.heap.size := upd_same _ _ _
    have eoff : (({ g with kind := upd g.kind w.heap.size (.mine g.n) } : G).add w.heap.size 0 sz arr.size).off g.n = 0 := upd_same _ _ _
    refine ⟨by rw [eloc]; exact hi.le, by rw [eloc]; exact upd_same _ _ _, upd_same _ _ _, hlen, arr, t, by rw [eloc, pushBlk_get, if_pos rfl], upd_same _ _ _, by rw [eoff]; omega, fun j v hj => ?_⟩
    obtain ⟨ho, v', ha, hv⟩ := hr j v hj
    exact ⟨ho, v', by rw [eoff, Nat.zero_add]; exact ha, hv.mono (x1.trans x2)⟩) (fun _ he => by cases he) (fun he => by cases he)
  refine ⟨_, x1.trans x2, h2, ?_, ?_, ?_, ?_, ?_⟩
  · show S.length < g.n + 1; rw [hi.n]; omega
  all_goals rw [← hi.n]; exact upd_same _ _ _

/-- An operation that makes one new row of memory and nothing else. -/
def NewRow (N0 : Nat) (S S' : St) (g : G) (w : World) (P : Program) (s : Sem Value) (v : AV) : Prop :=
  ∃ (v' : Value) (arr : Array Value) (t : TypeId) (sz : Nat) (es : List AV), s.run P w = .ok v' (pushBlk w (.cells arr t (0, 0))) ∧ S' = S ++ [.cells sz es] ∧ (∀ e ∈ es, e.cells.length = sz) ∧ es.length * sz ≤ arr.size ∧
    (∀ (j : Nat) (u : AV), (flat es)[j]? = some u → u.one = true ∧ ∃ u' : Value, arr[j]? = some u' ∧ Rel N0 g w u u') ∧
    ∀ (g' : G) (w' : World), S.length < g'.n → g'.loc S.length = w.heap.size → g'.off S.length = 0 → g'.sz S.length = sz → g'.top S.length = arr.size → Rel N0 g' w' v v'

theorem NewRow.made {s : Sem Value} {v : AV} (hi : Inv N0 S g w) (h : NewRow N0 S S' g w P s v) : Made N0 S' g w P s v := by
  obtain ⟨v', arr, t, sz, es, h1, rfl, h3, h4, h5, h6⟩ := h
  obtain ⟨g', x, k1, k2, k3, k4, k5, k6⟩ := push_mine hi t h3 h4 h5
  exact ⟨v', _, g', h1, below_pushBlk hi.le, x, k1, h6 g' _ k2 k3 k4 k5 k6⟩

/-- A row of memory that is nobody's becomes the interpreter's. -/
theorem Inv.adopt (hi : Inv N0 S g w) {c : Nat} (ho : g.kind c = .other) (hN : N0 ≤ c) {es : List AV} {arr : Array Value} {t : TypeId} {sz : Nat} (hc : w.heap[c]? = some (.cells arr t (0, 0)))
    (hlen : ∀ e ∈ es, e.cells.length = sz) (hfit : es.length * sz ≤ arr.size)
    (hr : ∀ (j : Nat) (v : AV), (flat es)[j]? = some v → v.one = true ∧ ∃ v' : Value, arr[j]? = some v' ∧ Rel N0 g w v v') :
    ∃ g', Ext0 N0 g w g' w ∧ Inv N0 (S ++ [.cells sz es]) g' w ∧ S.length < g'.n ∧ g'.loc S.length = c ∧ g'.off S.length = 0 ∧ g'.sz S.length = sz ∧ g'.top S.length = arr.size ∧ ∀ k, k ≠ c → g'.kind k = g.kind k := by
  have hun : Unclaimed S g c := by
    refine ⟨fun b sz es hb e => ?_, fun b es hb e => ?_, fun b hb e => ?_⟩
    · have := (hi.blk b sz es hb).kind; rw [e, ho] at this; cases this
    · have := (hi.mp b es hb).kind; rw [e, ho] at this; cases this
    · have := (hi.tk b hb).kind; rw [e, ho] at this; cases this
  obtain ⟨h1, x1⟩ := hi.turn0 hun hN (.mine g.n) (w' := w) (fun k _ => rfl) (Nat.le_refl _) (lt_of_heap hc) (.inl (Nat.le_refl _)) (fun h0 e => by rw [ho] at e; cases e)
  have x2 : Ext0 N0 { g with kind := upd g.kind c (.mine g.n) } w (({ g with kind := upd g.kind c (.mine g.n) } : G).add c 0 sz arr.size) w := Ext0.add
  have h2 := h1.add (c := c) 0 sz arr.size (.cells sz es) (fun sz' es' he => by
    cases he
    have eloc : (({ g with kind := upd g.kind c (.mine g.n) } : G).add c 0 sz arr.size).loc g.n = c := upd_same _ _ _
    have eoff : (({ g with kind := upd g.kind c (.mine g.n) } : G).add c 0 sz arr.size).off g.n = 0 := upd_same _ _ _
    refine ⟨by rw [eloc]; exact hN, by rw [eloc]; exact upd_same _ _ _, upd_same _ _ _, hlen, arr, t, by rw [eloc]; exact hc, upd_same _ _ _, by rw [eoff]; omega, fun j v hj => ?_⟩
    obtain ⟨ho, v', ha, hv⟩ := hr j v hj
    exact ⟨ho, v', by rw [eoff, Nat.zero_add]; exact ha, hv.mono0 (x1.trans x2)⟩) (fun _ he => by cases he) (fun he => by cases he)
  refine ⟨_, x1.trans x2, h2, ?_, ?_, ?_, ?_, ?_, fun k hk => upd_ne _ _ hk⟩
  · show S.length < g.n + 1; rw [hi.n]; omega
  all_goals rw [← hi.n]; exact upd_same _ _ _

/-- A new row that nobody writes. -/
theorem push_imm (hi : Inv N0 S g w) {cs : List AV} {arr : Array Value} (t : TypeId) (ho : ∀ v ∈ cs, v.one = true) (hr : RelL N0 g w cs arr) :
    ∃ g', Ext N0 g w g' (pushBlk w (.cells arr t (0, 0))) ∧ Inv N0 S g' (pushBlk w (.cells arr t (0, 0))) ∧ RelM N0 g' (pushBlk w (.cells arr t (0, 0))) cs w.heap.size 0 := by
  obtain ⟨h1, x1⟩ := hi.turn hi.unclaimed_new hi.le (.imm arr.size) (.inr (Nat.le_refl _)) (w' := pushBlk w (.cells arr t (0, 0))) (fun k hk => by rw [pushBlk_get, if_neg hk]) (by simp [pushBlk]) (by simp [pushBlk])
    (.inr ⟨by simp [pushBlk], rfl⟩) (fun h0 e => by rw [hi.fresh _ (Nat.le_refl _)] at e; cases e)
  refine ⟨_, x1, h1, fun j v hj => ?_⟩
  obtain ⟨v', ha, hv⟩ := hr.2 j v hj
  refine ⟨ho v (List.mem_of_getElem? hj), .inr ⟨arr.size, upd_same _ _ _, by rw [Nat.zero_add, hr.1]; exact lt_of_get hj⟩, v', ?_, hv.mono x1⟩
  rw [cellA_heap (by rw [pushBlk_get, if_pos rfl]), Nat.zero_add]; exact ha

/-- A new row with a growth right. -/
theorem push_tok (hi : Inv N0 S g w) {cs : List AV} {arr : Array Value} (t : TypeId) (ho : ∀ v ∈ cs, v.one = true) (hsz : cs.length ≤ arr.size)
    (hr : ∀ (j : Nat) (v : AV), cs[j]? = some v → ∃ v' : Value, arr[j]? = some v' ∧ Rel N0 g w v v') :
    ∃ g', Ext N0 g w g' (pushBlk w (.cells arr t (0, 0))) ∧ Inv N0 (S ++ [.tok]) g' (pushBlk w (.cells arr t (0, 0))) ∧ RelM N0 g' (pushBlk w (.cells arr t (0, 0))) cs w.heap.size 0 ∧
      S.length < g'.n ∧ g'.loc S.length = w.heap.size ∧ g'.off S.length = cs.length ∧ g'.top S.length = arr.size := by
  obtain ⟨h1, x1⟩ := hi.turn hi.unclaimed_new hi.le (.imm cs.length) (.inr (Nat.le_refl _)) (w' := pushBlk w (.cells arr t (0, 0))) (fun k hk => by rw [pushBlk_get, if_neg hk]) (by simp [pushBlk]) (by simp [pushBlk])
    (.inr ⟨by simp [pushBlk], rfl⟩) (fun h0 e => by rw [hi.fresh _ (Nat.le_refl _)] at e; cases e)
  have x2 : Ext N0 { g with kind := upd g.kind w.heap.size (.imm cs.length) } (pushBlk w (.cells arr t (0, 0))) (({ g with kind := upd g.kind w.heap.size (.imm cs.length) } : G).add w.heap.size cs.length 0 arr.size) (pushBlk w (.cells arr t (0, 0))) := Ext.add
  have hun := hi.unclaimed_new
  have h2 := h1.add (c := w.heap.size) cs.length 0 arr.size .tok (fun _ _ he => by cases he) (fun _ he => by cases he) (fun _ => by
    have eloc : (({ g with kind := upd g.kind w.heap.size (.imm cs.length) } : G).add w.heap.size cs.length 0 arr.size).loc g.n = w.heap.size := upd_same _ _ _
    have eoff : (({ g with kind := upd g.kind w.heap.size (.imm cs.length) } : G).add w.heap.size cs.length 0 arr.size).off g.n = cs.length := upd_same _ _ _
    exact ⟨⟨by rw [eloc]; exact hi.le, by rw [eloc, eoff]; exact upd_same _ _ _, arr, t, by rw [eloc, pushBlk_get, if_pos rfl], upd_same _ _ _, by rw [eoff]; exact hsz⟩, ⟨hun.blk, hun.mp, hun.tk⟩⟩)
  refine ⟨_, x1.trans x2, h2, fun j v hj => ?_, ?_, ?_, ?_, ?_⟩
  · obtain ⟨v', ha, hv⟩ := hr j v hj
    refine ⟨ho v (List.mem_of_getElem? hj), .inr ⟨cs.length, upd_same _ _ _, by rw [Nat.zero_add]; exact lt_of_get hj⟩, v', ?_, hv.mono (x1.trans x2)⟩
    rw [cellA_heap (by rw [pushBlk_get, if_pos rfl]), Nat.zero_add]; exact ha
  · show S.length < g.n + 1; rw [hi.n]; omega
  all_goals rw [← hi.n]; exact upd_same _ _ _

theorem relL_flat1 {v : AV} {v' : Value} (h : Rel N0 g w v v') (ho : ∀ u ∈ v.cells, u.one = true) :
    ∀ (j : Nat) (u : AV), (flat [v])[j]? = some u → u.one = true ∧ ∃ u', v'.cells[j]? = some u' ∧ Rel N0 g w u u' := by
  intro j u hj
  simp [flat] at hj
  exact ⟨ho u (List.mem_of_getElem? hj), h.cells.2 j u hj⟩

theorem box_ok (hi : Inv N0 S g w) {mt : Bool} {t : TypeId} {v r : AV} {v' : Value} {n : Nat} (hr : Rel N0 g w v v') (hl : v.cells.length = n) (ho : ∀ u ∈ v.cells, u.one = true)
    (h : (match mt with | true => some (AV.ptr S.length 0 0, S ++ [AObj.cells n [v]]) | false => some (AV.pv (v.cells.map AV.weak1), S)) = some (r, S')) :
    Made N0 S' g w P (Instr.box t v') r := by
  have hrun : (Instr.box t v').run P w = .ok (.pointer (some ⟨w.heap.size, 0, none⟩)) (pushBlk w (.cells v'.cells t (0, 0))) := rfl
  cases mt with
  | true =>
    simp at h; obtain ⟨rfl, rfl⟩ := h
    obtain ⟨g', x, h1, h2, h3, h4, h5, h6⟩ := push_mine hi t (es := [v]) (arr := v'.cells) (sz := n) (by simpa using hl) (by have := hr.cells.1; simp; omega) (relL_flat1 hr ho)
    refine ⟨_, _, g', hrun, below_pushBlk hi.le, x, h1, ?_⟩
    have := Rel.ptr (N0 := N0) (g := g') (w := pushBlk w (.cells v'.cells t (0, 0))) S.length 0 0 h2
    rwa [h3, h4, Nat.zero_mul] at this
  | false =>
    simp at h; obtain ⟨rfl, rfl⟩ := h
    obtain ⟨g', x, h1, h2⟩ := push_imm hi t (cs := v.cells.map AV.weak1) (arr := v'.cells) (by
      intro u hu; obtain ⟨u0, h0, rfl⟩ := List.mem_map.1 hu; rw [AV.one_weak1]; exact ho u0 h0) ⟨by rw [List.length_map]; exact hr.cells.1, fun j u hj => by
        rw [List.getElem?_map] at hj
        cases hc : v.cells[j]? with
        | none => simp [hc] at hj
        | some u0 =>
          simp [hc] at hj; subst hj
          obtain ⟨u', h5, h6⟩ := hr.cells.2 j u0 hc
          exact ⟨u', h5, h6.weak1⟩⟩
    exact ⟨_, _, g', hrun, below_pushBlk hi.le, x, h1, Rel.mk_pv h2⟩

/-- n zero values, as a row's cells. -/
theorem zero_row {z : AV} {z' : Value} {sz n : Nat} (hr : Rel N0 g w z z') (hl : z.cells.length = sz) (ho : ∀ u ∈ z.cells, u.one = true) {arr : Array Value} (hs : n * sz ≤ arr.size)
    (ha : ∀ k, k < n * sz → arr[k]? = z'.cells[k % sz]?) :
    ∀ (j : Nat) (v : AV), (flat (List.replicate n z))[j]? = some v → v.one = true ∧ ∃ v', arr[j]? = some v' ∧ Rel N0 g w v v' := by
  intro j v hj
  have hlen : ∀ e ∈ List.replicate n z, e.cells.length = sz := fun e he => by rw [List.eq_of_mem_replicate he]; exact hl
  have hlt := lt_of_get hj
  rw [flat_length hlen, List.length_replicate] at hlt
  have hpos : 0 < sz := by
    rcases Nat.eq_zero_or_pos sz with h0 | h0
    · subst h0; simp at hlt
    · exact h0
  have hd : j / sz < n := by rw [Nat.div_lt_iff_lt_mul hpos]; exact hlt
  have hm : j % sz < sz := Nat.mod_lt _ hpos
  have hf := flat_get hlen (i := j / sz) (e := z) (by rw [List.getElem?_replicate, if_pos hd]) (j % sz) hm
  rw [show j / sz * sz + j % sz = j from Nat.div_add_mod' j sz, hj] at hf
  refine ⟨ho v (List.mem_of_getElem? hf.symm), ?_⟩
  obtain ⟨v', h1, h2⟩ := hr.cells.2 _ v hf.symm
  exact ⟨v', by rw [ha j hlt]; exact h1, h2⟩

theorem flat_ones : ∀ {cs : List AV}, (∀ v ∈ cs, v.one = true) → flat cs = cs
  | [], _ => rfl
  | v :: r, h => by
    rw [flat_cons, flat_ones (fun x hx => h x (by simp [hx]))]
    have := h v (by simp)
    cases v <;> first | rfl | simp [AV.one] at this

theorem ones_len {cs : List AV} (h : ∀ v ∈ cs, v.one = true) : ∀ e ∈ cs, e.cells.length = 1 := by
  intro e he
  have := h e he
  cases e <;> first | rfl | simp [AV.one] at this

theorem alloc_new {t : TypeId} {r : AV} (h : allocP P S t = some (r, S')) : NewRow N0 S S' g w P (Instr.alloc t true (.tuple #[])) r := by
  unfold allocP at h
  simp only [Option.bind_eq_some_iff] at h
  obtain ⟨z, hz, h⟩ := h
  obtain ⟨z', h0, hr, ho, _⟩ := run_zero (P := P) (N0 := N0) (g := g) (w := w) hz
  have hrun : (Instr.alloc t true (.tuple #[])).run P w = .ok (.pointer (some ⟨w.heap.size, 0, none⟩)) (pushBlk w (.cells z'.cells t (0, 0))) := by
    unfold Instr.alloc
    rw [run_bind_ok h0]
    rfl
  have plain : NewRow N0 S (S ++ [.cells z.cells.length [z]]) g w P (Instr.alloc t true (.tuple #[])) (.ptr S.length 0 0) := by
    refine ⟨_, _, t, _, [z], hrun, rfl, by simp, by have := hr.cells.1; simp; omega, relL_flat1 hr ho, fun g' w' h2 h3 h4 h5 h6 => ?_⟩
    have := Rel.ptr (N0 := N0) (g := g') (w := w') S.length 0 0 h2
    rwa [h3, h4, Nat.zero_mul] at this
  split at h
  · rename_i n e hu
    simp only [Option.bind_eq_some_iff] at h
    obtain ⟨sz, hsz, h⟩ := h
    split at h
    · rename_i hc
      obtain ⟨c1, c2, c3⟩ := hc
      simp at h; obtain ⟨rfl, rfl⟩ := h
      have hsize := hr.cells.1
      refine ⟨_, _, t, 1, z.cells, hrun, rfl, ones_len ho, by omega, fun j v hj => ?_, fun g' w' h2 h3 h4 h5 h6 => ?_⟩
      · rw [flat_ones ho] at hj
        exact ⟨ho v (List.mem_of_getElem? hj), hr.cells.2 j v hj⟩
      · have := Rel.aptr (N0 := N0) (g := g') (w := w') S.length 0 n 1 h2 h5 (by rw [h4, h6]; omega)
        rwa [h3, h4, Nat.zero_mul] at this
    · simp at h; obtain ⟨rfl, rfl⟩ := h; exact plain
  · simp at h; obtain ⟨rfl, rfl⟩ := h; exact plain
  · simp at h

theorem alloc_ok (hi : Inv N0 S g w) {t : TypeId} {r : AV} (h : allocP P S t = some (r, S')) : Made N0 S' g w P (Instr.alloc t true (.tuple #[])) r := (alloc_new h).made hi

theorem mkElem_cells (e : AV) (cs : List AV) (ho : ∀ v ∈ cs, v.one = true) : (mkElem e cs).cells = cs := by
  cases e <;> first
    | rfl
    | (cases cs with
       | nil => rfl
       | cons a r =>
         cases r with
         | nil =>
           have := ho a (by simp)
           cases a <;> first | rfl | simp [AV.one] at this
         | cons b r => rfl)

theorem splice_length {xs ys : List AV} {o : Nat} (h : o + ys.length ≤ xs.length) : (splice xs o ys).length = xs.length := by
  simp [splice]; omega

theorem splice_get {xs ys : List AV} {o : Nat} (h : o + ys.length ≤ xs.length) (k : Nat) : (splice xs o ys)[k]? = if o ≤ k ∧ k < o + ys.length then ys[k - o]? else xs[k]? := by
  unfold splice
  by_cases h1 : k < o
  · rw [List.append_assoc, List.getElem?_append_left (by simp; omega), List.getElem?_take_of_lt h1, if_neg (by omega)]
  · by_cases h2 : k < o + ys.length
    · rw [List.append_assoc, List.getElem?_append_right (by simp; omega), List.getElem?_append_left (by simp; omega), if_pos (by omega)]
      congr 1; simp; omega
    · rw [List.getElem?_append_right (by simp; omega), if_neg (by omega), List.getElem?_drop]
      congr 1; simp; omega

theorem splice_one {xs ys : List AV} {o : Nat} (h1 : ∀ v ∈ xs, v.one = true) (h2 : ∀ v ∈ ys, v.one = true) : ∀ v ∈ splice xs o ys, v.one = true := by
  intro v hv
  unfold splice at hv
  simp only [List.mem_append] at hv
  rcases hv with (hv | hv) | hv
  · exact h1 v (List.mem_of_mem_take hv)
  · exact h2 v hv
  · exact h1 v (List.mem_of_mem_drop hv)

/-- Where an element's cells lie in its row. -/
theorem flat_set {sz : Nat} {es : List AV} {i : Nat} {e e' : AV} (hs : ∀ e ∈ es, e.cells.length = sz) (hi : es[i]? = some e) (he : e'.cells.length = sz) (k : Nat) :
    (flat (es.set i e'))[k]? = if i * sz ≤ k ∧ k < i * sz + sz then e'.cells[k - i * sz]? else (flat es)[k]? := by
  have hlt := lt_of_get hi
  have hs' : ∀ x ∈ es.set i e', x.cells.length = sz := fun x hx => by
    rcases List.mem_or_eq_of_mem_set hx with h | h
    · exact hs x h
    · rw [h]; exact he
  by_cases hk : k < es.length * sz
  · have hpos : 0 < sz := by
      rcases Nat.eq_zero_or_pos sz with h0 | h0
      · subst h0; simp at hk
      · exact h0
    have hd : k / sz < es.length := by rw [Nat.div_lt_iff_lt_mul hpos]; exact hk
    have hm : k % sz < sz := Nat.mod_lt _ hpos
    have hkk : k / sz * sz + k % sz = k := Nat.div_add_mod' k sz
    have f1 := flat_get hs' (i := k / sz) (e := (es.set i e')[k / sz]'(by simpa using hd)) (by simp [hd]) (k % sz) hm
    have f2 := flat_get hs (i := k / sz) (e := es[k / sz]) (by simp [hd]) (k % sz) hm
    rw [hkk] at f1 f2
    by_cases hik : i = k / sz
    · have : i * sz ≤ k ∧ k < i * sz + sz := by subst hik; omega
      rw [if_pos this, f1]
      have e1 : (es.set i e')[k / sz]'(by simpa using hd) = e' := by simp [hik]
      rw [e1]; congr 1; subst hik; omega
    · have : ¬ (i * sz ≤ k ∧ k < i * sz + sz) := by
        rintro ⟨h1, h2⟩
        have : i = k / sz := by
          have h3 : i ≤ k / sz := by rw [Nat.le_div_iff_mul_le hpos]; exact h1
          have h4 : k / sz < i + 1 := by rw [Nat.div_lt_iff_lt_mul hpos, Nat.add_mul]; omega
          omega
        exact hik this
      rw [if_neg this, f1, f2]
      congr 2
      simp [hik]
  · have h1 : (flat (es.set i e')).length = es.length * sz := by rw [flat_length hs', List.length_set]
    rw [List.getElem?_eq_none (by omega), if_neg, List.getElem?_eq_none (by rw [flat_length hs]; omega)]
    rintro ⟨h2, h3⟩
    have : (i + 1) * sz ≤ es.length * sz := Nat.mul_le_mul_right sz hlt
    rw [Nat.add_mul] at this; omega

theorem store_ok (hi : Inv N0 S g w) {t : TypeId} {p v : AV} {p' v' : Value} (hp : Rel N0 g w p p') (hv : Rel N0 g w v v') (ho : ∀ u ∈ v.cells, u.one = true) (h : storeP P S t p v = some S') :
    Wrote N0 S' g w P (Instr.storeAt t p' v') := by
  unfold storeP at h
  split at h
  · rename_i b i o
    split at h
    · rename_i sz es hb
      simp only [Option.bind_eq_some_iff] at h
      obtain ⟨e, he, n, hn, h⟩ := h
      split at h
      · rename_i hc
        obtain ⟨c1, c2⟩ := hc
        simp at h; subst h
        cases hp with
        | ptr b i o hlt =>
        have hB := hi.blk b sz es hb
        obtain ⟨arr, ty, h1, h2, h3, h4⟩ := hB.mem
        have hlen := hB.len e (List.mem_of_getElem? he)
        have hie := lt_of_get he
        have hcs : v'.cells.size = n := by rw [hv.cells.1, c1]
        have hbnd : i * sz + sz ≤ es.length * sz := by
          have : (i + 1) * sz ≤ es.length * sz := Nat.mul_le_mul_right sz hie
          rw [Nat.add_mul] at this; omega
        have hone : ∀ u ∈ v'.cells.toList, oneV u = true := by
          intro u hu
          obtain ⟨j, hj⟩ := List.getElem?_of_mem hu
          have hj' : j < v.cells.length := by have := lt_of_get hj; simp at this; rw [hv.cells.1] at this; exact this
          obtain ⟨u', h5, h6⟩ := hv.cells.2 j _ (List.getElem?_eq_getElem hj')
          rw [← Array.getElem?_toList, hj] at h5
          cases h5
          exact h6.oneCell (ho _ (List.getElem_mem _))
        have hrun := run_storeCells (P := P) (g.loc b) ty v'.cells.toList w arr (g.off b + i * g.sz b + o) 0 h1 (by rw [hB.size]; simp; omega) hone
        have hrun' : (Instr.storeAt t (.pointer (some ⟨g.loc b, g.off b + i * g.sz b + o, none⟩)) v').run P w = .ok () (setBlk w (g.loc b) (.cells (putCells arr (g.off b + i * g.sz b + o + 0) v'.cells.toList) ty (0, 0))) := by
          unfold Instr.storeAt
          rw [run_bind_ok (show (Instr.sureAddr (.pointer (some ⟨g.loc b, g.off b + i * g.sz b + o, none⟩))).run P w = .ok ⟨g.loc b, g.off b + i * g.sz b + o, none⟩ w from rfl)]
          unfold storeVar
          rw [run_bind_ok (run_sizeOf hn), if_neg (by simp [hcs])]
          exact hrun
        have hlt0 := lt_of_heap h1
        have hone2 : ∀ u ∈ splice e.cells o v.cells, u.one = true := splice_one (fun u hu => by
          obtain ⟨j, hj⟩ := List.getElem?_of_mem hu
          have := flat_get hB.len he j (by have := lt_of_get hj; omega)
          rw [hj] at this
          exact (h4 _ u this).1) ho
        have hmc := mkElem_cells e _ hone2
        have hel : (mkElem e (splice e.cells o v.cells)).cells.length = sz := by rw [hmc, splice_length (by omega)]; exact hlen
        obtain ⟨k1, k2⟩ := hi.write hb (es' := es.set i (mkElem e (splice e.cells o v.cells))) (w' := setBlk w (g.loc b) (.cells (putCells arr (g.off b + i * g.sz b + o + 0) v'.cells.toList) ty (0, 0)))
          (arr := putCells arr (g.off b + i * g.sz b + o + 0) v'.cells.toList) (t := ty) (fun k hk => by rw [setBlk_get, if_neg (by omega)]) (by simp [setBlk]) (by rw [setBlk_get, if_pos ⟨rfl, hlt0⟩]) (by rw [putCells_size]; exact h2)
          (fun x hx => by rcases List.mem_or_eq_of_mem_set hx with hx | hx
                          · exact hB.len x hx
                          · rw [hx]; exact hel) (by rw [List.length_set, putCells_size]; exact h3) (fun j u hj => by
            rw [flat_set hB.len he hel] at hj
            rw [putCells_get _ _ _ _ (by rw [hB.size]; simp; omega), hB.size]
            split at hj
            · rename_i hr1
              rw [hmc, splice_get (by omega)] at hj
              split at hj
              · rename_i hr2
                obtain ⟨u', h5, h6⟩ := hv.cells.2 _ u hj
                refine ⟨ho u (List.mem_of_getElem? hj), u', ?_, h6⟩
                rw [if_pos (by simp; omega), ← h5, ← Array.getElem?_toList]
                congr 1; omega
              · rename_i hr2
                have := flat_get hB.len he (j - i * sz) (by omega)
                rw [hj, show i * sz + (j - i * sz) = j by omega] at this
                rw [if_neg (by simp; omega)]
                exact h4 j u this
            · rename_i hr1
              rw [if_neg (by simp; omega)]
              exact h4 j u hj)
        exact ⟨_, g, hrun', below_setBlk hB.old, k2, k1⟩
      · simp at h
    · simp at h
  · rename_i b off _ _
    split at h
    · rename_i sz es hb
      simp only [Option.bind_eq_some_iff] at h
      obtain ⟨n, hn, h⟩ := h
      split at h
      · rename_i hc
        obtain ⟨c0, c1, c2⟩ := hc
        subst c0
        simp at h; subst h
        cases hp with
        | aptr b off m z hlt hs ht =>
        have hB := hi.blk b 1 es hb
        obtain ⟨arr, ty, h1, h2, h3, h4⟩ := hB.mem
        have hcs : v'.cells.size = n := by rw [hv.cells.1, c1]
        have hone : ∀ u ∈ v'.cells.toList, oneV u = true := by
          intro u hu
          obtain ⟨j, hj⟩ := List.getElem?_of_mem hu
          have hj' : j < v.cells.length := by have := lt_of_get hj; simp at this; rw [hv.cells.1] at this; exact this
          obtain ⟨u', h5, h6⟩ := hv.cells.2 j _ (List.getElem?_eq_getElem hj')
          rw [← Array.getElem?_toList, hj] at h5
          cases h5
          exact h6.oneCell (ho _ (List.getElem_mem _))
        have hrun := run_storeCells (P := P) (g.loc b) ty v'.cells.toList w arr (g.off b + off * g.sz b) 0 h1 (by rw [hB.size]; simp; omega) hone
        have hrun' : (Instr.storeAt t (.pointer (some ⟨g.loc b, g.off b + off * g.sz b, none⟩)) v').run P w = .ok () (setBlk w (g.loc b) (.cells (putCells arr (g.off b + off * g.sz b + 0) v'.cells.toList) ty (0, 0))) := by
          unfold Instr.storeAt
          rw [run_bind_ok (show (Instr.sureAddr (.pointer (some ⟨g.loc b, g.off b + off * g.sz b, none⟩))).run P w = .ok ⟨g.loc b, g.off b + off * g.sz b, none⟩ w from rfl)]
          unfold storeVar
          rw [run_bind_ok (run_sizeOf hn), if_neg (by simp [hcs])]
          exact hrun
        have hlt0 := lt_of_heap h1
        have hvl := ones_len ho
        have hfv : flat v.cells = v.cells := flat_ones ho
        have hfl : (flat es).length = es.length * 1 := flat_length hB.len
        have hflat : flat (splice es off v.cells) = splice (flat es) off v.cells := by
          unfold splice
          rw [flat_append, flat_append, flat_take off hB.len, flat_drop (off + v.cells.length) hB.len, hfv, Nat.mul_one, Nat.mul_one]
        obtain ⟨k1, k2⟩ := hi.write hb (es' := splice es off v.cells) (w' := setBlk w (g.loc b) (.cells (putCells arr (g.off b + off * g.sz b + 0) v'.cells.toList) ty (0, 0)))
          (arr := putCells arr (g.off b + off * g.sz b + 0) v'.cells.toList) (t := ty) (fun k hk => by rw [setBlk_get, if_neg (by omega)]) (by simp [setBlk]) (by rw [setBlk_get, if_pos ⟨rfl, hlt0⟩]) (by rw [putCells_size]; exact h2)
          (fun x hx => by
            unfold splice at hx
            simp only [List.mem_append] at hx
            rcases hx with (hx | hx) | hx
            · exact hB.len x (List.mem_of_mem_take hx)
            · exact hvl x hx
            · exact hB.len x (List.mem_of_mem_drop hx)) (by rw [splice_length (by omega), putCells_size]; exact h3) (fun j u hj => by
            rw [hflat, splice_get (by omega)] at hj
            rw [putCells_get _ _ _ _ (by rw [hB.size]; simp; omega), hB.size]
            split at hj
            · rename_i hr2
              obtain ⟨u', h5, h6⟩ := hv.cells.2 _ u hj
              refine ⟨ho u (List.mem_of_getElem? hj), u', ?_, h6⟩
              rw [if_pos (by simp; omega), ← h5, ← Array.getElem?_toList]
              congr 1; omega
            · rename_i hr2
              rw [if_neg (by simp; omega)]
              exact h4 j u hj)
        exact ⟨_, g, hrun', below_setBlk hB.old, k2, k1⟩
      · simp at h
    · simp at h
  · simp at h

end
end Go.Proofs.YtmicmlcfbmphfaaDoor.Ae

/- Each operation of the interpreter is what the model's operation comes to: the ones that only read.
   No conditions beyond those of each lemma. -/
import Derived.Test.YtmicmlcfbmphfaaDoorAeInv
set_option linter.unusedSimpArgs false
set_option linter.unusedVariables false
set_option linter.unnecessarySimpa false
namespace Go.Proofs.YtmicmlcfbmphfaaDoor.Ae
open Go Go.RowKit

section
variable {N0 : Nat} {S : St} {g : G} {w : World} {P : Program}

theorem run_bind' {α β : Type} (s : Sem α) (f : α → Sem β) : (s >>= f).run P w = match s.run P w with | .ok a w' => (f a).run P w' | .halt h w' => .halt h w' := run_bind P s f w

theorem run_pure' {α : Type} (a : α) : (pure a : Sem α).run P w = .ok a w := rfl

theorem rel_val0 {v : Value} {a : AV} (h : ofVal0 v = some a) : Rel N0 g w a v ∧ a.one = true := by
  unfold ofVal0 at h
  split at h <;> first
    | (simp at h; done)
    | (simp only [Option.some.injEq] at h; subst h; refine ⟨?_, rfl⟩; constructor <;> first | done | rfl | exact ⟨rfl, rfl⟩)

theorem relL_vals : ∀ {l : List Value} {as : List AV}, ofVals l = some as → RelL N0 g w as l.toArray ∧ ∀ v ∈ as, v.one = true
  | [], as, h => by simp [ofVals] at h; subst h; exact ⟨RelL.nil, by simp⟩
  | v :: r, as, h => by
    simp only [ofVals, Option.bind_eq_some_iff] at h
    obtain ⟨a, h1, as', h2, h3⟩ := h
    simp at h3; subst h3
    obtain ⟨i1, i2⟩ := relL_vals (l := r) h2
    obtain ⟨r1, r2⟩ := rel_val0 (N0 := N0) (g := g) (w := w) h1
    refine ⟨⟨by simpa using i1.1, fun j u hj => ?_⟩, by simpa [r2] using i2⟩
    cases j with
    | zero => simp at hj; subst hj; exact ⟨v, by simp, r1⟩
    | succ j => simp at hj; simpa using i1.2 j u hj

theorem rel_val {v : Value} {a : AV} (h : ofVal v = some a) : Rel N0 g w a v := by
  unfold ofVal at h
  split at h
  · rename_i cs
    simp only [Option.map_eq_some_iff] at h
    obtain ⟨as, h1, rfl⟩ := h
    obtain ⟨i1, i2⟩ := relL_vals (N0 := N0) (g := g) (w := w) h1
    exact Rel.mk_agg i2 (by simpa using i1)
  · exact (rel_val0 h).1

theorem rel_val_one {v : Value} {a : AV} (h : ofVal v = some a) : ∀ u ∈ a.cells, u.one = true := by
  unfold ofVal at h
  split at h
  · rename_i cs
    simp only [Option.map_eq_some_iff] at h
    obtain ⟨as, h1, rfl⟩ := h
    exact (relL_vals (N0 := 0) (g := ⟨0, fun _ => .other, fun _ => 0, fun _ => 0, fun _ => 0, fun _ => 0⟩) (w := default) h1).2
  · have := (rel_val0 (N0 := 0) (g := ⟨0, fun _ => .other, fun _ => 0, fun _ => 0, fun _ => 0, fun _ => 0⟩) (w := default) h).2
    intro u hu
    cases a <;> first | (simp [AV.one] at this; done) | (simp [AV.cells] at hu; subst hu; rfl)

def GOk (N0 : Nat) (g : G) (w : World) (gl : Gl) : Prop := ∀ n cs, gl n = some cs → RelM N0 g w cs n 0

theorem GOk.mono {gl : Gl} {g' : G} {w' : World} (h : GOk N0 g w gl) (x : Ext N0 g w g' w') : GOk N0 g' w' gl := fun n cs hn => (h n cs hn).mono x

def EnvRel (N0 : Nat) (g : G) (w : World) (e : Env) (tmps : Array Value) : Prop := ∀ t v, look e t = some v → t < tmps.size ∧ Rel N0 g w v (tmps.getD t undef)

theorem EnvRel.mono {e : Env} {tmps : Array Value} {g' : G} {w' : World} (h : EnvRel N0 g w e tmps) (x : Ext N0 g w g' w') : EnvRel N0 g' w' e tmps :=
  fun t v ht => ⟨(h t v ht).1, (h t v ht).2.mono x⟩

theorem rel_opnd {gl : Gl} {e : Env} {a : Act} (hg : GOk N0 g w gl) (he : EnvRel N0 g w e a.tmps) {x : Operand} {v : AV} (h : opnd gl e x = some v) : Rel N0 g w v (a.eval x) := by
  cases x with
  | tmp t => exact (he t v h).2
  | const c => exact rel_val h
  | func f =>
    simp [opnd] at h; subst h
    exact Rel.mk_func RelL.nil RelL.nil
  | global n =>
    simp only [opnd, Option.map_eq_some_iff] at h
    obtain ⟨cs, h1, rfl⟩ := h
    exact Rel.mk_pv (hg n cs h1)

theorem relL_opnds {gl : Gl} {e : Env} {a : Act} (hg : GOk N0 g w gl) (he : EnvRel N0 g w e a.tmps) : ∀ {xs : List Operand} {vs : List AV}, opnds gl e xs = some vs →
    RelL N0 g w vs (xs.map a.eval).toArray
  | [], vs, h => by simp [opnds] at h; subst h; exact RelL.nil
  | x :: r, vs, h => by
    simp only [opnds, Option.bind_eq_some_iff] at h
    obtain ⟨v, h1, as', h2, h3⟩ := h
    simp at h3; subst h3
    have i1 := relL_opnds hg he (xs := r) h2
    have r1 := rel_opnd hg he h1
    refine ⟨by simpa using i1.1, fun j u hj => ?_⟩
    cases j with
    | zero => simp at hj; subst hj; exact ⟨a.eval x, by simp, r1⟩
    | succ j => simp at hj; simpa using i1.2 j u hj

/-- Cells that can be read. -/
def RelC (N0 : Nat) (g : G) (w : World) (cs : List AV) (c o : Nat) : Prop :=
  ∀ (j : Nat) (v : AV), cs[j]? = some v → v.one = true ∧ ∃ v', cellA w c (o + j) = some v' ∧ Rel N0 g w v v'

theorem RelM.relC {cs : List AV} {c o : Nat} (h : RelM N0 g w cs c o) : RelC N0 g w cs c o := fun j v hj => ⟨(h j v hj).1, (h j v hj).2.2⟩

theorem RelC.drop {xs : List AV} {c o : Nat} (h : RelC N0 g w xs c o) (n : Nat) : RelC N0 g w (xs.drop n) c (o + n) := by
  intro j v hj
  rw [List.getElem?_drop] at hj
  have := h (n + j) v hj
  rwa [show o + (n + j) = o + n + j by omega] at this

theorem RelC.take {xs : List AV} {c o : Nat} (h : RelC N0 g w xs c o) (n : Nat) : RelC N0 g w (xs.take n) c o := by
  intro j v hj
  by_cases hlt : j < n
  · rw [List.getElem?_take_of_lt hlt] at hj; exact h j v hj
  · rw [List.getElem?_eq_none (by simp; omega)] at hj; simp at hj

theorem RelC.one {xs : List AV} {c o : Nat} (h : RelC N0 g w xs c o) : ∀ v ∈ xs, v.one = true := fun v hv => by
  obtain ⟨j, hj⟩ := List.getElem?_of_mem hv; exact (h j v hj).1

theorem run_loadRelC {cs : List AV} {c o : Nat} (h : RelC N0 g w cs c o) :
    ∃ arr : Array Value, (loadCells ⟨c, o, none⟩ cs.length).run P w = .ok arr w ∧ RelL N0 g w cs arr := by
  obtain ⟨f, hf⟩ := choose_cells (R := Rel N0 g w) (get := fun j => cellA w c (o + j)) (fun j v hj => (h j v hj).2)
  obtain ⟨arr, hr, hs, hn⟩ := run_loadCells (P := P) (w := w) (c := c) (o := o) (n := cs.length) (f := f) (fun j hj => (hf j cs[j] (by simp [hj])).1)
  exact ⟨arr, hr, hs, fun j v hj => ⟨f j, hn j (lt_of_get hj), (hf j v hj).2⟩⟩

/-- A place of the interpreter's own or one that nobody writes. -/
theorem place_rel (hi : Inv N0 S g w) {p : AV} {p' : Value} {cs : List AV} (hr : Rel N0 g w p p') (h : place S p = some cs) :
    ∃ c o, p' = .pointer (some ⟨c, o, none⟩) ∧ RelC N0 g w cs c o := by
  unfold place at h
  split at h
  · simp at h; subst h
    obtain ⟨c, o, e, hm⟩ := RelM.of_pv hr
    exact ⟨c, o, e, hm.relC⟩
  · rename_i b i o
    split at h
    · rename_i sz es hb
      simp only [Option.map_eq_some_iff] at h
      obtain ⟨e, he, rfl⟩ := h
      cases hr with
      | ptr b i o hlt =>
        have hB := hi.blk b sz es hb
        obtain ⟨arr, t, h1, h2, h3, h4⟩ := hB.mem
        refine ⟨g.loc b, g.off b + i * g.sz b + o, rfl, fun j v hj => ?_⟩
        rw [List.getElem?_drop] at hj
        have hlen := hB.len e (List.mem_of_getElem? he)
        have hlt2 := lt_of_get hj
        have hf := flat_get hB.len he (o + j) (by omega)
        rw [hj] at hf
        obtain ⟨ho, v', ha, hv⟩ := h4 _ v hf
        refine ⟨ho, v', ?_, hv⟩
        rw [cellA_heap h1, hB.size, ← ha]
        congr 1; omega
    · simp at h
  · rename_i b off _ _
    split at h
    · rename_i sz es hb
      split at h
      · rename_i hle
        simp only [Option.some.injEq] at h
        subst h
        cases hr with
        | aptr b off m z hlt hs ht =>
          have hB := hi.blk b sz es hb
          obtain ⟨arr, t, h1, h2, h3, h4⟩ := hB.mem
          refine ⟨g.loc b, g.off b + off * g.sz b, rfl, fun j v hj => ?_⟩
          rw [show (es.drop off).flatMap AV.cells = flat (es.drop off) from rfl, flat_drop off hB.len, List.getElem?_drop] at hj
          obtain ⟨ho, v', ha, hv⟩ := h4 _ v hj
          refine ⟨ho, v', ?_, hv⟩
          rw [cellA_heap h1, hB.size, ← ha]
          congr 1; omega
      · simp at h
    · simp at h
  · simp at h

theorem take1_rel {t : TypeId} {cs : List AV} {c o : Nat} {v : AV} (hr : RelC N0 g w cs c o) (h : take1 P t cs = some v) :
    ∃ v', (loadVar t ⟨c, o, none⟩).run P w = .ok v' w ∧ Rel N0 g w v v' := by
  simp only [take1, Option.bind_eq_some_iff] at h
  obtain ⟨b, hb, h⟩ := h
  unfold loadVar
  rw [run_bind_ok (run_isAgg hb)]
  cases b with
  | true =>
    simp only [Option.bind_eq_some_iff] at h
    obtain ⟨n, hn, h⟩ := h
    split at h
    · rename_i hle
      simp at h; subst h
      obtain ⟨arr, h1, h2⟩ := run_loadRelC (P := P) (hr.take n)
      refine ⟨.agg arr, ?_, Rel.mk_agg (hr.take n).one h2⟩
      simp only [if_true]
      rw [run_bind_ok (run_sizeOf hn)]
      rw [List.length_take, Nat.min_eq_left hle] at h1
      rw [run_bind_ok h1]
      rfl
    · simp at h
  | false =>
    simp only at h
    obtain ⟨_, v', h1, h2⟩ := hr 0 v h
    exact ⟨v', run_load (by simpa using h1), h2⟩

theorem load_ok (hi : Inv N0 S g w) {t : TypeId} {p v : AV} {p' : Value} (hr : Rel N0 g w p p') (h : loadP P S t p = some v) :
    ∃ v', (Instr.loadAt t p').run P w = .ok v' w ∧ Rel N0 g w v v' := by
  simp only [loadP, Option.bind_eq_some_iff] at h
  obtain ⟨cs, h1, h2⟩ := h
  obtain ⟨c, o, rfl, hc⟩ := place_rel hi hr h1
  obtain ⟨v', h3, h4⟩ := take1_rel (P := P) hc h2
  exact ⟨v', h3, h4⟩

/-- A part of an aggregate. -/
theorem part_rel {t : TypeId} {cs : List AV} {cs' : Array Value} {o : Nat} {v : AV} (hr : RelL N0 g w cs cs') (ho : ∀ v ∈ cs, v.one = true) (h : take1 P t (cs.drop o) = some v) :
    ∃ v', (part t cs' o).run P w = .ok v' w ∧ Rel N0 g w v v' := by
  simp only [take1, Option.bind_eq_some_iff] at h
  obtain ⟨b, hb, h⟩ := h
  unfold part
  rw [run_bind_ok (run_isAgg hb)]
  cases b with
  | true =>
    simp only [Option.bind_eq_some_iff] at h
    obtain ⟨n, hn, h⟩ := h
    split at h
    · rename_i hle
      simp only [List.length_drop] at hle
      simp at h; subst h
      refine ⟨.agg (cs'.extract o (o + n)), ?_, Rel.mk_agg (fun v hv => ho v (List.mem_of_mem_drop (List.mem_of_mem_take hv))) ⟨?_, fun j u hj => ?_⟩⟩
      · simp only [if_true]
        rw [run_bind_ok (run_sizeOf hn)]
        rfl
      · simp only [Array.size_extract, List.length_take, List.length_drop, hr.1]; omega
      · have hlt := lt_of_get hj
        simp only [List.length_take, List.length_drop] at hlt
        rw [List.getElem?_take_of_lt (by omega), List.getElem?_drop] at hj
        obtain ⟨v', h1, h2⟩ := hr.2 _ u hj
        refine ⟨v', ?_, h2⟩
        rw [Array.getElem?_extract]
        rw [if_pos (by have := hr.1; omega)]
        exact h1
    · simp at h
  | false =>
    simp only at h
    rw [List.getElem?_drop] at h
    obtain ⟨v', h1, h2⟩ := hr.2 _ v h
    simp only [Nat.add_zero] at h1
    refine ⟨v', ?_, h2⟩
    simp only [Bool.false_eq_true, if_false, h1]
    rfl

theorem field_ok {s : TypeId} {x v : AV} {x' : Value} {f : Nat} (hr : Rel N0 g w x x') (h : fieldP P s x f = some v) :
    ∃ v', (Instr.field s x' f).run P w = .ok v' w ∧ Rel N0 g w v v' := by
  simp only [fieldP, Option.bind_eq_some_iff] at h
  obtain ⟨fd, hf, h⟩ := h
  unfold fieldOf at hf
  split at hf
  · rename_i fs hu
    split at h
    · rename_i cs
      obtain ⟨cs', rfl, hl, ho⟩ := RelL.of_agg hr
      obtain ⟨v', h1, h2⟩ := part_rel hl ho h
      refine ⟨v', ?_, h2⟩
      unfold Instr.field
      rw [run_bind_ok (run_underlying hu)]
      simp only [hf]
      rw [run_bind_ok (show (asAgg (.agg cs')).run P w = .ok cs' w from rfl)]
      exact h1
    · simp at h
  · simp at hf

theorem fieldAddr_ok {s : TypeId} {p v : AV} {p' : Value} {f : Nat} (hr : Rel N0 g w p p') (h : fieldAddrP P s p f = some v) :
    ∃ v', (Instr.fieldAt s p' f).run P w = .ok v' w ∧ Rel N0 g w v v' := by
  simp only [fieldAddrP, Option.bind_eq_some_iff] at h
  obtain ⟨fd, hf, n, hn, h⟩ := h
  unfold fieldOf at hf
  split at hf
  · rename_i fs hu
    split at h
    · simp at h
    · rename_i hne
      have key : ∀ c o, (Instr.fieldAt s (.pointer (some ⟨c, o, none⟩)) f).run P w = .ok (.pointer (some ⟨c, o + fd.offset, none⟩)) w := by
        intro c o
        unfold Instr.fieldAt
        rw [run_bind_ok (run_underlying hu)]
        simp only [hf]
        rw [run_bind_ok (show (Instr.sureAddr (.pointer (some ⟨c, o, none⟩))).run P w = .ok ⟨c, o, none⟩ w from rfl)]
        have : (fieldPlace ⟨c, o, none⟩ fd).run P w = .ok ⟨c, o + fd.offset, none⟩ w := by
          unfold fieldPlace
          rw [run_bind_ok (run_sizeOf hn), if_neg hne, add_cell]
          rfl
        rw [run_bind_ok this]
        rfl
      split at h
      · rename_i b i o
        simp at h; subst h
        cases hr with
        | ptr b i o hlt =>
          refine ⟨_, key _ _, ?_⟩
          rw [Nat.add_assoc]
          exact .ptr b i (o + fd.offset) hlt
      · rename_i cs
        simp at h; subst h
        obtain ⟨c, o, rfl, hm⟩ := RelM.of_pv hr
        exact ⟨_, key _ _, Rel.mk_pv (hm.drop _)⟩
      · simp at h
  · simp at hf

theorem indexAddr_ok {t : TypeId} {x ix v : AV} {x' ix' : Value} (hr : Rel N0 g w x x') (hx : Rel N0 g w ix ix') (h : indexAddrP P t x ix = some v) :
    ∃ v', (Instr.indexAt t x' ix').run P w = .ok v' w ∧ Rel N0 g w v v' := by
  unfold indexAddrP at h
  split at h
  · rename_i k i
    cases hx
    split at h
    · simp at h
    · rename_i hi0
      have hi : 0 ≤ i := by omega
      have hlt : ∀ n : Nat, i.toNat < n → (0 ≤ i ∧ i < (n : Int)) := fun n hn => ⟨hi, by omega⟩
      split at h
      · rename_i n e hu
        simp only [Option.bind_eq_some_iff] at h
        obtain ⟨sz, hsz, h⟩ := h
        split at h
        · simp at h
        · split at h
          · rename_i hne hn
            have key : ∀ c o, (Instr.indexAt t (.pointer (some ⟨c, o, none⟩)) (.int k i)).run P w = .ok (.pointer (some ⟨c, o + i.toNat * sz, none⟩)) w := by
              intro c o
              simp [Instr.indexAt, run_underlying hu, asIntOf, Instr.sureAddr, hlt n hn, run_sizeOf hsz, add_cell]
            split at h
            · rename_i b j o
              simp at h; subst h
              cases hr with
              | ptr b j o hb =>
                refine ⟨_, key _ _, ?_⟩
                rw [Nat.add_assoc]
                exact .ptr b j (o + i.toNat * sz) hb
            · rename_i cs
              simp at h; subst h
              obtain ⟨c, o, rfl, hm⟩ := RelM.of_pv hr
              exact ⟨_, key _ _, Rel.mk_pv (hm.drop _)⟩
            · rename_i b off m asz
              split at h
              · rename_i hm
                simp at h; subst h
                cases hr with
                | aptr b off m z hb hz ht =>
                  refine ⟨_, key _ _, ?_⟩
                  rw [← hm.2, ← hz, Nat.add_assoc, ← Nat.add_mul]
                  exact .ptr b (off + i.toNat) 0 hb
              · simp at h
            · simp at h
          · simp at h
      · rename_i e hu
        simp only [Option.bind_eq_some_iff] at h
        obtain ⟨sz, hsz, h⟩ := h
        have key : ∀ (c o len cap : Nat), i.toNat < len → (Instr.indexAt t (.slice (some ⟨c, o, none⟩) len cap) (.int k i)).run P w = .ok (.pointer (some ⟨c, o + i.toNat * sz, none⟩)) w := by
          intro c o len cap hn
          simp [Instr.indexAt, run_underlying hu, asIntOf, hlt len hn, run_sizeOf hsz, add_cell]
        split at h
        · rename_i es tk
          simp only [Option.bind_eq_some_iff] at h
          obtain ⟨e1, he1, h⟩ := h
          split at h
          · rename_i hl
            simp at h; subst h
            rcases Rel.of_vs hr with ⟨rfl, _⟩ | ⟨hne, c, o, cap, sz', rfl, hs, hcap, _, hm⟩
            · simp at he1
            · have hzz : sz' = sz := by rw [← hs e1 (List.mem_of_getElem? he1), hl]
              subst hzz
              refine ⟨_, key c o es.length cap (lt_of_get he1), Rel.mk_pv (fun j v hj => ?_)⟩
              have := flat_get hs he1 j (by have := lt_of_get hj; omega)
              rw [hj] at this
              have := hm _ v this
              rwa [show o + (i.toNat * sz' + j) = o + i.toNat * sz' + j by omega] at this
          · simp at h
        · rename_i b off len rsz
          split at h
          · rename_i hm
            simp at h; subst h
            cases hr with
            | rs b off len z cap A hb hz hl hA =>
              rcases hA with h0 | ⟨rfl, hA⟩
              · omega
              · refine ⟨_, key _ _ len cap hm.1, ?_⟩
                rw [← hm.2, ← hz, Nat.add_assoc, ← Nat.add_mul]
                exact .ptr b (off + i.toNat) 0 hb
          · simp at h
        · simp at h
      · simp at h
  · simp at h

end
end Go.Proofs.YtmicmlcfbmphfaaDoor.Ae

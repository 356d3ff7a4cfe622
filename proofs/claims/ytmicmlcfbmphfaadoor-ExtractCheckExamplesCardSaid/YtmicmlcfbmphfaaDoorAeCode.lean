/- One operation of the interpreter, whichever it is but for a call of the program's own.
   No conditions beyond those of each lemma. -/
import Derived.Test.YtmicmlcfbmphfaaDoorAeOps7
set_option linter.unusedSimpArgs false
set_option linter.unusedVariables false
set_option linter.unnecessarySimpa false
namespace Go.Proofs.YtmicmlcfbmphfaaDoor.Ae
open Go Go.RowKit

section
variable {N0 : Nat} {S S' : St} {g : G} {w : World} {P : Program} {gl : Gl} {e : Env} {a : Act}

theorem noTup_ne {v : AV} (h : v.noTup = true) : ∀ l, v ≠ .tuple l := by
  intro l hl; subst hl; simp [AV.noTup] at h

/-- What an operation leaves. -/
def Done (N0 : Nat) (S' : St) (g : G) (w : World) (P : Program) (s : Sem Next) (r : Option AV) : Prop :=
  ∃ nx w' g', s.run P w = .ok nx w' ∧ Below N0 w w' ∧ Ext N0 g w g' w' ∧ Inv N0 S' g' w' ∧
    (match r with | some v => ∃ v', nx = .value v' ∧ Rel N0 g' w' v v' | none => nx = .skip)

theorem Done.read (hi : Inv N0 S g w) {s : Sem Value} {v : AV} (h : ∃ v', s.run P w = .ok v' w ∧ Rel N0 g w v v') : Done N0 S g w P (do pure (.value (← s))) (some v) := by
  obtain ⟨v', h1, h2⟩ := h
  exact ⟨.value v', w, g, by rw [run_bind_ok h1]; rfl, Below.refl _ _, Ext.refl, hi, v', rfl, h2⟩

theorem Done.made {s : Sem Value} {v : AV} (h : Made N0 S' g w P s v) : Done N0 S' g w P (do pure (.value (← s))) (some v) := by
  obtain ⟨v', w', g', h1, h2, h3, h4, h5⟩ := h
  exact ⟨.value v', w', g', by rw [run_bind_ok h1]; rfl, h2, h3, h4, v', rfl, h5⟩

theorem Done.wrote {s : Sem Unit} (h : Wrote N0 S' g w P s) : Done N0 S' g w P (do s; pure .skip) none := by
  obtain ⟨w', g', h1, h2, h3, h4⟩ := h
  exact ⟨.skip, w', g', by rw [run_bind_ok h1]; rfl, h2, h3, h4, rfl⟩

theorem val_some {v : Option AV} {r : Option AV} (h : val v S = some (r, S')) : ∃ u, v = some u ∧ r = some u ∧ S' = S := by
  unfold val at h
  simp only [Option.map_eq_some_iff, Prod.mk.injEq] at h
  obtain ⟨u, h1, h2, h3⟩ := h
  exact ⟨u, h1, h2.symm, h3.symm⟩

theorem valS_some {v : Option (AV × St)} {r : Option AV} (h : valS v = some (r, S')) : ∃ u, v = some (u, S') ∧ r = some u := by
  unfold valS at h
  simp only [Option.map_eq_some_iff, Prod.mk.injEq] at h
  obtain ⟨⟨u, s⟩, h1, rfl, rfl⟩ := h
  exact ⟨u, h1, rfl⟩

theorem eff_some {v : Option St} {r : Option AV} (h : eff v = some (r, S')) : v = some S' ∧ r = none := by
  unfold eff at h
  simp only [Option.map_eq_some_iff, Prod.mk.injEq] at h
  obtain ⟨s, h1, h2, h3⟩ := h
  exact ⟨by rw [h1, h3], h2.symm⟩

def evp (a : Act) (p : Nat × Operand) : Nat × Value := (p.1, a.eval p.2)

theorem evp_arr (ps : Array (Nat × Operand)) : (ps.map fun (i, x) => (i, a.eval x)) = (ps.toList.map (evp a)).toArray := by
  have : (fun (p : Nat × Operand) => match p with | (i, x) => (i, a.eval x)) = evp a := funext fun ⟨_, _⟩ => rfl
  rw [this, ← Array.toList_map, Array.toArray_toList]

theorem parts_rel (hg : GOk N0 g w gl) (he : EnvRel N0 g w e a.tmps) : ∀ {ps : List (Nat × Operand)} {vs : List AV}, opnds gl e (ps.map (·.2)) = some vs → vs.all AV.noTup = true →
    PartsRel N0 g w ((ps.map (·.1)).zip vs) (ps.map (evp a))
  | [], vs, h, _ => by simp [opnds] at h; subst h; trivial
  | (i, x) :: r, vs, h, ht => by
    simp only [List.map_cons, opnds, Option.bind_eq_some_iff] at h
    obtain ⟨v, h1, vs', h2, h3⟩ := h
    simp at h3; subst h3
    simp only [List.all_cons, Bool.and_eq_true] at ht
    exact ⟨rfl, rel_opnd hg he h1, noTup_ne ht.1, parts_rel hg he h2 ht.2⟩

theorem opt_rel (hg : GOk N0 g w gl) (he : EnvRel N0 g w e a.tmps) {x : Option Operand} {vs : List AV} (h : opnds gl e x.toList = some vs) : OptRel N0 g w vs.head? (x.map a.eval) := by
  cases x with
  | none => simp [opnds] at h; subst h; trivial
  | some x =>
    simp only [Option.toList_some, opnds, Option.bind_eq_some_iff] at h
    obtain ⟨v, h1, vs', h2, h3⟩ := h
    simp at h2; subst h2
    simp at h3; subst h3
    exact rel_opnd hg he h1

theorem rel_int {k : IntKind} {n : Int} {v' : Value} (h : Rel N0 g w (.int k n) v') : v' = .int k n := by cases h; rfl

theorem one_arg {x : AV} {as' : Array Value} (hl : RelL N0 g w [x] as') : ∃ x', as' = #[x'] ∧ Rel N0 g w x x' := by
  obtain ⟨x', e1, r1⟩ := hl.2 0 x rfl
  refine ⟨x', ?_, r1⟩
  apply Array.ext_getElem?
  intro i
  match i with
  | 0 => simpa using e1
  | i + 1 => rw [Array.getElem?_eq_none (by rw [hl.1]; simp)]; rfl

theorem two_args {x y : AV} {as' : Array Value} (hl : RelL N0 g w [x, y] as') : ∃ x' y', as' = #[x', y'] ∧ Rel N0 g w x x' ∧ Rel N0 g w y y' := by
  obtain ⟨x', e1, r1⟩ := hl.2 0 x rfl
  obtain ⟨y', e2, r2⟩ := hl.2 1 y rfl
  refine ⟨x', y', ?_, r1, r2⟩
  apply Array.ext_getElem?
  intro i
  match i with
  | 0 => simpa using e1
  | 1 => simpa using e2
  | i + 2 => rw [Array.getElem?_eq_none (by rw [hl.1]; simp)]; rfl

theorem more_args {x : AV} {r : List AV} {as' : Array Value} (hl : RelL N0 g w (x :: r) as') : ∃ x' r', as'.toList = x' :: r' ∧ Rel N0 g w x x' ∧ RelL N0 g w r r'.toArray := by
  obtain ⟨x', e1, r1⟩ := hl.2 0 x rfl
  cases hL : as'.toList with
  | nil => rw [← Array.getElem?_toList, hL] at e1; simp at e1
  | cons y ys =>
    rw [← Array.getElem?_toList, hL] at e1; simp at e1; subst e1
    refine ⟨y, ys, rfl, r1, ?_, fun j v hj => ?_⟩
    · have := hl.1; rw [← Array.length_toList, hL] at this; simpa using this
    · obtain ⟨v', e, r⟩ := hl.2 (j + 1) v (by simpa using hj)
      rw [← Array.getElem?_toList, hL] at e
      exact ⟨v', by simpa using e, r⟩

theorem builtin_ok (hi : Inv N0 S g w) {mt : Bool} {b : Builtin} {vs : List AV} {as' : Array Value} {ts : Array TypeId} {ty : TypeId} {cst : Array Bool} {r : Option AV} (hl : RelL N0 g w vs as')
    (h : builtinP P mt S b vs ts.toList = some (r, S')) : Done N0 S' g w P (Go.builtin b ts ty cst as') r := by
  cases b <;> simp only [builtinP] at h <;> try (simp at h; done)
  case len =>
    cases vs with
    | nil => simp at h
    | cons x vr =>
      cases vr with
      | cons y vr => simp at h
      | nil =>
        cases htl : ts.toList with
        | nil => rw [htl] at h; simp at h
        | cons t tr =>
          rw [htl] at h
          obtain ⟨u, h1, rfl, rfl⟩ := val_some h
          obtain ⟨x', rfl, r1⟩ := one_arg hl
          exact Done.read hi (len_ok hi (by rw [← Array.getElem?_toList, htl]; rfl) r1 h1)
  case append =>
    cases vs with
    | nil => simp at h
    | cons s vr =>
      cases vr with
      | nil => simp at h
      | cons x vr =>
        cases vr with
        | cons y vr => simp at h
        | nil =>
          obtain ⟨tl⟩ := ts
          cases tl with
          | nil => simp at h
          | cons t tr =>
            cases tr with
            | nil => simp at h
            | cons u tr =>
              cases tr with
              | cons y tr => simp at h
              | nil =>
                simp only at h
                cases hd : P.underlying u with
                | none => rw [hd] at h; simp at h
                | some d =>
                  rw [hd] at h
                  have hni : ∀ k, d ≠ .int k := by intro k hk; subst hk; simp at h
                  have h2 : valS (appendP P mt S t s x) = some (r, S') := by
                    cases d <;> first | exact h | exact absurd rfl (hni _)
                  obtain ⟨v, h1, rfl⟩ := valS_some h2
                  obtain ⟨s', x', rfl, r1, r2⟩ := two_args hl
                  exact Done.made (append_ok hi hd hni r1 r2 h1)
  case min =>
    cases vs with
    | nil => simp at h
    | cons x vr =>
      obtain ⟨u, h1, rfl, rfl⟩ := val_some h
      obtain ⟨x', r', e, r1, r2⟩ := more_args hl
      obtain ⟨v', h3, h4⟩ := minmaxs_ok (P := P) (mx := false) r2 r1 h1
      refine Done.read hi (s := Builtin.min_ ts ty as') ⟨v', ?_, h4⟩
      unfold Builtin.min_
      rw [e]
      exact h3
  case max =>
    cases vs with
    | nil => simp at h
    | cons x vr =>
      obtain ⟨u, h1, rfl, rfl⟩ := val_some h
      obtain ⟨x', r', e, r1, r2⟩ := more_args hl
      obtain ⟨v', h3, h4⟩ := minmaxs_ok (P := P) (mx := true) r2 r1 h1
      refine Done.read hi (s := Builtin.max_ ts ty as') ⟨v', ?_, h4⟩
      unfold Builtin.max_
      rw [e]
      exact h3

set_option maxHeartbeats 4000000 in
theorem oper_ok (hg : GOk N0 g w gl) (he : EnvRel N0 g w e a.tmps) (hi : Inv N0 S g w) {call : CallF} {mt frz : Bool} {o : Oper} {r : Option AV}
    (hnc : ∀ f as ts, o.op ≠ .call { callee := .value f, args := as, argTypes := ts }) (h : oper P gl call mt frz o e S = some (r, S')) : Done N0 S' g w P (execOp a.eval o) r := by
  obtain ⟨dst, op, ty, pos, after, guard⟩ := o
  have R : ∀ {x : Operand} {v : AV}, opnd gl e x = some v → Rel N0 g w v (a.eval x) := fun h => rel_opnd hg he h
  have move : ∀ {x : Operand} {r : Option AV} {S' : St}, val (opnd gl e x) S = some (r, S') → Done N0 S' g w P (pure (.value (a.eval x))) r := by
    intro x r S' h
    obtain ⟨u, h1, rfl, rfl⟩ := val_some h
    exact ⟨_, w, g, rfl, Below.refl _ _, Ext.refl, hi, _, rfl, R h1⟩
  cases op <;> simp only [oper] at h <;> try (simp at h; done)
  case move x =>
    simp only [Option.bind_eq_some_iff] at h
    obtain ⟨v, hv, h⟩ := h
    cases frz with
    | true =>
      obtain ⟨u, h1, rfl⟩ := valS_some h
      obtain ⟨g', x1, i1, r1⟩ := freezeV_ok hi (R hv) h1
      exact ⟨_, w, g', rfl, Below.refl _ _, x1, i1, _, rfl, r1⟩
    | false =>
      simp at h; obtain ⟨rfl, rfl⟩ := h
      exact ⟨_, w, g, rfl, Below.refl _ _, Ext.refl, hi, _, rfl, R hv⟩
  case assign x =>
    simp only [Option.bind_eq_some_iff] at h
    obtain ⟨v, hv, h⟩ := h
    cases frz with
    | true =>
      obtain ⟨u, h1, rfl⟩ := valS_some h
      obtain ⟨g', x1, i1, r1⟩ := freezeV_ok hi (R hv) h1
      exact ⟨_, w, g', rfl, Below.refl _ _, x1, i1, _, rfl, r1⟩
    | false =>
      simp at h; obtain ⟨rfl, rfl⟩ := h
      exact ⟨_, w, g, rfl, Below.refl _ _, Ext.refl, hi, _, rfl, R hv⟩
  case pick c x y =>
    simp only [Option.bind_eq_some_iff] at h
    obtain ⟨v, hv, h⟩ := h
    have rv := R hv
    split at h
    · cases hb : a.eval c with
      | bool b =>
        rw [hb] at rv; cases rv
        have : execOp a.eval ⟨dst, .pick c x y, ty, pos, after, guard⟩ = pure (.value (a.eval x)) := by
          simp only [execOp, hb]; rfl
        rw [this]; exact move h
      | _ => rw [hb] at rv; cases rv
    · cases hb : a.eval c with
      | bool b =>
        rw [hb] at rv; cases rv
        have : execOp a.eval ⟨dst, .pick c x y, ty, pos, after, guard⟩ = pure (.value (a.eval y)) := by
          simp only [execOp, hb]; rfl
        rw [this]; exact move h
      | _ => rw [hb] at rv; cases rv
    · simp at h
  case alloc t =>
    obtain ⟨u, h1, rfl⟩ := valS_some h
    exact (alloc_ok hi h1 : Made N0 S' g w P _ u) |> Done.made
  case box t x =>
    simp only [Option.bind_eq_some_iff] at h
    obtain ⟨v, hv, n, hn, h⟩ := h
    split at h
    · rename_i hc
      cases mt <;> simp only [Option.some.injEq, Prod.mk.injEq] at h <;> obtain ⟨rfl, rfl⟩ := h
      · exact Done.made (box_ok hi (mt := false) (R hv) hc.1 ((R hv).cells_one (noTup_ne hc.2)) rfl)
      · exact Done.made (box_ok hi (mt := true) (R hv) hc.1 ((R hv).cells_one (noTup_ne hc.2)) rfl)
    · simp at h
  case build t ps =>
    simp only [Option.bind_eq_some_iff] at h
    obtain ⟨vs, hvs, h⟩ := h
    split at h
    · rename_i hall
      obtain ⟨u, h1, rfl, rfl⟩ := val_some h
      have := build_ok (parts_rel hg he hvs hall) h1
      refine Done.read hi (s := Instr.build t (ps.map fun (i, x) => (i, a.eval x))) ?_
      rw [evp_arr]
      exact this
    · simp at h
  case buildSlice t len ps =>
    simp only [Option.bind_eq_some_iff] at h
    obtain ⟨vs, hvs, h⟩ := h
    split at h
    · rename_i hall
      obtain ⟨u, h1, rfl⟩ := valS_some h
      have := buildSlice_ok hi (parts_rel hg he hvs hall) h1
      refine Done.made (s := Instr.buildSlice t len (ps.map fun (i, x) => (i, a.eval x))) ?_
      rw [evp_arr]
      exact this
    · simp at h
  case load t x =>
    simp only [Option.bind_eq_some_iff] at h
    obtain ⟨p, hp, h⟩ := h
    cases frz with
    | false =>
      obtain ⟨u, h1, rfl, rfl⟩ := val_some h
      exact Done.read hi (load_ok hi (R hp) h1)
    | true =>
      obtain ⟨u, h1, rfl⟩ := valS_some h
      simp only [Option.bind_eq_some_iff, Option.map_eq_some_iff, Prod.mk.injEq] at h1
      obtain ⟨S1, h2, v, h3, rfl, rfl⟩ := h1
      obtain ⟨g1, x1, i1⟩ := freezeAt_ok hi (R hp) h2
      obtain ⟨v', k1, k2⟩ := load_ok i1 ((R hp).mono x1) h3
      exact Done.made ⟨v', w, g1, k1, Below.refl _ _, x1, i1, k2⟩
  case store t x y =>
    simp only [Option.bind_eq_some_iff] at h
    obtain ⟨p, hp, v, hv, h⟩ := h
    cases frz with
    | false =>
      simp only at h
      split at h
      · rename_i hc
        obtain ⟨h1, rfl⟩ := eff_some h
        exact Done.wrote (store_ok hi (R hp) (R hv) ((R hv).cells_one (noTup_ne hc)) h1)
      · simp at h
    | true =>
      simp only [Option.bind_eq_some_iff] at h
      obtain ⟨⟨u, S1⟩, h0, h⟩ := h
      simp only at h
      split at h
      · rename_i hc
        obtain ⟨h1, rfl⟩ := eff_some h
        obtain ⟨g1, x1, i1, ru⟩ := freezeV_ok hi (R hv) h0
        obtain ⟨w', g', k1, k2, k3, k4⟩ := store_ok i1 ((R hp).mono x1) ru (ru.cells_one (noTup_ne hc)) h1
        exact Done.wrote ⟨w', g', k1, k2, x1.trans k3, k4⟩
      · simp at h
  case nilCheck x =>
    simp only [Option.bind_eq_some_iff] at h
    obtain ⟨v, hv, h⟩ := h
    have rv := R hv
    have main : ∀ u, (execOp a.eval ⟨dst, .nilCheck x, ty, pos, after, guard⟩) = pure (.value (a.eval x)) → Rel N0 g w u (a.eval x) → Done N0 S g w P (execOp a.eval ⟨dst, .nilCheck x, ty, pos, after, guard⟩) (some u) := by
      intro u h1 h2
      rw [h1]
      exact ⟨_, w, g, rfl, Below.refl _ _, Ext.refl, hi, _, rfl, h2⟩
    split at h <;> try (simp at h; done)
    all_goals
      simp at h; obtain ⟨rfl, rfl⟩ := h
      refine main _ ?_ rv
      simp only [execOp]
      generalize a.eval x = x' at rv ⊢
      cases rv; rfl
  case binOp op t x y yt =>
    simp only [Option.bind_eq_some_iff] at h
    obtain ⟨p, hp, v, hv, h⟩ := h
    obtain ⟨u, h1, rfl, rfl⟩ := val_some h
    exact Done.read hi (bin_ok (R hp) (R hv) h1)
  case unOp op t x =>
    simp only [Option.bind_eq_some_iff] at h
    obtain ⟨p, hp, h⟩ := h
    obtain ⟨u, h1, rfl, rfl⟩ := val_some h
    exact Done.read hi (un_ok (R hp) h1)
  case convert src d x =>
    simp only [Option.bind_eq_some_iff] at h
    obtain ⟨p, hp, h⟩ := h
    obtain ⟨u, h1, rfl, rfl⟩ := val_some h
    exact Done.read hi (conv_ok hi (R hp) h1)
  case makeFunc fn fs cs =>
    cases fn <;> simp only at h <;> try (simp at h; done)
    rename_i f
    simp only [Option.bind_eq_some_iff] at h
    obtain ⟨fs', hf, cs', hc, h⟩ := h
    simp at h; obtain ⟨rfl, rfl⟩ := h
    refine Done.read hi (s := Instr.makeFunc (.func f) (fs.map a.eval) (cs.map a.eval)) ⟨_, rfl, Rel.mk_func ?_ ?_⟩
    · have := relL_opnds hg he hf
      rwa [← Array.toList_map, Array.toArray_toList] at this
    · have := relL_opnds hg he hc
      rwa [← Array.toList_map, Array.toArray_toList] at this
  case makeMap t x =>
    split at h
    · rename_i kt et hu
      simp only [Option.bind_eq_some_iff] at h
      obtain ⟨_, hx, h⟩ := h
      simp at h; obtain ⟨rfl, rfl⟩ := h
      have hrun : (Instr.makeMap t (x.map a.eval)).run P w = .ok (.map (some w.heap.size)) (pushBlk w (.map #[] 0)) := by
        cases x with
        | none => simp [Instr.makeMap, newObj, Sem.run, pushBlk]
        | some x =>
          simp only [Option.bind_eq_some_iff] at hx
          obtain ⟨v, hv, hx⟩ := hx
          have rv := R hv
          split at hx
          · have rv := rel_int rv
            simp [rv, Instr.makeMap, run_underlying hu, asInt, asIntOf, newObj, Sem.run, pushBlk]
          · simp at hx
      refine Done.made (s := Instr.makeMap t (x.map a.eval)) ?_
      obtain ⟨h1, x1⟩ := hi.turn hi.unclaimed_new hi.le (.mine g.n) (.inr (Nat.le_refl _)) (w' := pushBlk w (.map #[] 0)) (fun k hk => by rw [pushBlk_get, if_neg hk]) (by simp [pushBlk]) (by simp [pushBlk])
        (.inr ⟨by simp [pushBlk], rfl⟩) (fun h0 e => by rw [hi.fresh _ (Nat.le_refl _)] at e; cases e)
      have x2 : Ext N0 { g with kind := upd g.kind w.heap.size (.mine g.n) } (pushBlk w (.map #[] 0)) (({ g with kind := upd g.kind w.heap.size (.mine g.n) } : G).add w.heap.size 0 0 0) (pushBlk w (.map #[] 0)) := Ext.add
      have h2 := h1.add (c := w.heap.size) 0 0 0 (.map []) (fun _ _ he => by cases he) (fun es he => by
        cases he
        have eloc : (({ g with kind := upd g.kind w.heap.size (.mine g.n) } : G).add w.heap.size 0 0 0).loc g.n = w.heap.size := upd_same _ _ _
        exact ⟨by rw [eloc]; exact hi.le, by rw [eloc]; exact upd_same _ _ _, #[], 0, by rw [eloc, pushBlk_get, if_pos rfl], rfl, fun j k v hj => by simp at hj⟩) (fun he => by cases he)
      refine ⟨_, _, _, hrun, below_pushBlk hi.le, x1.trans x2, h2, ?_⟩
      have := Rel.map (N0 := N0) (g := ({ g with kind := upd g.kind w.heap.size (.mine g.n) } : G).add w.heap.size 0 0 0) (w := pushBlk w (.map #[] 0)) S.length (by show S.length < g.n + 1; rw [hi.n]; omega)
      have eloc : (({ g with kind := upd g.kind w.heap.size (.mine g.n) } : G).add w.heap.size 0 0 0).loc S.length = w.heap.size := by rw [← hi.n]; exact upd_same _ _ _
      rwa [eloc] at this
    · simp at h
  case makeSlice t l c =>
    simp only [Option.bind_eq_some_iff] at h
    obtain ⟨p, hp, v, hv, h⟩ := h
    obtain ⟨u, h1, rfl⟩ := valS_some h
    exact Done.made (makeSlice_ok hi (R hp) (R hv) h1)
  case slice t x lo hj mx =>
    simp only [Option.bind_eq_some_iff] at h
    obtain ⟨p, hp, lo', hlo, hi', hhi, mx', hmx, h⟩ := h
    obtain ⟨u, h1, rfl, rfl⟩ := val_some h
    exact Done.read hi (slice_ok (R hp) (opt_rel hg he hlo) (opt_rel hg he hhi) (opt_rel hg he hmx) h1)
  case fieldAddr s x f =>
    simp only [Option.bind_eq_some_iff] at h
    obtain ⟨p, hp, h⟩ := h
    obtain ⟨u, h1, rfl, rfl⟩ := val_some h
    exact Done.read hi (fieldAddr_ok (R hp) h1)
  case field s x f =>
    simp only [Option.bind_eq_some_iff] at h
    obtain ⟨p, hp, h⟩ := h
    obtain ⟨u, h1, rfl, rfl⟩ := val_some h
    exact Done.read hi (field_ok (R hp) h1)
  case indexAddr t x ix =>
    simp only [Option.bind_eq_some_iff] at h
    obtain ⟨p, hp, v, hv, h⟩ := h
    obtain ⟨u, h1, rfl, rfl⟩ := val_some h
    exact Done.read hi (indexAddr_ok (R hp) (R hv) h1)
  case index t x ix =>
    simp only [Option.bind_eq_some_iff] at h
    obtain ⟨p, hp, v, hv, h⟩ := h
    obtain ⟨u, h1, rfl, rfl⟩ := val_some h
    exact Done.read hi (index_ok (R hp) (R hv) h1)
  case lookup t x ix ok =>
    simp only [Option.bind_eq_some_iff] at h
    obtain ⟨p, hp, v, hv, h⟩ := h
    obtain ⟨u, h1, rfl, rfl⟩ := val_some h
    exact Done.read hi (lookup_ok hi (R hp) (R hv) h1)
  case mapUpdate t m k x =>
    simp only [Option.bind_eq_some_iff] at h
    obtain ⟨p, hp, q, hq, v, hv, h⟩ := h
    obtain ⟨h1, rfl⟩ := eff_some h
    exact Done.wrote (mapUpdate_ok hi (R hp) (R hq) (R hv) h1)
  case extract t ix =>
    simp only [Option.bind_eq_some_iff] at h
    obtain ⟨p, hp, h⟩ := h
    split at h
    · obtain ⟨u, h1, rfl, rfl⟩ := val_some h
      exact Done.read hi (extract_ok (R hp) h1)
    · simp at h
  case call c =>
    obtain ⟨callee, as, ts⟩ := c
    cases callee with
    | value f => exact absurd rfl (hnc f as ts)
    | invoke x m => simp at h
    | builtin b =>
      simp only [Option.bind_eq_some_iff] at h
      obtain ⟨vs, hvs, h⟩ := h
      have hl := relL_opnds hg he hvs
      have hasz : as.size = vs.length := by simpa using hl.1
      have hex : execOp a.eval ⟨dst, .call ⟨.builtin b, as, ts⟩, ty, pos, after, guard⟩ = Go.builtin b ts ty (as.map fun | .const _ => true | _ => false) (as.map a.eval) := rfl
      have hl : RelL N0 g w vs (as.map a.eval) := by
        have := hl
        rwa [← Array.toList_map, Array.toArray_toList] at this
      rw [hex]
      generalize as.map a.eval = as' at hl ⊢
      generalize (as.map fun | .const _ => true | _ => false : Array Bool) = cst
      exact builtin_ok hi hl h

end
end Go.Proofs.YtmicmlcfbmphfaaDoor.Ae

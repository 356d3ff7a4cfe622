/- The interpreter's runs are the model's: regions without a draw, control, calls.
   No conditions beyond those of each lemma. -/
import Derived.Test.YtmicmlcfbmphfaaDoorAeCode
set_option linter.unusedSimpArgs false
set_option linter.unusedVariables false
set_option linter.unnecessarySimpa false
namespace Go.Proofs.YtmicmlcfbmphfaaDoor.Ae
open Go Go.RowKit

section
variable {N0 : Nat} {S S' : St} {g g0 : G} {w w0 : World} {P : Program} {gl : Gl} {e e' : Env} {a : Act} {n : Nat}

theorem look_put (e : Env) (t u : Nat) (v : AV) : look (put e t v) u = if u = t then some v else look e u := by
  simp only [put, look]
  by_cases h : u = t
  · subst h; simp
  · have : Nat.beq t u = false := by
      cases hb : Nat.beq t u with
      | false => rfl
      | true => exact absurd (Nat.eq_of_beq_eq_true hb).symm h
    simp [this, h]

theorem look_keep : ∀ (l : List Nat) (e : Env) (t : Nat) (v : AV), look (keepOnly l e) t = some v → look e t = some v
  | l, [], t, v, h => by simp [keepOnly, look] at h
  | l, (k, x) :: r, t, v, h => by
    simp only [keepOnly] at h
    split at h
    · simp only [look] at h ⊢
      split at h
      · exact h
      · rename_i hk; exact look_keep l r t v h
    · rename_i hk
      simp only [look]
      split
      · rename_i hkt
        have := Nat.eq_of_beq_eq_true hkt; subst this
        exfalso
        have key : ∀ (r : Env) (v : AV), look (keepOnly l r) k = some v → False := by
          intro r
          induction r with
          | nil => intro v h; simp [keepOnly, look] at h
          | cons y r ih =>
            obtain ⟨k', x'⟩ := y
            intro v h
            simp only [keepOnly] at h
            split at h
            · rename_i hk'
              simp only [look] at h
              split at h
              · rename_i hkk
                have := Nat.eq_of_beq_eq_true hkk; subst this
                rw [hk'] at hk; cases hk
              · exact ih v h
            · exact ih v h
        exact key r v h
      · exact look_keep l r t v h

theorem look_restrict (e : Env) : ∀ (l : List Nat) (t : Nat) (v : AV), look (restrict e l) t = some v → look e t = some v
  | [], t, v, h => by simp [restrict, look] at h
  | k :: r, t, v, h => by
    simp only [restrict] at h
    split at h
    · rename_i x hx
      simp only [look] at h
      split at h
      · rename_i hk
        have := Nat.eq_of_beq_eq_true hk; subst this
        rw [hx]; exact h
      · exact look_restrict e r t v h
    · exact look_restrict e r t v h

theorem look_clean {l : Option (List Nat)} {t : Nat} {v : AV} (h : look (clean l e) t = some v) : look e t = some v := by
  cases l with
  | none => exact h
  | some l => exact look_restrict e l t v h

theorem EnvRel.sub (h : EnvRel N0 g w e a.tmps) (hs : ∀ t v, look e' t = some v → look e t = some v) : EnvRel N0 g w e' a.tmps := fun t v ht => h t v (hs t v ht)

theorem EnvRel.put {t : Nat} {v : AV} {v' : Value} (h : EnvRel N0 g w e a.tmps) (ht : t < a.tmps.size) (hv : Rel N0 g w v v') : EnvRel N0 g w (put e t v) (a.put (some t) v').tmps := by
  intro u x hu
  rw [look_put] at hu
  simp only [Act.put, Array.size_setIfInBounds]
  by_cases hut : u = t
  · subst hut
    rw [if_pos rfl] at hu; cases hu
    refine ⟨ht, ?_⟩
    rw [Array.getD_eq_getD_getElem?, Array.getElem?_setIfInBounds]
    simp [ht, hv]
  · rw [if_neg hut] at hu
    obtain ⟨h1, h2⟩ := h u x hu
    refine ⟨h1, ?_⟩
    rw [Array.getD_eq_getD_getElem?, Array.getElem?_setIfInBounds, if_neg (fun e => hut e.symm), ← Array.getD_eq_getD_getElem?]
    exact h2

/-- A state of the interpreter's and one of the model's, together. -/
def At (N0 : Nat) (gl : Gl) (g0 : G) (w0 : World) (n : Nat) (e : Env) (S : St) (a : Act) (w : World) : Prop :=
  ∃ g, Below N0 w0 w ∧ Ext N0 g0 w0 g w ∧ Inv N0 S g w ∧ GOk N0 g w gl ∧ EnvRel N0 g w e a.tmps ∧ a.tmps.size = n ∧ a.defers = []

theorem At.sub (h : At N0 gl g0 w0 n e S a w) (hs : ∀ t v, look e' t = some v → look e t = some v) : At N0 gl g0 w0 n e' S a w := by
  obtain ⟨g, h1, h2, h3, h4, h5, h6, h7⟩ := h
  exact ⟨g, h1, h2, h3, h4, h5.sub hs, h6, h7⟩

/-- What is asked of the interpreter's calls. -/
def CallOk (P : Program) (gl : Gl) (call : CallF) : Prop :=
  ∀ (f : Nat) (args : List AV) (S : St) (r : AV) (S' : St), call f args S = some (r, S') → (∃ fn c, fbody P f = some (fn, c)) ∧
    ∀ (N0 : Nat) (g : G) (w : World) (args' : Array Value), Inv N0 S g w → GOk N0 g w gl → RelL N0 g w args args' →
      Calls P f args' w fun en w' => ∃ v' g', en = .returned v' ∧ Below N0 w w' ∧ Ext N0 g w g' w' ∧ Inv N0 S' g' w' ∧ Rel N0 g' w' r v'

theorem fbody_some {f : Nat} {fn : Func} {c : Code} (h : fbody P f = some (fn, c)) : P.funcs[f]? = some fn ∧ fn.body = some c ∧ (fn.name == "runtime.NumGoroutine") = false ∧ dstOk fn.ntmps c = true := by
  simp only [fbody, Option.bind_eq_some_iff] at h
  obtain ⟨fn', h1, c', h2, h3⟩ := h
  split at h3
  · rename_i hc
    simp at h3; obtain ⟨rfl, rfl⟩ := h3
    exact ⟨h1, h2, hc.1, hc.2⟩
  · simp at h3

theorem run_callFunc {f : Nat} {fn : Func} {c : Code} (h : fbody P f = some (fn, c)) (args : Array Value) : (callFunc f args).run P w = .ok (.enter f args) w := by
  obtain ⟨h1, h2, h3, _⟩ := fbody_some h
  unfold callFunc
  rw [run_bind_ok run_program]
  simp only [h1]
  simp [h3, h2]

theorem RelL.append {xs ys : List AV} {xs' ys' : Array Value} (h : RelL N0 g w xs xs') (k : RelL N0 g w ys ys') : RelL N0 g w (xs ++ ys) (xs' ++ ys') := by
  have h1 := h.1
  refine ⟨by simp [h.1, k.1], fun j v hj => ?_⟩
  by_cases hl : j < xs.length
  · rw [List.getElem?_append_left hl] at hj
    obtain ⟨v', e, r⟩ := h.2 j v hj
    exact ⟨v', by rw [Array.getElem?_append_left (by omega)]; exact e, r⟩
  · rw [List.getElem?_append_right (by omega)] at hj
    obtain ⟨v', e, r⟩ := k.2 _ v hj
    exact ⟨v', by rw [Array.getElem?_append_right (by omega), h1]; exact e, r⟩

/-- One operation, a call or not: what comes behind it. -/
theorem oper_wp {call : CallF} (hcall : CallOk P gl call) {mt frz : Bool} {o : Oper} {r : Option AV} {next : Act → World → Prop} {Q : Exit → Act → World → Prop}
    (hg : GOk N0 g w gl) (he : EnvRel N0 g w e a.tmps) (hi : Inv N0 S g w) (h : oper P gl call mt frz o e S = some (r, S'))
    (hn : ∀ (v' : Value) (w' : World) (g' : G), Below N0 w w' → Ext N0 g w g' w' → Inv N0 S' g' w' → (∀ v, r = some v → Rel N0 g' w' v v') → next (a.put o.dst v') w') : o.wp P a w next Q := by
  by_cases hc : ∃ f as ts, o.op = .call { callee := .value f, args := as, argTypes := ts }
  · obtain ⟨f, as, ts, hop⟩ := hc
    simp only [oper, hop, Option.bind_eq_some_iff] at h
    obtain ⟨fv, hf, h⟩ := h
    split at h
    · rename_i fid fs cs
      simp only [Option.bind_eq_some_iff] at h
      obtain ⟨as', has, h⟩ := h
      obtain ⟨u, h1, rfl⟩ := valS_some h
      have rf := rel_opnd hg he hf
      obtain ⟨fs', cs', ef, lf, lc⟩ := RelL.of_func rf
      have la := relL_opnds hg he has
      rw [← Array.toList_map, Array.toArray_toList] at la
      obtain ⟨⟨fn, c, hb⟩, hcalls⟩ := hcall _ _ _ _ _ h1
      have hrun : (execOp a.eval o).run P w = .ok (.enter fid (fs' ++ as.map a.eval ++ cs')) w := by
        unfold execOp
        simp only [hop]
        unfold resolve
        simp only [ef, Deferred.ofValue]
        exact run_callFunc hb _
      unfold Oper.wp
      rw [hrun]
      refine (hcalls N0 g w _ hi hg ((lf.append la).append lc)).mono ?_
      rintro en w' ⟨v', g', rfl, k1, k2, k3, k4⟩
      exact hn v' w' g' k1 k2 k3 (fun v hv => by cases hv; exact k4)
    · simp at h
  · obtain ⟨nx, w', g', k1, k2, k3, k4, k5⟩ := oper_ok (a := a) hg he hi (fun f as ts hop => hc ⟨f, as, ts, hop⟩) h
    unfold Oper.wp
    rw [k1]
    cases r with
    | none =>
      simp only at k5; subst k5
      exact hn undef w' g' k2 k3 k4 (fun v hv => by cases hv)
    | some v =>
      obtain ⟨v', rfl, k6⟩ := k5
      exact hn v' w' g' k2 k3 k4 (fun u hu => by cases hu; exact k6)

/-- An operation that makes a new row and nothing else: what it makes, and that its memory is not yet the interpreter's. -/
theorem early_wp {call : CallF} {mt frz : Bool} {o : Oper} {r : Option AV} {next : Act → World → Prop} {Q : Exit → Act → World → Prop}
    (hg : GOk N0 g w gl) (he : EnvRel N0 g w e a.tmps) (hearly : isEarly o.op = true) (h : oper P gl call mt frz o e S = some (r, S'))
    (hn : ∀ (v : AV) (v' : Value) (arr : Array Value) (t : TypeId) (sz : Nat) (es : List AV), r = some v → S' = S ++ [.cells sz es] → (∀ e ∈ es, e.cells.length = sz) → es.length * sz ≤ arr.size →
      (∀ (j : Nat) (u : AV), (flat es)[j]? = some u → u.one = true ∧ ∃ u' : Value, arr[j]? = some u' ∧ Rel N0 g w u u') →
      (∀ (g' : G) (w' : World), S.length < g'.n → g'.loc S.length = w.heap.size → g'.off S.length = 0 → g'.sz S.length = sz → g'.top S.length = arr.size → Rel N0 g' w' v v') →
      next (a.put o.dst v') (pushBlk w (.cells arr t (0, 0)))) : o.wp P a w next Q := by
  obtain ⟨dst, op, ty, pos, after, guard⟩ := o
  cases op <;> simp only [isEarly, Bool.false_eq_true] at hearly
  case alloc t =>
    simp only [oper] at h
    obtain ⟨u, h1, rfl⟩ := valS_some h
    obtain ⟨v', arr, t', sz, es, k1, k2, k3, k4, k5, k6⟩ := alloc_new (N0 := N0) (g := g) (w := w) h1
    have hrun : (execOp a.eval ⟨dst, .alloc t, ty, pos, after, guard⟩).run P w = .ok (.value v') (pushBlk w (.cells arr t' (0, 0))) := by
      show (do pure (.value (← Instr.alloc t true (.tuple #[]))) : Sem Next).run P w = _
      rw [run_bind_ok k1]; rfl
    unfold Oper.wp
    rw [hrun]
    exact hn u v' arr t' sz es rfl k2 k3 k4 k5 k6
  case makeSlice t l c =>
    simp only [oper, Option.bind_eq_some_iff] at h
    obtain ⟨p, hp, v, hv, h⟩ := h
    obtain ⟨u, h1, rfl⟩ := valS_some h
    obtain ⟨v', arr, t', sz, es, k1, k2, k3, k4, k5, k6⟩ := makeSlice_new (rel_opnd hg he hp) (rel_opnd hg he hv) h1
    have hrun : (execOp a.eval ⟨dst, .makeSlice t l c, ty, pos, after, guard⟩).run P w = .ok (.value v') (pushBlk w (.cells arr t' (0, 0))) := by
      show (do pure (.value (← Instr.makeSlice t (a.eval l) (a.eval c))) : Sem Next).run P w = _
      rw [run_bind_ok k1]; rfl
    unfold Oper.wp
    rw [hrun]
    exact hn u v' arr t' sz es rfl k2 k3 k4 k5 k6

theorem wanted_ok {ops : Array Oper} {o : Oper} {b : Bool} (he : EnvRel N0 g w e a.tmps) (h : wanted ops.toList o e = some b) : Region.wanted o (yielded ops a.tmps) = b := by
  unfold wanted at h
  unfold Region.wanted
  cases hgd : o.guard with
  | none => rw [hgd] at h; simp at h; subst h; rfl
  | some jw =>
    obtain ⟨j, want⟩ := jw
    rw [hgd] at h
    simp only [Option.bind_eq_some_iff] at h
    obtain ⟨t, ⟨o', ho, ht⟩, v, hv, h⟩ := h
    obtain ⟨hlt, hr⟩ := he t v hv
    rw [Array.getElem?_toList] at ho
    have hval : a.tmps[t]? = some (a.tmps.getD t undef) := by
      rw [Array.getD_eq_getD_getElem?]; simp [hlt]
    simp only [yielded, ho, Option.bind_some, ht, hval]
    split at h
    · rename_i b'
      simp at h; subst h
      generalize a.tmps.getD t undef = x at hr ⊢
      cases hr; cases b' <;> cases want <;> rfl
    · simp at h; subst h
      generalize a.tmps.getD t undef = x at hr ⊢
      cases hr; rfl
    · simp at h

theorem step1_wp {call : CallF} (hcall : CallOk P gl call) {mt frz : Bool} {ops : Array Oper} {o : Oper} {Q : Exit → Act → World → Prop} {next : Act → World → Prop}
    (hat : At N0 gl g0 w0 n e S a w) (hd : ∀ t, o.dst = some t → t < n) (h : step1 P gl call mt frz ops.toList o e S = some (e', S'))
    (hn : ∀ a' w', At N0 gl g0 w0 n e' S' a' w' → next a' w') :
    if Region.wanted o (yielded ops a.tmps) then o.wp P a w next Q ∨ (o.asks P a w ∧ LetsOut Q) else next (a.put o.dst undef) w := by
  obtain ⟨g, h1, h2, h3, h4, h5, h6, h7⟩ := hat
  simp only [step1, Option.bind_eq_some_iff] at h
  obtain ⟨b, hb, h⟩ := h
  rw [wanted_ok h5 hb]
  cases b with
  | true =>
    simp only [Option.bind_eq_some_iff] at h
    obtain ⟨⟨r, S1⟩, hop, h⟩ := h
    simp only [if_true]
    refine .inl (oper_wp hcall h4 h5 h3 hop (fun v' w' g' k1 k2 k3 k4 => ?_))
    cases hr : r with
    | some v =>
      cases hdst : o.dst with
      | some t =>
        simp only [hr, hdst, Option.some.injEq, Prod.mk.injEq] at h
        obtain ⟨rfl, rfl⟩ := h
        exact hn _ _ ⟨g', h1.trans k1, h2.trans k2, k3, h4.mono k2, (h5.mono k2).put (by rw [h6]; exact hd t hdst) (k4 v hr), by simp [Act.put, h6], by simp [Act.put, h7]⟩
      | none =>
        simp only [hr, hdst, Option.some.injEq, Prod.mk.injEq] at h
        obtain ⟨rfl, rfl⟩ := h
        exact hn _ _ ⟨g', h1.trans k1, h2.trans k2, k3, h4.mono k2, h5.mono k2, h6, h7⟩
    | none =>
      cases hdst : o.dst with
      | some t => simp [hr, hdst] at h
      | none =>
        simp only [hr, hdst, Option.some.injEq, Prod.mk.injEq] at h
        obtain ⟨rfl, rfl⟩ := h
        exact hn _ _ ⟨g', h1.trans k1, h2.trans k2, k3, h4.mono k2, h5.mono k2, h6, h7⟩
  | false =>
    simp only [Bool.false_eq_true, if_false]
    simp only [Option.some.injEq, Prod.mk.injEq] at h
    obtain ⟨rfl, rfl⟩ := h
    cases hdst : o.dst with
    | some t =>
      exact hn _ _ ⟨g, h1, h2, h3, h4, by rw [hdst]; exact h5.put (by rw [h6]; exact hd t hdst) (Rel.mk_tuple RelL.nil), by simp [Act.put, h6], by simp [Act.put, h7]⟩
    | none => exact hn _ _ ⟨g, h1, h2, h3, h4, by rw [hdst]; exact h5, h6, h7⟩

theorem ops_wp {call : CallF} (hcall : CallOk P gl call) {h : Hint} {id : Nat} {ops : Array Oper} {Q : Exit → Act → World → Prop} (hd : ∀ o ∈ ops.toList, ∀ t, o.dst = some t → t < n) :
    ∀ (l : List Oper) (i : Nat) (e : Env) (S : St) (a : Act) (w : World), (∀ j, l[j]? = ops[i + j]?) → (∀ o ∈ l, o ∈ ops.toList) → At N0 gl g0 w0 n e S a w →
      opsFrom P gl call h id ops.toList l i e S = some (e', S') → (∀ a' w', At N0 gl g0 w0 n e' S' a' w' → Q .normal a' w') → wpOps P ops Q (List.range' i l.length) a w
  | [], i, e, S, a, w, _, _, hat, h1, hq => by
    simp [opsFrom] at h1; obtain ⟨rfl, rfl⟩ := h1
    exact hq a w hat
  | o :: r, i, e, S, a, w, hl, hmem, hat, h1, hq => by
    simp only [opsFrom, Option.bind_eq_some_iff] at h1
    obtain ⟨⟨e1, S1⟩, h2, h3⟩ := h1
    have h0 : ops[i]? = some o := by have := hl 0; simpa using this.symm
    rw [List.length_cons, List.range'_succ]
    simp only [wpOps, h0]
    refine step1_wp hcall hat (fun t ht => hd o (hmem o (by simp)) t ht) h2 (fun a' w' hat' => ?_)
    exact ops_wp hcall hd r (i + 1) e1 S1 a' w' (fun j => by have := hl (j + 1); rw [show i + (j + 1) = i + 1 + j by omega] at this; simpa using this) (fun x hx => hmem x (by simp [hx])) hat' h3 hq

def exitOf : AExit → Exit
  | .normal => .normal
  | .exit id => .exit id
  | .ret => .ret

/-- What is asked of the body of a loop. -/
def BodyOk (P : Program) (N0 : Nat) (gl : Gl) (g0 : G) (w0 : World) (n : Nat) (body : Env → St → Option Res) (c : Code) : Prop :=
  ∀ (e : Env) (S : St) (x : AExit) (e' : Env) (S' : St) (a : Act) (w : World) (Q : Exit → Act → World → Prop), body e S = some (x, e', S') → At N0 gl g0 w0 n e S a w →
    (∀ a' w', At N0 gl g0 w0 n e' S' a' w' → Q (exitOf x) a' w') → c.wp P Q a w

theorem loop_ok {body : Env → St → Option Res} {c : Code} {l : Option (List Nat)} {x : AExit} {Q : Exit → Act → World → Prop} (hb : BodyOk P N0 gl g0 w0 n body c)
    (hq : ∀ a' w', At N0 gl g0 w0 n e' S' a' w' → Q (exitOf x) a' w') :
    ∀ (m : Nat) (e : Env) (S : St) (a : Act) (w : World), loopN body l m e S = some (x, e', S') → At N0 gl g0 w0 n e S a w → ∀ (b : Frame) (k : List Item) (cs : List Frame),
      ∃ ex a' w', Q ex a' w' ∧ Arrives P (lone (b.at a (.code c :: .inLoop c :: k)) cs w) b k cs ex a' w'
  | 0, e, S, a, w, h, _, _, _, _ => by simp [loopN] at h
  | m + 1, e, S, a, w, h, hat, b, k, cs => by
    simp only [loopN, Option.bind_eq_some_iff] at h
    obtain ⟨⟨y, e1, S1⟩, h1, h2⟩ := h
    have hat' : At N0 gl g0 w0 n (clean l e) S a w := hat.sub (fun t v ht => look_clean ht)
    have hwp := hb (clean l e) S y e1 S1 a w (fun ex a' w' => ex = exitOf y ∧ At N0 gl g0 w0 n e1 S1 a' w') h1 hat' (fun a' w' h => ⟨rfl, h⟩)
    obtain ⟨ex, a1, w1, ⟨rfl, hat1⟩, harr⟩ := hwp b (.inLoop c :: k) cs
    cases y with
    | normal =>
      simp only at h2
      obtain ⟨ex, a2, w2, q2, harr2⟩ := loop_ok hb hq m e1 S1 a1 w1 h2 hat1 b k cs
      exact ⟨ex, a2, w2, q2, .of_steps (Steps.trans harr (.one step_inLoop)) harr2⟩
    | exit id =>
      simp at h2; obtain ⟨rfl, rfl, rfl⟩ := h2
      exact ⟨.exit id, a1, w1, hq a1 w1 hat1, .pass (x := .inLoop c) rfl (fun _ _ => .inl (by simp)) harr⟩
    | ret =>
      simp at h2; obtain ⟨rfl, rfl, rfl⟩ := h2
      exact ⟨.ret, a1, w1, hq a1 w1 hat1, .pass (x := .inLoop c) rfl (fun _ _ => .inl (by simp)) harr⟩

end
end Go.Proofs.YtmicmlcfbmphfaaDoor.Ae

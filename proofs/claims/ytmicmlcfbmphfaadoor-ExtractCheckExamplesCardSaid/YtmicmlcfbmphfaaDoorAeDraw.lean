/- A region whose order Go leaves open: whatever order is drawn, it comes to what the text's order comes to.
   No conditions beyond those of each lemma. -/
import Derived.Test.YtmicmlcfbmphfaaDoorAeRun
import Derived.Orders
set_option linter.unusedSimpArgs false
set_option linter.unusedVariables false
set_option linter.unnecessarySimpa false
namespace Go.Proofs.YtmicmlcfbmphfaaDoor.Ae
open Go Go.RowKit

mutual
theorem same_eq : ∀ (a b : AV), a.same b = true → a = b
  | .int k n, b, h => by cases b <;> simp_all [AV.same]
  | .bool x, b, h => by cases b <;> simp_all [AV.same]
  | .str s, b, h => by cases b <;> simp_all [AV.same]
  | .ptr x i o, b, h => by cases b <;> simp_all [AV.same]
  | .aptr x i n z, b, h => by cases b <;> simp_all [AV.same]
  | .nilptr, b, h => by cases b <;> simp_all [AV.same]
  | .pv cs, b, h => by
    cases b <;> simp only [AV.same, Bool.false_eq_true] at h
    rw [sameL_eq cs _ h]
  | .vs es tk, b, h => by
    cases b <;> simp only [AV.same, Bool.false_eq_true, Bool.and_eq_true, decide_eq_true_eq] at h
    rw [sameL_eq es _ h.1, h.2]
  | .rs x o l z, b, h => by cases b <;> simp_all [AV.same]
  | .map x, b, h => by cases b <;> simp_all [AV.same]
  | .nilmap, b, h => by cases b <;> simp_all [AV.same]
  | .func f as cs, b, h => by
    cases b <;> simp only [AV.same, Bool.false_eq_true, Bool.and_eq_true, decide_eq_true_eq] at h
    rw [sameL_eq as _ h.1.2, sameL_eq cs _ h.2, h.1.1]
  | .nilfunc, b, h => by cases b <;> simp_all [AV.same]
  | .agg cs, b, h => by
    cases b <;> simp only [AV.same, Bool.false_eq_true] at h
    rw [sameL_eq cs _ h]
  | .tuple cs, b, h => by
    cases b <;> simp only [AV.same, Bool.false_eq_true] at h
    rw [sameL_eq cs _ h]
theorem sameL_eq : ∀ (a b : List AV), sameL a b = true → a = b
  | [], [], _ => rfl
  | [], _ :: _, h => by simp [sameL] at h
  | _ :: _, [], h => by simp [sameL] at h
  | a :: r, b :: s, h => by
    simp only [sameL, Bool.and_eq_true] at h
    rw [same_eq a b h.1, sameL_eq r s h.2]
end

section
variable {N0 : Nat} {S S' : St} {g g0 : G} {w w0 : World} {P : Program} {gl : Gl} {e e' : Env} {a : Act} {n : Nat}

theorem opnd_congr {x : Operand} (h : ∀ t ∈ tmpsOf [x], look e t = look e' t) : opnd gl e x = opnd gl e' x := by
  cases x <;> first | rfl | exact h _ (by simp [tmpsOf])

theorem mem_tmpsOf {xs : List Operand} {x : Operand} (hx : x ∈ xs) : ∀ t ∈ tmpsOf [x], t ∈ tmpsOf xs := by
  induction xs with
  | nil => simp at hx
  | cons y r ih =>
    intro t ht
    rcases List.mem_cons.1 hx with rfl | hx
    · cases x <;> simp [tmpsOf] at ht ⊢; simp [ht]
    · have := ih hx t ht
      cases y <;> simp [tmpsOf, this]

theorem opnds_congr : ∀ {xs : List Operand}, (∀ t ∈ tmpsOf xs, look e t = look e' t) → opnds gl e xs = opnds gl e' xs
  | [], _ => rfl
  | x :: r, h => by
    simp only [opnds]
    rw [opnd_congr (fun t ht => h t (mem_tmpsOf (List.mem_cons_self ..) t ht)), opnds_congr (xs := r) (fun t ht => h t (by cases x <;> simp [tmpsOf, ht]))]

theorem oper_congr {call : CallF} {mt frz : Bool} {o : Oper} (h : ∀ t ∈ tmpsOf o.op.operands.toList, look e t = look e' t) : oper P gl call mt frz o e S = oper P gl call mt frz o e' S := by
  obtain ⟨dst, op, ty, pos, after, guard⟩ := o
  have one : ∀ x : Operand, x ∈ op.operands.toList → opnd gl e x = opnd gl e' x := fun x hx => opnd_congr (fun t ht => h t (mem_tmpsOf hx t ht))
  have many : ∀ xs : List Operand, (∀ x ∈ xs, x ∈ op.operands.toList) → opnds gl e xs = opnds gl e' xs := by
    intro xs hx
    induction xs with
    | nil => rfl
    | cons y r ih => simp only [opnds]; rw [one y (hx y (by simp)), ih (fun z hz => hx z (by simp [hz]))]
  cases op <;> simp only [oper] <;> try rfl
  case move x => rw [one x (by simp [Op.operands])]
  case assign x => rw [one x (by simp [Op.operands])]
  case pick c x y => rw [one c (by simp [Op.operands]), one x (by simp [Op.operands]), one y (by simp [Op.operands])]
  case box t x => rw [one x (by simp [Op.operands])]
  case build t ps => rw [many _ (by simp [Op.operands])]
  case buildSlice t l ps => rw [many _ (by simp [Op.operands])]
  case load t x => rw [one x (by simp [Op.operands])]
  case store t x y => rw [one x (by simp [Op.operands]), one y (by simp [Op.operands])]
  case nilCheck x => rw [one x (by simp [Op.operands])]
  case binOp op t x y yt => rw [one x (by simp [Op.operands]), one y (by simp [Op.operands])]
  case unOp op t x => rw [one x (by simp [Op.operands])]
  case convert s d x => rw [one x (by simp [Op.operands])]
  case makeFunc fn fs cs =>
    cases fn <;> try rfl
    simp only
    rw [many fs.toList (by intro x hx; simp [Op.operands] at hx ⊢; exact .inl hx), many cs.toList (by intro x hx; simp [Op.operands] at hx ⊢; exact .inr hx)]
  case makeMap t r =>
    cases r with
    | none => rfl
    | some x => simp only; rw [one x (by simp [Op.operands])]
  case makeSlice t l c => rw [one l (by simp [Op.operands]), one c (by simp [Op.operands])]
  case slice t x lo hi mx =>
    rw [one x (by simp [Op.operands]), many lo.toList (by intro y hy; cases lo <;> simp_all [Op.operands]), many hi.toList (by intro y hy; cases hi <;> simp_all [Op.operands]), many mx.toList (by intro y hy; cases mx <;> simp_all [Op.operands])]
  case fieldAddr s x f => rw [one x (by simp [Op.operands])]
  case field s x f => rw [one x (by simp [Op.operands])]
  case indexAddr t x ix => rw [one x (by simp [Op.operands]), one ix (by simp [Op.operands])]
  case index t x ix => rw [one x (by simp [Op.operands]), one ix (by simp [Op.operands])]
  case lookup t x ix ok => rw [one x (by simp [Op.operands]), one ix (by simp [Op.operands])]
  case mapUpdate t m k x => rw [one m (by simp [Op.operands]), one k (by simp [Op.operands]), one x (by simp [Op.operands])]
  case extract t ix => rw [one t (by simp [Op.operands])]
  case call c =>
    obtain ⟨callee, as, ts⟩ := c
    cases callee with
    | value f => simp only; rw [one f (by simp [Op.operands, Call.operands]), many as.toList (by intro x hx; simp [Op.operands, Call.operands] at hx ⊢; exact .inr hx)]
    | invoke x m => rfl
    | builtin b => simp only; rw [many as.toList (by intro x hx; simp [Op.operands, Call.operands] at hx ⊢; exact hx)]

theorem val_pure {v : Option AV} {r : Option AV} {S1 : St} (h : val v S = some (r, S1)) : S1 = S ∧ ∀ S2, val v S2 = some (r, S2) := by
  obtain ⟨u, rfl, rfl, rfl⟩ := val_some h
  exact ⟨rfl, fun _ => rfl⟩

/-- An operation that neither turns the state nor looks at it. -/
theorem oper_pure {call : CallF} {mt frz : Bool} {o : Oper} {r : Option AV} {S1 : St} (h1 : isEff mt frz o.op = false) (h2 : isRead frz o.op = false) (h : oper P gl call mt frz o e S = some (r, S1)) :
    S1 = S ∧ ∀ S2, oper P gl call mt frz o e S2 = some (r, S2) := by
  obtain ⟨dst, op, ty, pos, after, guard⟩ := o
  cases op <;> (try simp only [isEff, isRead] at h1 h2) <;> simp only [oper] at h ⊢ <;> try (first | (simp at h; done) | (simp at h1; done) | (simp at h2; done))
  case load t x => rw [h1] at h2; cases h2
  case move x =>
    subst h1
    cases hx : opnd gl e x with
    | none => simp [hx] at h
    | some v => simp [hx] at h ⊢; obtain ⟨rfl, rfl⟩ := h; simp
  case assign x =>
    subst h1
    cases hx : opnd gl e x with
    | none => simp [hx] at h
    | some v => simp [hx] at h ⊢; obtain ⟨rfl, rfl⟩ := h; simp
  case pick c x y =>
    cases hc : opnd gl e c with
    | none => simp [hc] at h
    | some v =>
      simp only [hc, Option.bind_some] at h ⊢
      split at h
      · exact val_pure h
      · exact val_pure h
      · simp at h
  case box t x =>
    subst h1
    cases hx : opnd gl e x with
    | none => simp [hx] at h
    | some v =>
      simp only [hx, Option.bind_some] at h ⊢
      cases hn : sizeT P t with
      | none => simp [hn] at h
      | some k =>
        simp only [hn, Option.bind_some] at h ⊢
        split at h
        · rename_i hc
          simp only [Option.some.injEq, Prod.mk.injEq] at h
          obtain ⟨rfl, rfl⟩ := h
          exact ⟨rfl, fun S2 => by rw [if_pos hc]⟩
        · simp at h
  case build t ps =>
    cases hx : opnds gl e (ps.toList.map (·.2)) with
    | none => simp [hx] at h
    | some vs =>
      simp only [hx, Option.bind_some] at h ⊢
      split at h
      · rename_i hc; simp only [hc, if_true]; exact val_pure h
      · simp at h
  case buildSlice t l ps =>
    subst h1
    cases hx : opnds gl e (ps.toList.map (·.2)) with
    | none => simp [hx] at h
    | some vs =>
      simp only [hx, Option.bind_some] at h ⊢
      split at h
      · rename_i hc
        simp only [hc, if_true]
        obtain ⟨u, hu, rfl⟩ := valS_some h
        unfold buildSliceP at hu ⊢
        split at hu
        · simp only [Option.bind_eq_some_iff] at hu
          obtain ⟨sz, hsz, z, hz, hu⟩ := hu
          split at hu
          · rename_i hcc
            simp only [Option.bind_eq_some_iff] at hu
            obtain ⟨es, hes, hu⟩ := hu
            simp at hu; obtain ⟨rfl, rfl⟩ := hu
            refine ⟨rfl, fun S2 => ?_⟩
            simp [hsz, hz, hcc, hes, valS]
          · simp at hu
        · simp at hu
      · simp at h
  case nilCheck x =>
    cases hx : opnd gl e x with
    | none => simp [hx] at h
    | some v =>
      simp only [hx, Option.bind_some] at h ⊢
      cases v <;> simp at h ⊢ <;> obtain ⟨rfl, rfl⟩ := h <;> simp
  case binOp op t x y yt =>
    cases hx : opnd gl e x with
    | none => simp [hx] at h
    | some u =>
      cases hy : opnd gl e y with
      | none => simp [hx, hy] at h
      | some v => simp only [hx, hy, Option.bind_some] at h ⊢; exact val_pure h
  case unOp op t x =>
    cases hx : opnd gl e x with
    | none => simp [hx] at h
    | some u => simp only [hx, Option.bind_some] at h ⊢; exact val_pure h
  case makeFunc fn fs cs =>
    cases fn <;> simp only at h ⊢ <;> try (simp at h; done)
    cases hx : opnds gl e fs.toList with
    | none => simp [hx] at h
    | some u =>
      cases hy : opnds gl e cs.toList with
      | none => simp [hx, hy] at h
      | some v =>
        simp only [hx, hy, Option.bind_some, Option.some.injEq, Prod.mk.injEq] at h ⊢
        obtain ⟨rfl, rfl⟩ := h
        simp
  case slice t x lo hi mx =>
    cases hx : opnd gl e x with
    | none => simp [hx] at h
    | some u =>
      cases h3 : opnds gl e lo.toList with
      | none => simp [hx, h3] at h
      | some l1 =>
        cases h4 : opnds gl e hi.toList with
        | none => simp [hx, h3, h4] at h
        | some l2 =>
          cases h5 : opnds gl e mx.toList with
          | none => simp [hx, h3, h4, h5] at h
          | some l3 => simp only [hx, h3, h4, h5, Option.bind_some] at h ⊢; exact val_pure h
  case fieldAddr s x f =>
    cases hx : opnd gl e x with
    | none => simp [hx] at h
    | some u => simp only [hx, Option.bind_some] at h ⊢; exact val_pure h
  case field s x f =>
    cases hx : opnd gl e x with
    | none => simp [hx] at h
    | some u => simp only [hx, Option.bind_some] at h ⊢; exact val_pure h
  case indexAddr t x y =>
    cases hx : opnd gl e x with
    | none => simp [hx] at h
    | some u =>
      cases hy : opnd gl e y with
      | none => simp [hx, hy] at h
      | some v => simp only [hx, hy, Option.bind_some] at h ⊢; exact val_pure h
  case index t x y =>
    cases hx : opnd gl e x with
    | none => simp [hx] at h
    | some u =>
      cases hy : opnd gl e y with
      | none => simp [hx, hy] at h
      | some v => simp only [hx, hy, Option.bind_some] at h ⊢; exact val_pure h
  case extract t ix =>
    cases hx : opnd gl e t with
    | none => simp [hx] at h
    | some u =>
      simp only [hx, Option.bind_some] at h ⊢
      cases u <;> simp only at h ⊢ <;> first | exact val_pure h | (simp at h; done)
  case call c =>
    obtain ⟨callee, as, ts⟩ := c
    cases callee with
    | value f => simp at h1
    | invoke x m => simp at h
    | builtin b =>
      cases hx : opnds gl e as.toList with
      | none => simp [hx] at h
      | some vs =>
        simp only [hx, Option.bind_some] at h ⊢
        cases b <;> (try simp only at h1 h2) <;> simp only [builtinP] at h ⊢ <;> try (first | (simp at h; done) | (simp at h1; done) | (simp at h2; done))
        · cases vs with
          | nil => simp at h
          | cons y r => exact val_pure h
        · cases vs with
          | nil => simp at h
          | cons y r => exact val_pure h

/-- An operation that only looks. -/
theorem oper_read {call : CallF} {mt frz : Bool} {o : Oper} (h2 : isRead frz o.op = true) : oper P gl call mt frz o e S = (readV P gl o e S).map fun v => (some v, S) := by
  obtain ⟨dst, op, ty, pos, after, guard⟩ := o
  have key : ∀ v : Option AV, val v S = ((val v S).bind (·.1)).map fun v => (some v, S) := by intro v; cases v <;> rfl
  cases op <;> simp only [isRead] at h2 <;> try (simp at h2; done)
  case load t x =>
    simp only [Bool.not_eq_true'] at h2
    subst h2
    simp only [readV, oper]
    cases opnd gl e x with
    | none => rfl
    | some u => exact key _
  case convert s d x =>
    simp only [readV, oper]
    cases opnd gl e x with
    | none => rfl
    | some u => exact key _
  case lookup t x y ok =>
    simp only [readV, oper]
    cases opnd gl e x with
    | none => rfl
    | some u =>
      cases opnd gl e y with
      | none => rfl
      | some v => exact key _
  case call c =>
    obtain ⟨callee, as, ts⟩ := c
    cases callee <;> (try simp only at h2) <;> try (simp at h2; done)
    rename_i b
    cases b <;> (try simp only at h2) <;> try (simp at h2; done)
    simp only [readV, oper]
    cases opnds gl e as.toList with
    | none => rfl
    | some vs =>
      simp only [Option.bind_some, builtinP]
      cases vs with
      | nil => rfl
      | cons x r =>
        cases r with
        | cons y r => rfl
        | nil =>
          cases ts.toList with
          | nil => rfl
          | cons t tr => exact key _

/-- What lies before an operation, by the bits of 'Region.before'. -/
theorem before_get (ops : List Oper) : ∀ (i : Nat) (o : Oper), ops[i]? = some o → (∀ e ∈ o.after.toList, Region.binds .any e = true → e.on < i) → ∀ j, ((Region.before ops.toArray).getD i 0).testBit j = true →
    ∃ ed ∈ o.after.toList, Region.binds .any ed = true ∧ (ed.on = j ∨ ((Region.before ops.toArray).getD ed.on 0).testBit j = true) := by
  have pref : ∀ (l : List Oper) (acc : Array Nat), ∃ ext : Array Nat, l.foldl (fun acc o => acc.push (o.after.foldl (fun s e => if Region.binds .any e then s ||| 2 ^ e.on ||| acc.getD e.on 0 else s) 0)) acc = acc ++ ext ∧ ext.size = l.length := by
    intro l
    induction l with
    | nil => intro acc; exact ⟨#[], by simp, rfl⟩
    | cons o r ih =>
      intro acc
      rw [List.foldl_cons]
      obtain ⟨ext, h1, h2⟩ := ih (acc.push (o.after.foldl (fun s e => if Region.binds .any e then s ||| 2 ^ e.on ||| acc.getD e.on 0 else s) 0))
      refine ⟨#[o.after.foldl (fun s e => if Region.binds .any e then s ||| 2 ^ e.on ||| acc.getD e.on 0 else s) 0] ++ ext, ?_, by simp [h2]; omega⟩
      rw [h1]; simp
  have main : ∀ (l : List Oper) (acc : Array Nat) (i : Nat) (o : Oper), l[i]? = some o → ∃ acc' : Array Nat, acc'.size = acc.size + i ∧ (∀ k, k < acc'.size → (l.foldl (fun acc o => acc.push (o.after.foldl (fun s e => if Region.binds .any e then s ||| 2 ^ e.on ||| acc.getD e.on 0 else s) 0)) acc).getD k 0 = acc'.getD k 0) ∧
      (l.foldl (fun acc o => acc.push (o.after.foldl (fun s e => if Region.binds .any e then s ||| 2 ^ e.on ||| acc.getD e.on 0 else s) 0)) acc).getD (acc.size + i) 0 = o.after.foldl (fun s e => if Region.binds .any e then s ||| 2 ^ e.on ||| acc'.getD e.on 0 else s) 0 := by
    intro l
    induction l with
    | nil => intro acc i o h; simp at h
    | cons x r ih =>
      intro acc i o h
      rw [List.foldl_cons]
      cases i with
      | zero =>
        simp at h; subst h
        obtain ⟨ext, h1, h2⟩ := pref r (acc.push (x.after.foldl (fun s e => if Region.binds .any e then s ||| 2 ^ e.on ||| acc.getD e.on 0 else s) 0))
        refine ⟨acc, rfl, fun k hk => ?_, ?_⟩
        · rw [h1, Array.getD_eq_getD_getElem?, Array.getD_eq_getD_getElem?, Array.getElem?_append_left (by simp; omega), Array.getElem?_push, if_neg (by omega)]
        · rw [h1, Array.getD_eq_getD_getElem?, Array.getElem?_append_left (by simp), Array.getElem?_push, if_pos (by simp)]
          rfl
      | succ i =>
        obtain ⟨acc', h1, h2, h3⟩ := ih (acc.push (x.after.foldl (fun s e => if Region.binds .any e then s ||| 2 ^ e.on ||| acc.getD e.on 0 else s) 0)) i o (by simpa using h)
        refine ⟨acc', by rw [h1]; simp; omega, h2, ?_⟩
        rw [← h3]; congr 1; simp; omega
  intro i o ho hlt j hj
  have hdef : Region.before ops.toArray = ops.foldl (fun acc o => acc.push (o.after.foldl (fun s e => if Region.binds .any e then s ||| 2 ^ e.on ||| acc.getD e.on 0 else s) 0)) #[] := by
    unfold Region.before
    rw [List.foldl_toArray']
    simp
  rw [hdef] at hj ⊢
  obtain ⟨acc', h1, h2, h3⟩ := main ops #[] i o ho
  simp only [Array.size_empty, Nat.zero_add] at h1 h3
  rw [h3] at hj
  rw [← Array.foldl_toList] at hj
  have fold : ∀ (l : List Edge) (s : Nat), (l.foldl (fun s e => if Region.binds .any e then s ||| 2 ^ e.on ||| acc'.getD e.on 0 else s) s).testBit j = true → s.testBit j = true ∨ ∃ ed ∈ l, Region.binds .any ed = true ∧ (ed.on = j ∨ (acc'.getD ed.on 0).testBit j = true) := by
    intro l
    induction l with
    | nil => intro s hs; exact .inl hs
    | cons ed r ih =>
      intro s hs
      rw [List.foldl_cons] at hs
      rcases ih _ hs with h | ⟨ed', hm, hb, hh⟩
      · by_cases hb : Region.binds .any ed = true
        · rw [if_pos hb] at h
          simp only [Nat.testBit_or, Bool.or_eq_true] at h
          rcases h with (h | h) | h
          · exact .inl h
          · refine .inr ⟨ed, by simp, hb, .inl ?_⟩
            rw [Nat.testBit_two_pow] at h
            simpa using h
          · exact .inr ⟨ed, by simp, hb, .inr h⟩
        · rw [if_neg hb] at h; exact .inl h
      · exact .inr ⟨ed', by simp [hm], hb, hh⟩
  rcases fold _ 0 hj with h | ⟨ed, hm, hb, hh⟩
  · simp at h
  · refine ⟨ed, hm, hb, ?_⟩
    rcases hh with hh | hh
    · exact .inl hh
    · refine .inr ?_
      have := hlt ed hm hb
      rw [h2 ed.on (by omega)]; exact hh

theorem has_iff : ∀ {l : List Nat} {t : Nat}, has l t = true ↔ t ∈ l
  | [], t => by simp [has]
  | k :: r, t => by
    simp only [has]
    cases hb : Nat.beq k t with
    | true => have := Nat.eq_of_beq_eq_true hb; subst this; simp
    | false =>
      have := Nat.ne_of_beq_eq_false hb
      simp only [has_iff (l := r)]
      constructor
      · intro h; exact List.mem_cons_of_mem _ h
      · intro h; rcases List.mem_cons.1 h with h | h
        · exact absurd h.symm this
        · exact h

/-- The facts that the plan holds. -/
structure PlanOk (h : Hint) (id : Nat) (ops : List Oper) (plan : List (Nat × List Nat)) : Prop where
  edge : ∀ (j : Nat) (o : Oper), ops[j]? = some o → ∀ e ∈ o.after.toList, Region.binds .any e = true → e.on < j
  effs : ∀ (i j : Nat) (oi oj : Oper), i < j → ops[i]? = some oi → ops[j]? = some oj → isEff (has2 h.muts id i) (has2 h.frz id i) oi.op = true → isEff (has2 h.muts id j) (has2 h.frz id j) oj.op = true →
    ((Region.before ops.toArray).getD j 0).testBit i = true ∨
      (isEarly oj.op = true ∧ oj.guard = none ∧ ∀ k, k < ops.length → ((Region.before ops.toArray).getD k 0).testBit j = true → ((Region.before ops.toArray).getD k 0).testBit i = true)
  slots : ∀ (i j : Nat) (oi oj : Oper) (t : Nat), i ≠ j → ops[i]? = some oi → ops[j]? = some oj → oj.dst = some t → t ∈ names ops oi →
    (j < i → ((Region.before ops.toArray).getD i 0).testBit j = true) ∧ (i < j → ((Region.before ops.toArray).getD j 0).testBit i = true)
  reads : ∀ (i : Nat) (o : Oper), ops[i]? = some o → isRead (has2 h.frz id i) o.op = true → ∀ j, j ≤ ops.length → (j = 0 ∨ ∃ oj, ops[j - 1]? = some oj ∧ isEff (has2 h.muts id (j - 1)) (has2 h.frz id (j - 1)) oj.op = true) →
    (∀ (k : Nat) (ok : Oper), ops[k]? = some ok → isEff (has2 h.muts id k) (has2 h.frz id k) ok.op = true → (((Region.before ops.toArray).getD i 0).testBit k = true → k < j) ∧ (((Region.before ops.toArray).getD k 0).testBit i = true → j ≤ k)) →
    (j ≤ i ∧ ∀ (k : Nat) (ok : Oper), j ≤ k → k < i → ops[k]? = some ok → isEff (has2 h.muts id k) (has2 h.frz id k) ok.op = false) ∨ ∃ js, (i, js) ∈ plan ∧ j ∈ js

theorem planOk {h : Hint} {id : Nat} {ops : List Oper} {plan : List (Nat × List Nat)} (hp : drawPlan h id ops = some plan) : PlanOk h id ops plan := by
  unfold drawPlan at hp
  simp only at hp
  split at hp
  · rename_i hc
    simp only [Bool.and_eq_true, List.all_eq_true, List.mem_range] at hc
    obtain ⟨⟨c1, c2⟩, c3⟩ := hc
    simp only [Option.some.injEq] at hp
    refine ⟨?_, ?_, ?_, ?_⟩
    · intro j o ho e he hb
      have := c1 j (lt_of_get ho)
      rw [ho] at this
      simp only [List.all_eq_true] at this
      have := this e he
      rw [hb] at this
      simp at this
      exact this
    · intro i j oi oj hij hoi hoj hei hej
      have := c2 j (lt_of_get hoj) i hij
      simp only [hoi, hoj, hei, hej, Bool.and_self, Bool.not_true, Bool.false_or, Bool.or_eq_true, Bool.and_eq_true, List.all_eq_true, List.mem_range] at this
      rcases this with this | ⟨⟨k1, k2⟩, k3⟩
      · exact .inl this
      · refine .inr ⟨k1, by cases hg : oj.guard with
          | none => rfl
          | some x => rw [hg] at k2; simp at k2, fun k hk hb => ?_⟩
        have := k3 k hk
        rw [hb] at this
        simpa using this
    · intro i j oi oj t hne hoi hoj ht hmem
      have := c3 i (lt_of_get hoi)
      rw [hoi] at this
      simp only [List.all_eq_true, List.mem_range] at this
      have := this j (lt_of_get hoj)
      simp only [hoj, Option.bind_some, ht, has_iff.2 hmem] at this
      have hbeq : Nat.beq i j = false := by
        cases hb : Nat.beq i j with
        | false => rfl
        | true => exact absurd (Nat.eq_of_beq_eq_true hb) hne
      simp only [hbeq, Bool.not_true, Bool.or_self, Bool.false_or] at this
      constructor
      · intro hlt; simpa [hlt] using this
      · intro hlt; rw [if_neg (by omega)] at this; exact this
    · intro i o ho hr j hj hb hk
      by_cases hcan : j ≤ i ∧ ∀ (k : Nat) (ok : Oper), j ≤ k → k < i → ops[k]? = some ok → isEff (has2 h.muts id k) (has2 h.frz id k) ok.op = false
      · exact .inl hcan
      · right
        subst hp
        have hmem : j ∈ (List.range (ops.length + 1)).filter fun j => (Nat.beq j 0 || (match ops[j - 1]? with | some o => isEff (has2 h.muts id (j - 1)) (has2 h.frz id (j - 1)) o.op | none => false)) &&
            ((List.range ops.length).all fun k => !(match ops[k]? with | some o => isEff (has2 h.muts id k) (has2 h.frz id k) o.op | none => false) ||
              ((!(((Region.before ops.toArray).getD i 0).testBit k) || Nat.blt k j) && (!(((Region.before ops.toArray).getD k 0).testBit i) || Nat.ble j k))) &&
            !(Nat.ble j i && (List.range i).all fun k => Nat.blt k j || !(match ops[k]? with | some o => isEff (has2 h.muts id k) (has2 h.frz id k) o.op | none => false)) := by
          refine List.mem_filter.2 ⟨List.mem_range.2 (by omega), ?_⟩
          simp only [Bool.and_eq_true]
          refine ⟨⟨?_, ?_⟩, ?_⟩
          · rcases hb with hb | ⟨oj, h1, h2⟩
            · subst hb; rfl
            · simp only [h1, h2, Bool.or_true]
          · simp only [List.all_eq_true, List.mem_range]
            intro k hkl
            rw [List.getElem?_eq_getElem hkl]
            simp only
            cases he : isEff (has2 h.muts id k) (has2 h.frz id k) ops[k].op with
            | false => rfl
            | true =>
              obtain ⟨k1, k2⟩ := hk k _ (List.getElem?_eq_getElem hkl) he
              simp only [Bool.not_true, Bool.false_or, Bool.and_eq_true, Bool.or_eq_true, Bool.not_eq_true']
              constructor
              · cases hb1 : ((Region.before ops.toArray).getD i 0).testBit k with
                | false => exact .inl rfl
                | true => exact .inr (Nat.ble_eq_true_of_le (k1 hb1))
              · cases hb1 : ((Region.before ops.toArray).getD k 0).testBit i with
                | false => exact .inl rfl
                | true => exact .inr (Nat.ble_eq_true_of_le (k2 hb1))
          · cases hcc : (Nat.ble j i && (List.range i).all fun k => Nat.blt k j || !(match ops[k]? with | some o => isEff (has2 h.muts id k) (has2 h.frz id k) o.op | none => false)) with
            | false => rfl
            | true =>
              exfalso
              simp only [Bool.and_eq_true, List.all_eq_true, List.mem_range] at hcc
              refine hcan ⟨Nat.le_of_ble_eq_true hcc.1, fun k ok hjk hki hok => ?_⟩
              have := hcc.2 k hki
              rw [hok] at this
              simp only [Bool.or_eq_true, Bool.not_eq_true'] at this
              rcases this with h5 | h5
              · have := Nat.le_of_ble_eq_true h5; omega
              · exact h5
        refine ⟨_, List.mem_filterMap.2 ⟨i, List.mem_range.2 (lt_of_get ho), ?_⟩, hmem⟩
        simp only [ho, hr, if_true]
        refine if_neg (fun hemp => ?_)
        rw [List.isEmpty_iff] at hemp
        exact absurd hemp (List.ne_nil_of_mem hmem)
  · simp at hp

theorem tr_ok {call : CallF} {h : Hint} {id : Nat} {all : List Oper} : ∀ (l : List Oper) (i : Nat) (e : Env) (S : St) (e' : Env) (S' : St) (tr : List (Env × St)), opsTr P gl call h id all l i e S = some (e', S', tr) →
    tr[0]? = some (e, S) ∧ tr[l.length]? = some (e', S') ∧ ∀ (j : Nat) (o : Oper), l[j]? = some o → ∃ e1 S1 e2 S2, tr[j]? = some (e1, S1) ∧ tr[j + 1]? = some (e2, S2) ∧
      step1 P gl call (has2 h.muts id (i + j)) (has2 h.frz id (i + j)) all o e1 S1 = some (e2, S2)
  | [], i, e, S, e', S', tr, h1 => by
    simp [opsTr] at h1; obtain ⟨rfl, rfl, rfl⟩ := h1
    exact ⟨rfl, rfl, fun j o hj => by simp at hj⟩
  | o :: r, i, e, S, e', S', tr, h1 => by
    simp only [opsTr, Option.bind_eq_some_iff, Option.map_eq_some_iff] at h1
    obtain ⟨⟨e2, S2⟩, h2, ⟨ef, Sf, tr2⟩, h3, h4⟩ := h1
    simp only [Prod.mk.injEq] at h4
    obtain ⟨rfl, rfl, rfl⟩ := h4
    obtain ⟨k1, k2, k3⟩ := tr_ok r (i + 1) e2 S2 ef Sf tr2 h3
    refine ⟨rfl, by simpa using k2, fun j o' hj => ?_⟩
    cases j with
    | zero =>
      simp at hj; subst hj
      exact ⟨e, S, e2, S2, rfl, by simpa using k1, h2⟩
    | succ j =>
      obtain ⟨a1, b1, a2, b2, c1, c2, c3⟩ := k3 j o' (by simpa using hj)
      exact ⟨a1, b1, a2, b2, by simpa using c1, by simpa using c2, by rw [show i + (j + 1) = i + 1 + j by omega]; exact c3⟩

theorem tr_of_from {call : CallF} {h : Hint} {id : Nat} {all : List Oper} : ∀ (l : List Oper) (i : Nat) (e : Env) (S : St) (e' : Env) (S' : St), opsFrom P gl call h id all l i e S = some (e', S') →
    ∃ tr, opsTr P gl call h id all l i e S = some (e', S', tr)
  | [], i, e, S, e', S', h1 => by simp [opsFrom] at h1; obtain ⟨rfl, rfl⟩ := h1; exact ⟨_, rfl⟩
  | o :: r, i, e, S, e', S', h1 => by
    simp only [opsFrom, Option.bind_eq_some_iff] at h1
    obtain ⟨⟨e2, S2⟩, h2, h3⟩ := h1
    obtain ⟨tr, h4⟩ := tr_of_from r (i + 1) e2 S2 e' S' h3
    exact ⟨(e, S) :: tr, by simp only [opsTr, h2, Option.bind_some, h4, Option.map_some]⟩

/-- What a step leaves of the slots. -/
theorem step1_env {call : CallF} {mt frz : Bool} {all : List Oper} {o : Oper} {e2 : Env} {S2 : St} (h : step1 P gl call mt frz all o e S = some (e2, S2)) :
    (∀ t, o.dst ≠ some t → look e2 t = look e t) ∧ (∀ t, o.dst = some t → ∃ v, look e2 t = some v) := by
  simp only [step1, Option.bind_eq_some_iff] at h
  obtain ⟨b, _, h⟩ := h
  have put2 : ∀ (d : Nat) (v : AV), o.dst = some d → e2 = put e d v → (∀ t, o.dst ≠ some t → look e2 t = look e t) ∧ (∀ t, o.dst = some t → ∃ v, look e2 t = some v) := by
    intro d v hd he
    subst he
    refine ⟨fun t ht => ?_, fun t ht => ⟨v, ?_⟩⟩
    · rw [look_put, if_neg (fun hh => ht (by rw [hd, hh]))]
    · rw [hd] at ht; cases ht; rw [look_put, if_pos rfl]
  have none2 : o.dst = none → e2 = e → (∀ t, o.dst ≠ some t → look e2 t = look e t) ∧ (∀ t, o.dst = some t → ∃ v, look e2 t = some v) := by
    intro hd he; subst he
    exact ⟨fun _ _ => rfl, fun t ht => by rw [hd] at ht; cases ht⟩
  cases b with
  | true =>
    simp only [Option.bind_eq_some_iff] at h
    obtain ⟨⟨r, S1⟩, hop, h⟩ := h
    cases hd : o.dst with
    | some d =>
      cases r with
      | some v => simp [hd] at h; exact hd ▸ put2 d v hd h.1.symm
      | none => simp [hd] at h
    | none =>
      have : e2 = e := by cases r <;> simp [hd] at h <;> exact h.1.symm
      exact hd ▸ none2 hd this
  | false =>
    simp only [Option.some.injEq, Prod.mk.injEq] at h
    cases hd : o.dst with
    | some d => exact hd ▸ put2 d _ hd (by rw [← h.1, hd]; rfl)
    | none => exact hd ▸ none2 hd (by rw [← h.1, hd]; rfl)

theorem oper_still {call : CallF} {mt frz : Bool} {o : Oper} {r : Option AV} {S1 : St} (h1 : isEff mt frz o.op = false) (h : oper P gl call mt frz o e S = some (r, S1)) : S1 = S := by
  cases h2 : isRead frz o.op with
  | false => exact (oper_pure h1 h2 h).1
  | true =>
    rw [oper_read h2] at h
    simp only [Option.map_eq_some_iff, Prod.mk.injEq] at h
    obtain ⟨_, _, _, h3⟩ := h
    exact h3.symm

theorem step1_still {call : CallF} {mt frz : Bool} {all : List Oper} {o : Oper} {e2 : Env} {S2 : St} (h1 : isEff mt frz o.op = false) (h : step1 P gl call mt frz all o e S = some (e2, S2)) : S2 = S := by
  simp only [step1, Option.bind_eq_some_iff] at h
  obtain ⟨b, _, h⟩ := h
  cases b with
  | true =>
    simp only [Option.bind_eq_some_iff] at h
    obtain ⟨⟨r, S1⟩, hop, h⟩ := h
    have := oper_still h1 hop
    subst this
    cases r <;> cases hd : o.dst <;> simp [hd] at h <;> exact h.2.symm
  | false =>
    simp only [Option.some.injEq, Prod.mk.injEq] at h
    exact h.2.symm

/-- The slots behind the operations that p lists, in the text's order. -/
def VE (dst : Nat → Option Nat) (Es : Nat → Env) (p : Nat → Bool) : Nat → Nat → Option AV
  | 0, t => look (Es 0) t
  | k + 1, t => if p k = true ∧ dst k = some t then look (Es (k + 1)) t else VE dst Es p k t

def SL (eff : Nat → Bool) (Ss : Nat → St) (p : Nat → Bool) : Nat → St
  | 0 => Ss 0
  | k + 1 => if p k = true ∧ eff k = true then Ss (k + 1) else SL eff Ss p k

section
variable {dst : Nat → Option Nat} {Es : Nat → Env} {Ss : Nat → St} {eff : Nat → Bool} {m : Nat}

theorem VE_congr {p q : Nat → Bool} {t : Nat} : ∀ k : Nat, (∀ j, j < k → dst j = some t → p j = q j) → VE dst Es p k t = VE dst Es q k t
  | 0, _ => rfl
  | k + 1, h => by
    simp only [VE]
    rw [VE_congr k (fun j hj => h j (by omega))]
    by_cases hd : dst k = some t
    · rw [h k (by omega) hd]
    · simp [hd]

theorem VE_canon (hs : ∀ k, k < m → ∀ t, dst k ≠ some t → look (Es (k + 1)) t = look (Es k) t) {i t : Nat} : ∀ k : Nat, k ≤ m → VE dst Es (fun j => decide (j < i)) k t = look (Es (min i k)) t
  | 0, _ => by simp [VE]
  | k + 1, hk => by
    simp only [VE]
    rw [VE_canon hs k (by omega)]
    by_cases hki : k < i
    · rw [show min i (k + 1) = k + 1 by omega, show min i k = k by omega]
      by_cases hd : dst k = some t
      · simp [hki, hd]
      · simp [hd]; exact (hs k (by omega) t hd).symm
    · rw [show min i (k + 1) = i by omega, show min i k = i by omega]
      simp [hki]

theorem VE_set {p : Nat → Bool} {i t : Nat} (hlater : ∀ k, i < k → k < m → dst i = some t → dst k = some t → p k = false) : ∀ k : Nat, k ≤ m →
    VE dst Es (fun j => p j || decide (j = i)) k t = if i < k ∧ dst i = some t then look (Es (i + 1)) t else VE dst Es p k t
  | 0, _ => by simp [VE]
  | k + 1, hk => by
    simp only [VE]
    rw [VE_set hlater k (by omega)]
    by_cases hki : k = i
    · subst hki
      by_cases hd : dst k = some t
      · simp [hd]
      · simp [hd]
    · by_cases hik : i < k
      · by_cases hd : dst i = some t
        · by_cases hdk : dst k = some t
          · have := hlater k hik (by omega) hd hdk
            simp [this, hki, hd, hik]; omega
          · simp [hdk, hd, hik]; omega
        · simp [hd, hki]
      · have : ¬ (i < k + 1) := by omega
        simp [hik, this, hki]

theorem SL_congr {p q : Nat → Bool} : ∀ k : Nat, (∀ j, j < k → eff j = true → p j = q j) → SL eff Ss p k = SL eff Ss q k
  | 0, _ => rfl
  | k + 1, h => by
    simp only [SL]
    rw [SL_congr k (fun j hj => h j (by omega))]
    by_cases hd : eff k = true
    · rw [h k (by omega) hd]
    · simp [hd]

theorem SL_canon (hs : ∀ k, k < m → eff k = false → Ss (k + 1) = Ss k) {i : Nat} : ∀ k : Nat, k ≤ m → SL eff Ss (fun j => decide (j < i)) k = Ss (min i k)
  | 0, _ => by simp [SL]
  | k + 1, hk => by
    simp only [SL]
    rw [SL_canon hs k (by omega)]
    by_cases hki : k < i
    · rw [show min i (k + 1) = k + 1 by omega, show min i k = k by omega]
      cases hd : eff k with
      | true => simp [hki]
      | false => simp; exact (hs k (by omega) hd).symm
    · rw [show min i (k + 1) = i by omega, show min i k = i by omega]
      simp [hki]

theorem SL_set {p : Nat → Bool} {i : Nat} (hlater : ∀ k, i < k → k < m → eff i = true → eff k = true → p k = false) : ∀ k : Nat, k ≤ m →
    SL eff Ss (fun j => p j || decide (j = i)) k = if i < k ∧ eff i = true then Ss (i + 1) else SL eff Ss p k
  | 0, _ => by simp [SL]
  | k + 1, hk => by
    simp only [SL]
    rw [SL_set hlater k (by omega)]
    by_cases hki : k = i
    · subst hki
      cases hd : eff k <;> simp
    · by_cases hik : i < k
      · cases hd : eff i with
        | true =>
          cases hdk : eff k with
          | true =>
            have := hlater k hik (by omega) hd hdk
            simp [this, hki, hik]; omega
          | false => simp [hik]; omega
        | false => simp [hki]
      · have : ¬ (i < k + 1) := by omega
        simp [hik, this, hki]

/-- The state is one of the row's states, at a bound that the listed ones set. -/
theorem SL_at {p : Nat → Bool} : ∀ k : Nat, ∃ j, j ≤ k ∧ SL eff Ss p k = Ss j ∧ (j = 0 ∨ (p (j - 1) = true ∧ eff (j - 1) = true)) ∧ ∀ i, i < k → p i = true → eff i = true → i < j
  | 0 => ⟨0, Nat.le_refl _, rfl, .inl rfl, fun i hi => by omega⟩
  | k + 1 => by
    obtain ⟨j, h1, h2, h3, h4⟩ := SL_at (p := p) k
    simp only [SL]
    by_cases hc : p k = true ∧ eff k = true
    · refine ⟨k + 1, Nat.le_refl _, by rw [if_pos hc], .inr (by simpa using hc), fun i hi _ _ => by omega⟩
    · refine ⟨j, by omega, by rw [if_neg hc]; exact h2, h3, fun i hi hp he => ?_⟩
      rcases Nat.lt_or_ge i k with hlt | hge
      · exact h4 i hlt hp he
      · have : i = k := by omega
        subst this; exact absurd ⟨hp, he⟩ hc

end

theorem look_sub (e : Env) : ∀ (l : List Nat) (t : Nat), look (restrict e l) t = if t ∈ l then look e t else none
  | [], t => by simp [restrict, look]
  | k :: r, t => by
    simp only [restrict]
    have ih := look_sub e r t
    by_cases hkt : k = t
    · subst hkt
      split
      · rename_i v hv
        simp [look, hv]
      · rename_i hv
        rw [ih]; simp [hv]
    · have hb : Nat.beq k t = false := by
        cases hb : Nat.beq k t with
        | false => rfl
        | true => exact absurd (Nat.eq_of_beq_eq_true hb) hkt
      have hm : t ∈ k :: r ↔ t ∈ r := ⟨fun h => (List.mem_cons.1 h).resolve_left (fun h => hkt h.symm), List.mem_cons_of_mem _⟩
      split
      · simp only [look, hb]; rw [ih]; simp [hm]
      · rw [ih]; simp [hm]

theorem wanted_congr {all : List Oper} {o : Oper} (h : ∀ t ∈ names all o, look e t = look e' t) : wanted all o e = wanted all o e' := by
  unfold wanted
  cases hg : o.guard with
  | none => rfl
  | some jw =>
    obtain ⟨j, want⟩ := jw
    simp only
    cases hd : (all[j]?).bind (·.dst) with
    | none => rfl
    | some t =>
      simp only [Option.bind_some]
      rw [h t (by unfold names; simp [hg, hd])]

theorem names_opnds {all : List Oper} {o : Oper} {t : Nat} (h : t ∈ tmpsOf o.op.operands.toList) : t ∈ names all o := by
  unfold names; simp [h]

theorem names_dst {all : List Oper} {o : Oper} {t : Nat} (h : o.dst = some t) : t ∈ names all o := by
  unfold names; simp [h]

theorem try_ok {all : List Oper} {tr : List (Env × St)} : ∀ {plan : List (Nat × List Nat)}, tryPlan P gl all tr plan = true → ∀ i js, (i, js) ∈ plan → ∃ o e S, all[i]? = some o ∧ tr[i]? = some (e, S) ∧
    ∀ j ∈ js, ∃ e' S', tr[j]? = some (e', S') ∧ sameAt P gl all o e S S' = true
  | [], _, i, js, h => by cases h
  | (i0, js0) :: r, h, i, js, hm => by
    simp only [tryPlan, Bool.and_eq_true] at h
    rcases List.mem_cons.1 hm with hm | hm
    · cases hm
      obtain ⟨h1, _⟩ := h
      split at h1
      · rename_i o e S ho ht
        refine ⟨o, e, S, ho, ht, fun j hj => ?_⟩
        have := List.all_eq_true.1 h1 j hj
        split at this
        · rename_i e' S' hj'; exact ⟨e', S', hj', this⟩
        · cases this
      · cases h1
    · exact try_ok h.2 i js hm

/-- A row of memory that waits to become the interpreter's, and what the text's order will make of it. -/
structure Waits (N0 : Nat) (g : G) (w : World) (c : Nat) (S S' : St) (v : AV) (v' : Value) : Prop where
  old : N0 ≤ c
  lt : c < w.heap.size
  kind : g.kind c = .other
  mem : ∃ (arr : Array Value) (t : TypeId) (sz : Nat) (es : List AV), w.heap[c]? = some (.cells arr t (0, 0)) ∧ S' = S ++ [.cells sz es] ∧ (∀ e ∈ es, e.cells.length = sz) ∧ es.length * sz ≤ arr.size ∧
    (∀ (j : Nat) (u : AV), (flat es)[j]? = some u → u.one = true ∧ ∃ u' : Value, arr[j]? = some u' ∧ Rel N0 g w u u') ∧
    ∀ (g' : G) (w' : World), S.length < g'.n → g'.loc S.length = c → g'.off S.length = 0 → g'.sz S.length = sz → g'.top S.length = arr.size → Rel N0 g' w' v v'

theorem Waits.mono {g' : G} {w' : World} {c : Nat} {v : AV} {v' : Value} (x : Ext N0 g w g' w') (h : Waits N0 g w c S S' v v') : Waits N0 g' w' c S S' v v' := by
  obtain ⟨h1, h2, h3, arr, t, sz, es, k1, k2, k3, k4, k5, k6⟩ := h
  obtain ⟨x1, x2⟩ := x.oth c h2 h3
  exact ⟨h1, Nat.lt_of_lt_of_le h2 x.size, x1, arr, t, sz, es, x2.trans k1, k2, k3, k4, fun j u hj => let ⟨o, u', a, r⟩ := k5 j u hj; ⟨o, u', a, r.mono x⟩, k6⟩

theorem Waits.mono0 {g' : G} {c : Nat} {v : AV} {v' : Value} (x : Ext0 N0 g w g' w) (hk : g'.kind c = g.kind c) (h : Waits N0 g w c S S' v v') : Waits N0 g' w c S S' v v' := by
  obtain ⟨h1, h2, h3, arr, t, sz, es, k1, k2, k3, k4, k5, k6⟩ := h
  exact ⟨h1, h2, hk.trans h3, arr, t, sz, es, k1, k2, k3, k4, fun j u hj => let ⟨o, u', a, r⟩ := k5 j u hj; ⟨o, u', a, r.mono0 x⟩, k6⟩

theorem Waits.adopt {c : Nat} {v : AV} {v' : Value} (hi : Inv N0 S g w) (h : Waits N0 g w c S S' v v') :
    ∃ g', Ext0 N0 g w g' w ∧ Inv N0 S' g' w ∧ Rel N0 g' w v v' ∧ ∀ k, k ≠ c → g'.kind k = g.kind k := by
  obtain ⟨h1, h2, h3, arr, t, sz, es, k1, rfl, k3, k4, k5, k6⟩ := h
  obtain ⟨g', x, i1, i2, i3, i4, i5, i6, i7⟩ := hi.adopt h3 h1 k1 k3 k4 k5
  exact ⟨g', x, i1, k6 g' w i2 i3 i4 i5 i6, i7⟩

set_option maxHeartbeats 1000000 in
theorem drawn_wp {call : CallF} (hcall : CallOk P gl call) (hm : P.follows .mixedOrders = true) {h : Hint} {id : Nat} {ops : Array Oper} {Q : Exit → Act → World → Prop} (hd : ∀ o ∈ ops.toList, ∀ t, o.dst = some t → t < n)
    (hat : At N0 gl g0 w0 n e S a w) (h1 : drawn P gl call h id ops.toList e S = some (e', S')) (hq : ∀ a' w', At N0 gl g0 w0 n e' S' a' w' → Q .normal a' w') : (Code.region id ops true).wp P Q a w := by
  -- the text's order, and what the plan tells
  have hpl : ∃ plan tr, drawPlan h id ops.toList = some plan ∧ opsTr P gl call h id ops.toList ops.toList 0 e S = some (e', S', tr) ∧ tryPlan P gl ops.toList tr plan = true := by
    simp only [drawn, Option.bind_eq_some_iff] at h1
    obtain ⟨plan, hp, h1⟩ := h1
    cases plan with
    | nil =>
      obtain ⟨tr, h2⟩ := tr_of_from _ _ _ _ _ _ h1
      exact ⟨[], tr, hp, h2, rfl⟩
    | cons x r =>
      simp only [Option.bind_eq_some_iff] at h1
      obtain ⟨⟨e1, S1, tr⟩, h2, h3⟩ := h1
      split at h3
      · rename_i ht
        simp at h3; obtain ⟨rfl, rfl⟩ := h3
        exact ⟨_, tr, hp, h2, ht⟩
      · simp at h3
  obtain ⟨plan, tr, hp, htr, htry⟩ := hpl
  have hPlan := planOk hp
  obtain ⟨t0, tm, tstep⟩ := tr_ok ops.toList 0 e S e' S' tr htr
  -- the row of states
  let Es : Nat → Env := fun k => (tr.getD k (e, S)).1
  let Ss : Nat → St := fun k => (tr.getD k (e, S)).2
  let dst : Nat → Option Nat := fun k => (ops[k]?).bind (·.dst)
  let eff : Nat → Bool := fun k => match ops[k]? with
    | some o => isEff (has2 h.muts id k) (has2 h.frz id k) o.op
    | none => false
  have tget : ∀ k e1 S1, tr[k]? = some (e1, S1) → Es k = e1 ∧ Ss k = S1 := by
    intro k e1 S1 hk
    constructor
    · show (tr.getD k (e, S)).1 = e1; rw [List.getD_eq_getElem?_getD, hk]; rfl
    · show (tr.getD k (e, S)).2 = S1; rw [List.getD_eq_getElem?_getD, hk]; rfl
  have hstep : ∀ k o, ops[k]? = some o → step1 P gl call (has2 h.muts id k) (has2 h.frz id k) ops.toList o (Es k) (Ss k) = some (Es (k + 1), Ss (k + 1)) := by
    intro k o ho
    obtain ⟨e1, S1, e2, S2, c1, c2, c3⟩ := tstep k o (by simpa using ho)
    obtain ⟨d1, d2⟩ := tget k _ _ c1
    obtain ⟨d3, d4⟩ := tget (k + 1) _ _ c2
    rw [d1, d2, d3, d4]
    simpa using c3
  have hEs : ∀ k, k < ops.size → ∀ t, dst k ≠ some t → look (Es (k + 1)) t = look (Es k) t := by
    intro k hk t ht
    have ho := Array.getElem?_eq_getElem hk
    refine (step1_env (hstep k _ ho)).1 t ?_
    simpa [dst, ho] using ht
  have hSs : ∀ k, k < ops.size → eff k = false → Ss (k + 1) = Ss k := by
    intro k hk he
    have ho := Array.getElem?_eq_getElem hk
    simp only [eff, ho] at he
    exact step1_still he (hstep k _ ho)
  have h00 := tget 0 _ _ t0
  have hmm := tget ops.size _ _ (by simpa using tm)
  -- what is kept, whatever has been done: p lists what has been done, q what of it the interpreter's state bears
  let p (listed : Array Bool) : Nat → Bool := fun k => listed.getD k false
  let anc (j i : Nat) : Bool := ((Region.before ops.toList.toArray).getD i 0).testBit j
  let D (listed : Array Bool) (q : Nat → Bool) (cs : Nat → Nat) (a : Act) (w : World) : Prop :=
    listed.size = ops.size ∧ (∀ i o, ops[i]? = some o → p listed i = true → ∀ ed ∈ o.after.toList, Region.binds .any ed = true → p listed ed.on = true) ∧
    (∀ k, q k = true → p listed k = true) ∧ (∀ j k, j < k → eff j = true → eff k = true → q k = true → q j = true) ∧
    (∀ j k, p listed j = true → q j = false → anc j k = true → p listed k = false) ∧
    ∃ g, Below N0 w0 w ∧ Ext N0 g0 w0 g w ∧ Inv N0 (SL eff Ss q ops.size) g w ∧ GOk N0 g w gl ∧
      (∀ t v, (∀ j, p listed j = true → q j = false → dst j ≠ some t) → VE dst Es q ops.size t = some v → t < a.tmps.size ∧ Rel N0 g w v (a.tmps.getD t undef)) ∧
      (∀ j, p listed j = true → q j = false → eff j = true ∧ w0.heap.size ≤ cs j ∧ ∃ v v', Waits N0 g w (cs j) (Ss j) (Ss (j + 1)) v v' ∧
        ∀ t, dst j = some t → t < a.tmps.size ∧ look (Es (j + 1)) t = some v ∧ a.tmps.getD t undef = v') ∧
      (∀ j k, p listed j = true → q j = false → p listed k = true → q k = false → j ≠ k → cs j ≠ cs k) ∧
      a.tmps.size = n ∧ a.defers = []
  have plt : ∀ listed q cs a w, D listed q cs a w → ∀ k, p listed k = true → k < ops.size := by
    intro listed q cs a w hD k hk
    rcases Nat.lt_or_ge k ops.size with hlt | hge
    · exact hlt
    · have : p listed k = false := by
        show listed.getD k false = false
        rw [Array.getD_eq_getD_getElem?, Array.getElem?_eq_none (by rw [hD.1]; exact hge)]; rfl
      rw [this] at hk; cases hk
  have closed : ∀ listed q cs a w, D listed q cs a w → ∀ i, p listed i = true → ∀ j, anc j i = true → p listed j = true := by
    intro listed q cs a w hD i
    induction i using Nat.strongRecOn with
    | _ i ih =>
      intro hpi j hj
      have hi : i < ops.size := plt listed q cs a w hD i hpi
      have ho := Array.getElem?_eq_getElem hi
      have hol : ops.toList[i]? = some (ops[i]'hi) := by rw [Array.getElem?_toList]; exact ho
      have hedge := hPlan.edge i _ hol
      obtain ⟨ed, k1, k2, k3⟩ := before_get ops.toList i _ hol hedge j hj
      have hon := hD.2.1 i _ ho hpi ed k1 k2
      rcases k3 with k3 | k3
      · rw [← k3]; exact hon
      · exact ih ed.on (hedge ed k1 k2) hon j k3
  -- a row that waits is taken in where the text's order has come to it
  have settle1 : ∀ listed q cs a w, D listed q cs a w → ∀ j, p listed j = true → q j = false → eff j = true → (∀ k, k < j → eff k = true → q k = true) → D listed (fun k => q k || decide (k = j)) cs a w := by
    intro listed q cs a w hD j hpj hqj hej hpre
    have hjm := plt listed q cs a w hD j hpj
    obtain ⟨c1, c2, c3, c4, c5, g, d1, d2, d3, d4, d5, d6, d7, d8, d9⟩ := hD
    obtain ⟨e1, e2, v, v', e3, e4⟩ := d6 j hpj hqj
    have hlater : ∀ k, j < k → k < ops.size → eff j = true → eff k = true → q k = false := by
      intro k hjk _ _ hek
      cases hqk : q k with
      | false => rfl
      | true => rw [c4 j k hjk hej hek hqk] at hqj; cases hqj
    have hS : SL eff Ss q ops.size = Ss j := by
      have h5 := SL_congr (eff := eff) (Ss := Ss) (p := q) (q := fun k => decide (k < j)) ops.size (fun k hk hek => by
        rcases Nat.lt_trichotomy k j with hlt | heq | hgt
        · rw [hpre k hlt hek]; simp [hlt]
        · subst heq; rw [hqj]; simp
        · rw [hlater k hgt hk hej hek]; simp; omega)
      rw [h5, SL_canon hSs ops.size (Nat.le_refl _), show min j ops.size = j by omega]
    have hS' : SL eff Ss (fun k => q k || decide (k = j)) ops.size = Ss (j + 1) := by
      rw [SL_set hlater ops.size (Nat.le_refl _), if_pos ⟨hjm, hej⟩]
    rw [hS] at d3
    obtain ⟨g', x, i1, i2, i3⟩ := e3.adopt d3
    have x2 : Ext N0 g0 w0 g' w := ⟨d2.toExt0.trans x, fun c hc ho => by
      obtain ⟨y1, y2⟩ := d2.oth c hc ho
      exact ⟨(i3 c (by omega)).trans y1, y2⟩, d2.size⟩
    have pend : ∀ k, p listed k = true → (q k || decide (k = j)) = false → q k = false ∧ k ≠ j := by
      intro k _ h; simpa using h
    refine ⟨c1, c2, fun k hk => ?_, fun i k hik hei hek hk => ?_, fun i k hpi hqi => c5 i k hpi (pend i hpi hqi).1, g', d1, x2, by rw [hS']; exact i1, fun m cs hm j u hj => let ⟨o, i, u', c, r⟩ := d4 m cs hm j u hj; ⟨o, x.imm _ _ i, u', x.cell _ _ _ i c, r.mono0 x⟩, fun t v1 hno hv => ?_, fun k hpk hqk => ?_, fun i k hpi hqi hpk hqk hne => d7 i k hpi (pend i hpi hqi).1 hpk (pend k hpk hqk).1 hne, d8, d9⟩
    · simp only [Bool.or_eq_true, decide_eq_true_eq] at hk
      rcases hk with hk | rfl
      · exact c3 k hk
      · exact hpj
    · simp only [Bool.or_eq_true, decide_eq_true_eq] at hk ⊢
      rcases hk with hk | rfl
      · exact .inl (c4 i k hik hei hek hk)
      · exact .inl (hpre i hik hei)
    · have hlat : ∀ k, j < k → k < ops.size → dst j = some t → dst k = some t → q k = false := by
        intro k hjk hkm hdj hdk
        have hok := Array.getElem?_eq_getElem hkm
        have hoj := Array.getElem?_eq_getElem hjm
        have hdk' : (ops[k]'hkm).dst = some t := by simpa [dst, hok] using hdk
        have hdj' : (ops[j]'hjm).dst = some t := by simpa [dst, hoj] using hdj
        obtain ⟨s1, _⟩ := hPlan.slots k j _ _ t (by omega) (by simp) (by simp) hdj' (names_dst hdk')
        have := c5 j k hpj hqj (s1 hjk)
        cases hqk : q k with
        | false => rfl
        | true => rw [c3 k hqk] at this; cases this
      rw [VE_set (m := ops.size) hlat ops.size (Nat.le_refl _)] at hv
      by_cases hc : j < ops.size ∧ dst j = some t
      · rw [if_pos hc] at hv
        obtain ⟨y1, y2, y3⟩ := e4 t hc.2
        rw [y2] at hv; cases hv
        exact ⟨y1, by rw [y3]; exact i2⟩
      · rw [if_neg hc] at hv
        obtain ⟨y1, y2⟩ := d5 t v1 (fun k hpk hqk hdk => by
          by_cases hkj : k = j
          · subst hkj; exact hc ⟨hjm, hdk⟩
          · exact hno k hpk (by simp [hqk, hkj]) hdk) hv
        exact ⟨y1, y2.mono0 x⟩
    · obtain ⟨p1, p2⟩ := pend k hpk hqk
      obtain ⟨y1, y2, u, u', y3, y4⟩ := d6 k hpk p1
      exact ⟨y1, y2, u, u', y3.mono0 x (i3 _ (d7 k j hpk p1 hpj hqj p2)), y4⟩
  have settle : ∀ listed cs a w, (∃ q, D listed q cs a w) → ∃ q, D listed q cs a w ∧ ∀ j, j < ops.size → eff j = true → (∀ i, i < j → eff i = true → q i = true) → p listed j = true → q j = true := by
    intro listed cs a w hex
    have : ∀ k, ∃ q, D listed q cs a w ∧ ∀ j, j < k → eff j = true → (∀ i, i < j → eff i = true → q i = true) → p listed j = true → q j = true := by
      intro k
      induction k with
      | zero => obtain ⟨q, hD⟩ := hex; exact ⟨q, hD, fun j hj => by omega⟩
      | succ k ih =>
        obtain ⟨q, hD, hM⟩ := ih
        by_cases hc : eff k = true ∧ p listed k = true ∧ q k = false ∧ ∀ i, i < k → eff i = true → q i = true
        · obtain ⟨h1, h2, h3, h4⟩ := hc
          refine ⟨_, settle1 listed q cs a w hD k h2 h3 h1 h4, fun j hj hej hpre hpj => ?_⟩
          by_cases hjk : j = k
          · subst hjk; simp
          · have := hM j (by omega) hej (fun i hi hei => by
              have := hpre i hi hei
              have hne : i ≠ k := by omega
              simpa [hne] using this) hpj
            simp [this]
        · refine ⟨q, hD, fun j hj hej hpre hpj => ?_⟩
          by_cases hjk : j = k
          · subst hjk
            cases hq : q j with
            | true => rfl
            | false => exact absurd ⟨hej, hpj, hq, hpre⟩ hc
          · exact hM j (by omega) hej hpre hpj
    exact this ops.size
  -- a row that waits: something before it has not been done
  have front : ∀ listed q cs a w, D listed q cs a w → (∀ j, j < ops.size → eff j = true → (∀ i, i < j → eff i = true → q i = true) → p listed j = true → q j = true) →
      ∀ j, j < ops.size → eff j = true → ¬ (∀ i, i < j → eff i = true → q i = true) → ∃ F, F < j ∧ eff F = true ∧ p listed F = false := by
    intro listed q cs a w hD hM j hj hej hnot
    have hmin : ∀ k, k ≤ j → (∀ i, i < k → eff i = true → q i = true) ∨ ∃ F, F < j ∧ eff F = true ∧ p listed F = false := by
      intro k
      induction k with
      | zero => intro _; exact .inl (fun i hi => by omega)
      | succ k ih =>
        intro hk
        rcases ih (by omega) with h1 | h1
        · by_cases hek : eff k = true
          · cases hpk : p listed k with
            | false => exact .inr ⟨k, by omega, hek, hpk⟩
            | true =>
              have := hM k (by omega) hek h1 hpk
              refine .inl (fun i hi hei => ?_)
              by_cases hik : i = k
              · subst hik; exact this
              · exact h1 i (by omega) hei
          · refine .inl (fun i hi hei => ?_)
            by_cases hik : i = k
            · subst hik; exact absurd hei hek
            · exact h1 i (by omega) hei
        · exact .inr h1
    rcases hmin j (Nat.le_refl _) with h1 | h1
    · exact absurd h1 hnot
    · exact h1
  have effOp : ∀ k, eff k = true → ∃ o, ops[k]? = some o ∧ isEff (has2 h.muts id k) (has2 h.frz id k) o.op = true := by
    intro k hk
    simp only [eff] at hk
    cases ho : ops[k]? with
    | none => rw [ho] at hk; cases hk
    | some o => rw [ho] at hk; exact ⟨o, rfl, hk⟩
  -- at an operation that is ready, what lies before it has been done, what lies behind it has not
  have readyAnc : ∀ listed q cs a w, D listed q cs a w → ∀ i o, ops[i]? = some o → (∀ ed ∈ o.after.toList, Region.binds .any ed = true → p listed ed.on = true) → p listed i = false →
      (∀ j, anc j i = true → p listed j = true) ∧ (∀ j, anc i j = true → p listed j = false) := by
    intro listed q cs a w hD i o ho hr hni
    refine ⟨fun j hj => ?_, fun j hj => ?_⟩
    · obtain ⟨ed, k1, k2, k3⟩ := before_get ops.toList i o (by simpa using ho) (hPlan.edge i o (by simpa using ho)) j hj
      have hon := hr ed k1 k2
      rcases k3 with k3 | k3
      · rw [← k3]; exact hon
      · exact closed listed q cs a w hD ed.on hon j k3
    · cases hpj : p listed j with
      | false => rfl
      | true => have := closed listed q cs a w hD j hpj i hj; rw [hni] at this; cases this
  -- .. and it does not lie behind a row that waits
  have readyFree : ∀ listed q cs a w, D listed q cs a w → (∀ j, j < ops.size → eff j = true → (∀ i, i < j → eff i = true → q i = true) → p listed j = true → q j = true) →
      ∀ i o, ops[i]? = some o → (∀ ed ∈ o.after.toList, Region.binds .any ed = true → p listed ed.on = true) → p listed i = false → ∀ j, p listed j = true → q j = false → anc j i = false := by
    intro listed q cs a w hD hM i o ho hr hni j hpj hqj
    cases hb : anc j i with
    | false => rfl
    | true =>
      exfalso
      have hi : i < ops.size := (Array.getElem?_eq_some_iff.1 ho).1
      have hjm := plt listed q cs a w hD j hpj
      obtain ⟨hej, _⟩ := hD.2.2.2.2.2.choose_spec.2.2.2.2.2.1 j hpj hqj
      obtain ⟨F, f1, f2, f3⟩ := front listed q cs a w hD hM j hjm hej (fun hall => by rw [hM j hjm hej hall hpj] at hqj; cases hqj)
      obtain ⟨oF, y1, y2⟩ := effOp F f2
      obtain ⟨oj, y3, y4⟩ := effOp j hej
      rcases hPlan.effs F j oF oj f1 (by simpa using y1) (by simpa using y3) y2 y4 with z | ⟨_, _, z⟩
      · rw [closed listed q cs a w hD j hpj F z] at f3; cases f3
      · have := (readyAnc listed q cs a w hD i o ho hr hni).1 F (z i (by simpa using hi) hb)
        rw [this] at f3; cases f3
  -- its slots hold what they hold in the text's order
  have slotsOk : ∀ listed q cs a w, D listed q cs a w → (∀ j, j < ops.size → eff j = true → (∀ i, i < j → eff i = true → q i = true) → p listed j = true → q j = true) →
      ∀ i o, ops[i]? = some o → (∀ ed ∈ o.after.toList, Region.binds .any ed = true → p listed ed.on = true) → p listed i = false →
      (∀ t ∈ names ops.toList o, VE dst Es q ops.size t = look (Es i) t) ∧ (∀ t ∈ names ops.toList o, ∀ j, p listed j = true → q j = false → dst j ≠ some t) ∧
      (∀ t k, dst i = some t → i < k → k < ops.size → dst k = some t → q k = false) := by
    intro listed q cs a w hD hM i o ho hr hni
    obtain ⟨r1, r2⟩ := readyAnc listed q cs a w hD i o ho hr hni
    have r3 := readyFree listed q cs a w hD hM i o ho hr hni
    have qp : ∀ k, p listed k = false → q k = false := fun k hk => by
      cases hq : q k with
      | false => rfl
      | true => rw [hD.2.2.1 k hq] at hk; cases hk
    have hi := lt_of_get (l := ops.toList) (by simpa using ho)
    rw [Array.length_toList] at hi
    refine ⟨fun t ht => ?_, fun t ht j hpj hqj hdj => ?_, fun t k hdi hik hk hdk => ?_⟩
    · have := VE_canon (m := ops.size) hEs (i := i) (t := t) ops.size (Nat.le_refl _)
      rw [show min i ops.size = i by omega] at this
      rw [← this]
      refine VE_congr ops.size (fun j hj hdj => ?_)
      by_cases hij : j = i
      · subst hij; rw [qp _ hni]; simp
      · have hoj := Array.getElem?_eq_getElem hj
        have hdj' : (ops[j]'hj).dst = some t := by simpa [dst, hoj] using hdj
        obtain ⟨s1, s2⟩ := hPlan.slots i j o _ t (fun h => hij h.symm) (by simpa using ho) (by simp) hdj' ht
        rcases Nat.lt_or_gt_of_ne hij with hlt | hgt
        · cases hq : q j with
          | true => simp [hlt]
          | false => have := r3 j (r1 j (s1 hlt)) hq; rw [show anc j i = true from s1 hlt] at this; cases this
        · rw [qp j (r2 j (s2 hgt))]; simp; omega
    · have hij : j ≠ i := by rintro rfl; rw [hni] at hpj; cases hpj
      have hj := plt listed q cs a w hD j hpj
      have hoj := Array.getElem?_eq_getElem hj
      have hdj' : (ops[j]'hj).dst = some t := by simpa [dst, hoj] using hdj
      obtain ⟨s1, s2⟩ := hPlan.slots i j o _ t (fun h => hij h.symm) (by simpa using ho) (by simp) hdj' ht
      rcases Nat.lt_or_gt_of_ne hij with hlt | hgt
      · have := r3 j hpj hqj; rw [show anc j i = true from s1 hlt] at this; cases this
      · have := r2 j (s2 hgt); rw [hpj] at this; cases this
    · have hok := Array.getElem?_eq_getElem hk
      have hdk' : (ops[k]'hk).dst = some t := by simpa [dst, hok] using hdk
      have hdi' : o.dst = some t := by simpa [dst, ho] using hdi
      obtain ⟨_, s2⟩ := hPlan.slots i k o _ t (by omega) (by simpa using ho) (by simp) hdk' (names_dst hdi')
      exact qp k (r2 k (s2 hik))
  have pset : ∀ (listed : Array Bool) (i : Nat), listed.size = ops.size → i < ops.size → p (listed.setIfInBounds i true) = fun j => p listed j || decide (j = i) := by
    intro listed i hsz hi
    funext j
    show (listed.setIfInBounds i true).getD j false = (listed.getD j false || decide (j = i))
    rw [Array.getD_eq_getD_getElem?, Array.getElem?_setIfInBounds, Array.getD_eq_getD_getElem?]
    by_cases hij : i = j
    · subst hij; simp [hsz, hi]
    · simp [hij]; omega
  have putOther : ∀ (a : Act) (d : Option Nat) (v' : Value) (t : Nat), d ≠ some t → (a.put d v').tmps.getD t undef = a.tmps.getD t undef := by
    intro a d v' t hne
    cases d with
    | none => rfl
    | some u =>
      have hut : u ≠ t := fun h => hne (by rw [h])
      simp only [Act.put]
      rw [Array.getD_eq_getD_getElem?, Array.getElem?_setIfInBounds, if_neg hut, ← Array.getD_eq_getD_getElem?]
  have putSize : ∀ (a : Act) (d : Option Nat) (v' : Value), (a.put d v').tmps.size = a.tmps.size := by
    intro a d v'; cases d <;> simp [Act.put]
  have putDefers : ∀ (a : Act) (d : Option Nat) (v' : Value), (a.put d v').defers = a.defers := by
    intro a d v'; cases d <;> simp [Act.put]
  -- one more is done
  have more : ∀ listed q cs (a : Act) (w : World), D listed q cs a w → (∀ j, j < ops.size → eff j = true → (∀ i, i < j → eff i = true → q i = true) → p listed j = true → q j = true) →
      ∀ i o, ops[i]? = some o → (∀ ed ∈ o.after.toList, Region.binds .any ed = true → p listed ed.on = true) → p listed i = false → (eff i = true → ∀ j, j < i → eff j = true → q j = true) →
      ∀ (v' : Value) (w' : World) (g g' : G), Below N0 w0 w → Ext N0 g0 w0 g w → GOk N0 g w gl →
      (∀ t v, (∀ j, p listed j = true → q j = false → dst j ≠ some t) → VE dst Es q ops.size t = some v → t < a.tmps.size ∧ Rel N0 g w v (a.tmps.getD t undef)) →
      (∀ j, p listed j = true → q j = false → eff j = true ∧ w0.heap.size ≤ cs j ∧ ∃ v v', Waits N0 g w (cs j) (Ss j) (Ss (j + 1)) v v' ∧
        ∀ t, dst j = some t → t < a.tmps.size ∧ look (Es (j + 1)) t = some v ∧ a.tmps.getD t undef = v') → a.tmps.size = n → a.defers = [] →
      Below N0 w w' → Ext N0 g w g' w' → Inv N0 (SL eff Ss (fun j => q j || decide (j = i)) ops.size) g' w' → (∀ t v, o.dst = some t → look (Es (i + 1)) t = some v → Rel N0 g' w' v v') →
      D (listed.setIfInBounds i true) (fun j => q j || decide (j = i)) cs (a.put o.dst v') w' := by
    intro listed q cs a w hD hM i o ho hr hni hpre v' w' g g' b1 b2 b3 b4 b4' b5 b6 k1 k2 k3 k4
    have hi : i < ops.size := (Array.getElem?_eq_some_iff.1 ho).1
    have hp' := pset listed i hD.1 hi
    obtain ⟨_, s2, s3⟩ := slotsOk listed q cs a w hD hM i o ho hr hni
    have r3 := readyFree listed q cs a w hD hM i o ho hr hni
    have hdi : dst i = o.dst := by simp [dst, ho]
    have hqi : q i = false := by
      cases hq : q i with
      | false => rfl
      | true => rw [hD.2.2.1 i hq] at hni; cases hni
    have pend : ∀ k, p (listed.setIfInBounds i true) k = true → (q k || decide (k = i)) = false → p listed k = true ∧ q k = false ∧ k ≠ i := by
      intro k hk hq
      rw [hp'] at hk
      simp only [Bool.or_eq_false_iff, decide_eq_false_iff_not] at hq
      simp only [Bool.or_eq_true, decide_eq_true_eq] at hk
      exact ⟨hk.resolve_right hq.2, hq.1, hq.2⟩
    refine ⟨by simp [hD.1], fun i' o' ho' hpi' ed hed hb => ?_, fun k hk => ?_, fun j k hjk hej hek hk => ?_, fun j k hpj hqj hb => ?_, g', b1.trans k1, b2.trans k2, k3, b3.mono k2, fun t v hno hv => ?_, fun j hpj hqj => ?_, fun j k hpj hqj hpk hqk hne => ?_, by rw [putSize]; exact b5, by rw [putDefers]; exact b6⟩
    · rw [hp'] at hpi' ⊢
      simp only [Bool.or_eq_true, decide_eq_true_eq] at hpi' ⊢
      rcases hpi' with hpi' | hpi'
      · exact .inl (hD.2.1 i' o' ho' hpi' ed hed hb)
      · subst hpi'
        rw [ho] at ho'; cases ho'
        exact .inl (hr ed hed hb)
    · rw [hp']
      simp only [Bool.or_eq_true, decide_eq_true_eq] at hk ⊢
      exact hk.imp (hD.2.2.1 k) (fun h => h)
    · simp only [Bool.or_eq_true, decide_eq_true_eq] at hk ⊢
      rcases hk with hk | rfl
      · exact .inl (hD.2.2.2.1 j k hjk hej hek hk)
      · exact .inl (hpre hek j hjk hej)
    · obtain ⟨p1, p2, p3⟩ := pend j hpj hqj
      rw [hp']
      have hki : k ≠ i := by
        rintro rfl
        have := r3 j p1 p2; rw [hb] at this; cases this
      simp only [Bool.or_eq_false_iff, decide_eq_false_iff_not]
      exact ⟨hD.2.2.2.2.1 j k p1 p2 hb, hki⟩
    · rw [VE_set (m := ops.size) (fun k h1 h2 h3 h4 => s3 t k h3 h1 h2 h4) ops.size (Nat.le_refl _), hdi] at hv
      by_cases hc : i < ops.size ∧ o.dst = some t
      · rw [if_pos hc] at hv
        have hlt : t < a.tmps.size := by rw [b5]; exact hd o (by simpa using List.mem_of_getElem? (l := ops.toList) (by simpa using ho)) t hc.2
        rw [hc.2]
        simp only [Act.put, Array.size_setIfInBounds]
        refine ⟨hlt, ?_⟩
        rw [Array.getD_eq_getD_getElem?, Array.getElem?_setIfInBounds]
        simp [hlt, k4 t v hc.2 hv]
      · rw [if_neg hc] at hv
        have hne : o.dst ≠ some t := fun h => hc ⟨hi, h⟩
        obtain ⟨m1, m2⟩ := b4 t v (fun j hpj hqj => hno j (by rw [hp']; simp [hpj]) (by
          have : j ≠ i := by rintro rfl; rw [hni] at hpj; cases hpj
          simp [hqj, this])) hv
        rw [putSize, putOther a _ v' t hne]
        exact ⟨m1, m2.mono k2⟩
    · obtain ⟨p1, p2, p3⟩ := pend j hpj hqj
      obtain ⟨y1, y2, u, u', y3, y4⟩ := b4' j p1 p2
      refine ⟨y1, y2, u, u', y3.mono k2, fun t hdt => ?_⟩
      obtain ⟨z1, z2, z3⟩ := y4 t hdt
      have hne : o.dst ≠ some t := fun h => s2 t (names_dst h) j p1 p2 hdt
      rw [putSize, putOther a _ v' t hne]
      exact ⟨z1, z2, z3⟩
    · obtain ⟨p1, p2, _⟩ := pend j hpj hqj
      obtain ⟨p3, p4, _⟩ := pend k hpk hqk
      exact hD.2.2.2.2.2.choose_spec.2.2.2.2.2.2.1 j k p1 p2 p3 p4 hne
  -- one more waits
  have wait : ∀ listed q cs (a : Act) (w : World), D listed q cs a w → (∀ j, j < ops.size → eff j = true → (∀ i, i < j → eff i = true → q i = true) → p listed j = true → q j = true) →
      ∀ i o, ops[i]? = some o → (∀ ed ∈ o.after.toList, Region.binds .any ed = true → p listed ed.on = true) → p listed i = false → eff i = true →
      ∀ (v : AV) (v' : Value) (arr : Array Value) (ty : TypeId) (g : G), Below N0 w0 w → Ext N0 g0 w0 g w → Inv N0 (SL eff Ss q ops.size) g w → GOk N0 g w gl →
      (∀ t v, (∀ j, p listed j = true → q j = false → dst j ≠ some t) → VE dst Es q ops.size t = some v → t < a.tmps.size ∧ Rel N0 g w v (a.tmps.getD t undef)) →
      (∀ j, p listed j = true → q j = false → eff j = true ∧ w0.heap.size ≤ cs j ∧ ∃ v v', Waits N0 g w (cs j) (Ss j) (Ss (j + 1)) v v' ∧
        ∀ t, dst j = some t → t < a.tmps.size ∧ look (Es (j + 1)) t = some v ∧ a.tmps.getD t undef = v') → a.tmps.size = n → a.defers = [] →
      (∀ t, o.dst = some t → look (Es (i + 1)) t = some v) → Waits N0 g (pushBlk w (.cells arr ty (0, 0))) w.heap.size (Ss i) (Ss (i + 1)) v v' →
      D (listed.setIfInBounds i true) q (upd cs i w.heap.size) (a.put o.dst v') (pushBlk w (.cells arr ty (0, 0))) := by
    intro listed q cs a w hD hM i o ho hr hni hei v v' arr ty g b1 b2 b2' b3 b4 b4' b5 b6 k4 k5
    have hi : i < ops.size := (Array.getElem?_eq_some_iff.1 ho).1
    have hp' := pset listed i hD.1 hi
    obtain ⟨_, s2, s3⟩ := slotsOk listed q cs a w hD hM i o ho hr hni
    have r3 := readyFree listed q cs a w hD hM i o ho hr hni
    obtain ⟨r1, r2⟩ := readyAnc listed q cs a w hD i o ho hr hni
    have hdi : dst i = o.dst := by simp [dst, ho]
    obtain ⟨i1, x1⟩ := b2'.push (.cells arr ty (0, 0))
    have pend : ∀ k, p (listed.setIfInBounds i true) k = true → k ≠ i → p listed k = true := by
      intro k hk hne
      rw [hp'] at hk
      simp only [Bool.or_eq_true, decide_eq_true_eq] at hk
      exact hk.resolve_right hne
    have pni : ∀ k, p listed k = true → k ≠ i := by rintro k hk rfl; rw [hni] at hk; cases hk
    refine ⟨by simp [hD.1], fun i' o' ho' hpi' ed hed hb => ?_, fun k hk => ?_, hD.2.2.2.1, fun j k hpj hqj hb => ?_, g, b1.trans (below_pushBlk b2'.le), b2.trans x1, i1, b3.mono x1, fun t u hno hv => ?_, fun j hpj hqj => ?_, fun j k hpj hqj hpk hqk hne => ?_, by rw [putSize]; exact b5, by rw [putDefers]; exact b6⟩
    · rw [hp'] at hpi' ⊢
      simp only [Bool.or_eq_true, decide_eq_true_eq] at hpi' ⊢
      rcases hpi' with hpi' | hpi'
      · exact .inl (hD.2.1 i' o' ho' hpi' ed hed hb)
      · subst hpi'
        rw [ho] at ho'; cases ho'
        exact .inl (hr ed hed hb)
    · rw [hp']
      simp only [Bool.or_eq_true, decide_eq_true_eq]
      exact .inl (hD.2.2.1 k hk)
    · rw [hp']
      simp only [Bool.or_eq_false_iff, decide_eq_false_iff_not]
      by_cases hji : j = i
      · subst hji
        refine ⟨r2 k hb, ?_⟩
        rintro rfl
        have := r1 _ hb; rw [hni] at this; cases this
      · have p1 := pend j hpj hji
        refine ⟨hD.2.2.2.2.1 j k p1 hqj hb, ?_⟩
        rintro rfl
        have := r3 j p1 hqj; rw [hb] at this; cases this
    · have hne : o.dst ≠ some t := fun h => by
        have hq : q i = false := by
          cases hq : q i with
          | false => rfl
          | true => rw [hD.2.2.1 i hq] at hni; cases hni
        exact hno i (by rw [hp']; simp) hq (by rw [hdi]; exact h)
      obtain ⟨m1, m2⟩ := b4 t u (fun j hpj hqj => hno j (by rw [hp']; simp [hpj]) hqj) hv
      rw [putSize, putOther a _ v' t hne]
      exact ⟨m1, m2.mono x1⟩
    · by_cases hji : j = i
      · subst hji
        refine ⟨hei, by rw [upd_same]; exact b2.size, v, v', by rw [upd_same]; exact k5, fun t hdt => ?_⟩
        rw [hdi] at hdt
        have hlt : t < a.tmps.size := by rw [b5]; exact hd o (by simpa using List.mem_of_getElem? (l := ops.toList) (by simpa using ho)) t hdt
        refine ⟨by rw [putSize]; exact hlt, k4 t hdt, ?_⟩
        rw [hdt]
        simp only [Act.put]
        rw [Array.getD_eq_getD_getElem?, Array.getElem?_setIfInBounds]
        simp [hlt]
      · have p1 := pend j hpj hji
        obtain ⟨y1, y2, u, u', y3, y4⟩ := b4' j p1 hqj
        refine ⟨y1, by rw [upd_ne _ _ hji]; exact y2, u, u', by rw [upd_ne _ _ hji]; exact y3.mono x1, fun t hdt => ?_⟩
        obtain ⟨z1, z2, z3⟩ := y4 t hdt
        have hne : o.dst ≠ some t := fun h => s2 t (names_dst h) j p1 hqj hdt
        rw [putSize, putOther a _ v' t hne]
        exact ⟨z1, z2, z3⟩
    · have key : ∀ k, p (listed.setIfInBounds i true) k = true → q k = false → k ≠ i → cs k < w.heap.size := by
        intro k hpk hqk hki
        obtain ⟨_, _, _, _, y3, _⟩ := b4' k (pend k hpk hki) hqk
        exact y3.lt
      by_cases hji : j = i
      · subst hji
        have hki : k ≠ j := fun h => hne h.symm
        rw [upd_same, upd_ne _ _ hki]
        have := key k hpk hqk hki
        omega
      · by_cases hki : k = i
        · subst hki
          rw [upd_same, upd_ne _ _ hji]
          have := key j hpj hqj hji
          omega
        · rw [upd_ne _ _ hji, upd_ne _ _ hki]
          exact hD.2.2.2.2.2.choose_spec.2.2.2.2.2.2.1 j k (pend j hpj hji) hqj (pend k hpk hki) hqk hne
  refine wp_region_any hm ?_
  have main : ∀ (fuel : Nat) (listed : Array Bool) (q : Nat → Bool) (cs : Nat → Nat) (a : Act) (w : World), D listed q cs a w → ((List.range ops.size).filter fun i => !p listed i).length ≤ fuel → wpAny P .any ops Q fuel listed a w := by
    intro fuel
    have done : ∀ (listed : Array Bool) (q : Nat → Bool) (cs : Nat → Nat) (a : Act) (w : World), D listed q cs a w → Region.ready .any ops listed = [] → Q .normal a w := by
      intro listed q0 cs a w hD0 hr
      obtain ⟨q, hD, hM⟩ := settle listed cs a w ⟨q0, hD0⟩
      have hall : ∀ i, i < ops.size → p listed i = true := by
        intro i
        induction i using Nat.strongRecOn with
        | _ i ih =>
          intro hi
          cases hpi : p listed i with
          | true => rfl
          | false =>
            exfalso
            have ho := Array.getElem?_eq_getElem hi
            have hol : ops.toList[i]? = some (ops[i]'hi) := by rw [Array.getElem?_toList]; exact ho
            have : i ∈ Region.ready .any ops listed := by
              rw [mem_ready]
              refine ⟨?_, _, ho, fun ed hed hb => ?_⟩
              · have : listed.getD i false = false := hpi
                rw [Array.getD_eq_getD_getElem?] at this ⊢
                rw [Array.getElem?_eq_getElem (by rw [hD.1]; exact hi)] at this ⊢
                exact this
              · have := hPlan.edge i _ hol ed (by simpa using hed) hb
                exact ih ed.on this (by omega)
            rw [hr] at this; cases this
      have hq1 : ∀ i, i < ops.size → eff i = true → q i = true := by
        intro i
        induction i using Nat.strongRecOn with
        | _ i ih => intro hi hei; exact hM i hi hei (fun k hk hek => ih k hk (by omega) hek) (hall i hi)
      obtain ⟨c1, c2, e1, e2, e3, g, c3, c4, c5, c6, c7, c7', c7'', c8, c9⟩ := hD
      have hqall : ∀ i, i < ops.size → q i = true := by
        intro i hi
        cases hqi : q i with
        | true => rfl
        | false => rw [hq1 i hi (c7' i (hall i hi) hqi).1] at hqi; cases hqi
      refine hq a w ⟨g, c3, c4, ?_, c6, fun t v ht => ?_, c8, c9⟩
      · have h5 := SL_congr (eff := eff) (Ss := Ss) (p := q) (q := fun j => decide (j < ops.size)) ops.size (fun j hj _ => by rw [hqall j hj]; simp [hj])
        rw [h5, SL_canon hSs ops.size (Nat.le_refl _), Nat.min_self, hmm.2] at c5
        exact c5
      · refine c7 t v (fun j hpj hqj => ?_) ?_
        · have hjm : j < ops.size := by
            rcases Nat.lt_or_ge j ops.size with hlt | hge
            · exact hlt
            · have : p listed j = false := by
                show listed.getD j false = false
                rw [Array.getD_eq_getD_getElem?, Array.getElem?_eq_none (by rw [c1]; exact hge)]; rfl
              rw [this] at hpj; cases hpj
          rw [hqall j hjm] at hqj; cases hqj
        · rw [VE_congr (q := fun j => decide (j < ops.size)) ops.size (fun j hj _ => by rw [hqall j hj]; simp [hj]), VE_canon hEs ops.size (Nat.le_refl _), Nat.min_self, hmm.1]
          exact ht
    induction fuel with
    | zero =>
      intro listed q cs a w hD hc
      have hr : Region.ready .any ops listed = [] := by
        cases hrr : Region.ready .any ops listed with
        | nil => rfl
        | cons i r =>
          exfalso
          have hmem : i ∈ Region.ready .any ops listed := by rw [hrr]; simp
          rw [mem_ready] at hmem
          obtain ⟨m1, o, ho, _⟩ := hmem
          have hi : i < ops.size := (Array.getElem?_eq_some_iff.1 ho).1
          have : i ∈ (List.range ops.size).filter fun i => !p listed i := by
            refine List.mem_filter.2 ⟨List.mem_range.2 hi, ?_⟩
            have : listed.getD i false = false := by
              rw [Array.getD_eq_getD_getElem?] at m1 ⊢
              rw [Array.getElem?_eq_getElem (by rw [hD.1]; exact hi)] at m1 ⊢
              exact m1
            show (!listed.getD i false) = true
            rw [this]; rfl
          have := List.length_pos_of_mem this
          omega
      exact ⟨hr, done listed q cs a w hD hr⟩
    | succ fuel ih =>
      intro listed q0 cs a w hD0 hc
      refine ⟨done listed q0 cs a w hD0, fun i hmem => ?_⟩
      obtain ⟨q, hD, hM⟩ := settle listed cs a w ⟨q0, hD0⟩
      rw [mem_ready] at hmem
      obtain ⟨m1, o, ho, hr⟩ := hmem
      have hi : i < ops.size := (Array.getElem?_eq_some_iff.1 ho).1
      have hni : p listed i = false := by
        show listed.getD i false = false
        rw [Array.getD_eq_getD_getElem?] at m1 ⊢
        rw [Array.getElem?_eq_getElem (by rw [hD.1]; exact hi)] at m1 ⊢
        exact m1
      have hr' : ∀ ed ∈ o.after.toList, Region.binds .any ed = true → p listed ed.on = true := fun ed hed hb => hr ed (by simpa using hed) hb
      obtain ⟨s1, s2, s3⟩ := slotsOk listed q cs a w hD hM i o ho hr' hni
      obtain ⟨r1, r2⟩ := readyAnc listed q cs a w hD i o ho hr' hni
      have r3 := readyFree listed q cs a w hD hM i o ho hr' hni
      have hqi : q i = false := by
        cases hq : q i with
        | false => rfl
        | true => rw [hD.2.2.1 i hq] at hni; cases hni
      have hcount : ((List.range ops.size).filter fun j => !p (listed.setIfInBounds i true) j).length ≤ fuel := by
        have hsub : ((List.range ops.size).filter fun j => !p (listed.setIfInBounds i true) j).length < ((List.range ops.size).filter fun j => !p listed j).length := by
          have hp' : ∀ j, p (listed.setIfInBounds i true) j = (p listed j || decide (j = i)) := by
            intro j
            show (listed.setIfInBounds i true).getD j false = (listed.getD j false || decide (j = i))
            rw [Array.getD_eq_getD_getElem?, Array.getElem?_setIfInBounds, Array.getD_eq_getD_getElem?]
            by_cases hij : i = j
            · subst hij; simp [hD.1, hi]
            · simp [hij]; omega
          have : ((List.range ops.size).filter fun j => !p (listed.setIfInBounds i true) j) = (((List.range ops.size).filter fun j => !p listed j).filter fun j => !decide (j = i)) := by
            rw [List.filter_filter]
            apply List.filter_congr
            intro j _
            rw [hp']; cases p listed j <;> simp
          rw [this]
          refine List.length_filter_lt_length_iff_exists.2 ⟨i, List.mem_filter.2 ⟨List.mem_range.2 hi, by simp [hni]⟩, by simp⟩
        omega
      obtain ⟨c1, c2, e1, e2, e3, g, c3, c4, c5, c6, c7, c7', c7'', c8, c9⟩ := hD
      have hD : D listed q cs a w := ⟨c1, c2, e1, e2, e3, g, c3, c4, c5, c6, c7, c7', c7'', c8, c9⟩
      -- what lies before it in the text has been taken in, or it may be done early
      have early : eff i = true → (∀ j, j < i → eff j = true → q j = true) ∨ (isEarly o.op = true ∧ o.guard = none) := by
        intro hei
        by_cases hall : ∀ j, j < i → eff j = true → q j = true
        · exact .inl hall
        · right
          obtain ⟨F, f1, f2, f3⟩ := front listed q cs a w hD hM i hi hei hall
          obtain ⟨oF, y1, y2⟩ := effOp F f2
          have he' := hei
          simp only [eff, ho] at he'
          rcases hPlan.effs F i oF o f1 (by simpa using y1) (by simpa using ho) y2 he' with z | ⟨z1, z2, _⟩
          · rw [r1 F z] at f3; cases f3
          · exact ⟨z1, z2⟩
      have canon : eff i = true → (∀ j, j < i → eff j = true → q j = true) → SL eff Ss q ops.size = Ss i := by
        intro hei hall
        have h5 := SL_congr (eff := eff) (Ss := Ss) (p := q) (q := fun j => decide (j < i)) ops.size (fun j hj hej => by
          rcases Nat.lt_trichotomy j i with hlt | heq | hgt
          · rw [hall j hlt hej]; simp [hlt]
          · subst heq; rw [hqi]; simp
          · have : q j = false := by
              cases hqj : q j with
              | false => rfl
              | true => rw [e2 i j hgt hei hej hqj] at hqi; cases hqi
            rw [this]; simp; omega)
        rw [h5, SL_canon hSs ops.size (Nat.le_refl _), show min i ops.size = i by omega]
      -- its own slots
      have hei : EnvRel N0 g w (restrict (Es i) (names ops.toList o)) a.tmps := by
        intro t v ht
        rw [look_sub] at ht
        by_cases hmt : t ∈ names ops.toList o
        · rw [if_pos hmt, ← s1 t hmt] at ht; exact c7 t v (s2 t hmt) ht
        · rw [if_neg hmt] at ht; cases ht
      have hlk : ∀ t ∈ names ops.toList o, look (restrict (Es i) (names ops.toList o)) t = look (Es i) t := fun t ht => by rw [look_sub, if_pos ht]
      have hst := hstep i o ho
      simp only [step1, Option.bind_eq_some_iff] at hst
      obtain ⟨b, hwant, hst⟩ := hst
      have hw : Region.wanted o (yielded ops a.tmps) = b := wanted_ok hei (by rw [wanted_congr hlk]; exact hwant)
      unfold wpOp
      rw [ho]
      simp only [hw]
      -- the state, behind it
      have hSLset : ∀ S1, (eff i = true → S1 = Ss (i + 1)) → (eff i = false → S1 = SL eff Ss q ops.size) → S1 = SL eff Ss (fun j => q j || decide (j = i)) ops.size := by
        intro S1 q1 q2
        have hlater : ∀ k, i < k → k < ops.size → eff i = true → eff k = true → q k = false := by
          intro k hik hk he hek
          cases hqk : q k with
          | false => rfl
          | true => rw [e2 i k hik he hek hqk] at hqi; cases hqi
        rw [SL_set hlater ops.size (Nat.le_refl _)]
        cases he : eff i with
        | true => simp [hi, q1 he]
        | false => simp [q2 he]
      cases b with
      | false =>
        simp only [Bool.false_eq_true, if_false]
        simp only [Option.some.injEq, Prod.mk.injEq] at hst
        have hpre : eff i = true → ∀ j, j < i → eff j = true → q j = true := by
          intro hei
          rcases early hei with z | ⟨_, z⟩
          · exact z
          · unfold wanted at hwant; rw [z] at hwant; cases hwant
        refine ih _ _ _ _ _ (more listed q cs a w hD hM i o ho hr' hni hpre undef w g g c3 c4 c6 c7 c7' c8 c9 (Below.refl _ _) Ext.refl ?_ ?_) hcount
        · have hsame : Ss (i + 1) = Ss i := hst.2.symm
          -- an operation that is not done turns nothing: the state is that of the listed ones
          cases he : eff i with
          | false => rw [← hSLset _ (fun h => by rw [he] at h; cases h) (fun _ => rfl)]; exact c5
          | true =>
            rw [← hSLset (Ss (i + 1)) (fun _ => rfl) (fun h => by rw [he] at h; cases h), hsame, ← canon he (hpre he)]
            exact c5
        · intro t v hdt hv
          rw [← hst.1, hdt] at hv
          simp only [putd, look_put, if_true] at hv
          cases hv
          exact Rel.mk_tuple RelL.nil
      | true =>
        simp only [if_true]
        simp only [Option.bind_eq_some_iff] at hst
        obtain ⟨⟨r, S1⟩, hop, hst⟩ := hst
        have hEr : ∀ t v, o.dst = some t → look (Es (i + 1)) t = some v → r = some v := by
          intro t v hdt hv
          cases r with
          | none => simp [hdt] at hst
          | some u =>
            simp only [hdt, Option.some.injEq, Prod.mk.injEq] at hst
            rw [← hst.1, look_put, if_pos rfl] at hv
            exact hv
        have hS1 : Ss (i + 1) = S1 := by
          cases r with
          | none => cases hdt : o.dst <;> simp [hdt] at hst; exact hst.2.symm
          | some u => cases hdt : o.dst <;> simp [hdt] at hst <;> exact hst.2.symm
        have hop' : oper P gl call (has2 h.muts id i) (has2 h.frz id i) o (restrict (Es i) (names ops.toList o)) (Ss i) = some (r, S1) := by
          rw [oper_congr (fun t ht => hlk t (names_opnds ht))]; exact hop
        refine .inl ?_
        cases he : eff i with
        | true =>
          have he' := he
          simp only [eff, ho] at he'
          by_cases hall : ∀ j, j < i → eff j = true → q j = true
          · have hcan := canon he hall
            rw [hcan] at c5
            refine oper_wp hcall c6 hei c5 hop' (fun v' w' g' k1 k2 k3 k4 => ?_)
            refine ih _ _ _ _ _ (more listed q cs a w hD hM i o ho hr' hni (fun _ => hall) v' w' g g' c3 c4 c6 c7 c7' c8 c9 k1 k2 ?_ ?_) hcount
            · rw [← hSLset (Ss (i + 1)) (fun _ => rfl) (fun h => by rw [he] at h; cases h), hS1]; exact k3
            · intro t v hdt hv; exact k4 v (hEr t v hdt hv)
          · obtain ⟨z1, z2⟩ := (early he).resolve_left hall
            refine early_wp c6 hei z1 hop' (fun v v' arr ty sz es y1 y2 y3 y4 y5 y6 => ?_)
            refine ih _ _ _ _ _ (wait listed q cs a w hD hM i o ho hr' hni he v v' arr ty g c3 c4 c5 c6 c7 c7' c8 c9 (fun t hdt => ?_) ?_) hcount
            · have := (step1_env (hstep i o ho)).2 t hdt
              obtain ⟨u, hu⟩ := this
              rw [hu, ← hEr t u hdt hu]; exact y1
            · have hk := c5.fresh _ (Nat.le_refl _)
              obtain ⟨_, x1⟩ := c5.push (.cells arr ty (0, 0))
              exact ⟨c5.le, by simp [pushBlk], hk, arr, ty, sz, es, by rw [pushBlk_get, if_pos rfl], by rw [hS1]; exact y2, y3, y4, fun j u hj => let ⟨o1, u', a1, r1⟩ := y5 j u hj; ⟨o1, u', a1, r1.mono x1⟩, y6⟩
        | false =>
          have he' := he
          simp only [eff, ho] at he'
          -- it comes to the same at the state that the listed ones left
          have hop2 : oper P gl call (has2 h.muts id i) (has2 h.frz id i) o (restrict (Es i) (names ops.toList o)) (SL eff Ss q ops.size) = some (r, SL eff Ss q ops.size) := by
            cases hrd : isRead (has2 h.frz id i) o.op with
            | false => exact (oper_pure he' hrd hop').2 _
            | true =>
              obtain ⟨j, j1, j2, j3, j4⟩ := SL_at (eff := eff) (Ss := Ss) (p := q) ops.size
              have hj3 : j = 0 ∨ ∃ oj, ops.toList[j - 1]? = some oj ∧ isEff (has2 h.muts id (j - 1)) (has2 h.frz id (j - 1)) oj.op = true := by
                rcases j3 with j3 | ⟨j3, j5⟩
                · exact .inl j3
                · right
                  simp only [eff] at j5
                  cases hoj : ops[j - 1]? with
                  | none => rw [hoj] at j5; cases j5
                  | some oj => rw [hoj] at j5; exact ⟨oj, by simpa using hoj, j5⟩
              have hbnd : ∀ (k : Nat) (ok : Oper), ops.toList[k]? = some ok → isEff (has2 h.muts id k) (has2 h.frz id k) ok.op = true → (((Region.before ops.toList.toArray).getD i 0).testBit k = true → k < j) ∧ (((Region.before ops.toList.toArray).getD k 0).testBit i = true → j ≤ k) := by
                intro k ok hok hek
                have hok' : ops[k]? = some ok := by simpa using hok
                have hkl : k < ops.size := (Array.getElem?_eq_some_iff.1 hok').1
                have hek' : eff k = true := by simp only [eff, hok']; exact hek
                refine ⟨fun hb => j4 k hkl ?_ hek', fun hb => ?_⟩
                · cases hqk : q k with
                  | true => rfl
                  | false => have := r3 k (r1 k hb) hqk; rw [show anc k i = true from hb] at this; cases this
                · have hpk := r2 k hb
                  have hqk : q k = false := by
                    cases hqk : q k with
                    | false => rfl
                    | true => rw [e1 k hqk] at hpk; cases hpk
                  rcases Nat.lt_or_ge k j with hlt | hge
                  · exfalso
                    rcases j3 with j3 | ⟨j3, j5⟩
                    · omega
                    · rcases Nat.lt_or_ge k (j - 1) with hl2 | hg2
                      · rw [e2 k (j - 1) hl2 hek' j5 j3] at hqk; cases hqk
                      · have : k = j - 1 := by omega
                        subst this; rw [j3] at hqk; cases hqk
                  · exact hge
              rw [j2]
              rcases hPlan.reads i o (by simpa using ho) hrd j (by simpa using j1) hj3 hbnd with ⟨q1, q2⟩ | ⟨js, q1, q2⟩
              · -- no effect lies between
                have : ∀ d, j + d ≤ i → Ss (j + d) = Ss j := by
                  intro d
                  induction d with
                  | zero => intro _; rfl
                  | succ d ihd =>
                    intro hle
                    have hjd : j + d < ops.size := by omega
                    have hok := Array.getElem?_eq_getElem hjd
                    rw [← ihd (by omega)]
                    refine hSs (j + d) hjd ?_
                    simp only [eff, hok]
                    exact q2 (j + d) _ (by omega) (by omega) (by simp)
                have h5 := this (i - j) (by omega)
                rw [show j + (i - j) = i by omega] at h5
                rw [← h5]
                have := oper_still he' hop'
                rw [← this]
                have hop3 := hop'
                rw [this] at hop3
                rw [this]
                exact hop3
              · obtain ⟨o2, e2, S2, y1, y2, y3⟩ := try_ok htry i js q1
                have ho2 : ops[i]? = some o2 := by simpa using y1
                rw [ho] at ho2; cases ho2
                obtain ⟨z1, z2⟩ := tget i _ _ y2
                obtain ⟨e3, S3, y4, y5⟩ := y3 j q2
                obtain ⟨z3, z4⟩ := tget j _ _ y4
                unfold sameAt at y5
                rw [← z1, hwant] at y5
                simp only at y5
                rw [oper_read hrd] at hop'
                simp only [Option.map_eq_some_iff, Prod.mk.injEq] at hop'
                obtain ⟨u, u1, u2, u3⟩ := hop'
                have hrc : ∀ S, readV P gl o (restrict (Es i) (names ops.toList o)) S = readV P gl o (Es i) S := by
                  intro S; unfold readV; rw [oper_congr (fun t ht => hlk t (names_opnds ht))]
                rw [hrc] at u1
                rw [← z2, u1] at y5
                split at y5
                · rename_i x1 x2 hx1 hx2
                  cases hx1
                  have hsm := same_eq _ _ y5
                  rw [oper_read hrd, hrc, z4, hx2]
                  simp only [Option.map_some]
                  rw [← u2, hsm]
                · cases y5
          refine oper_wp hcall c6 hei c5 hop2 (fun v' w' g' k1 k2 k3 k4 => ?_)
          refine ih _ _ _ _ _ (more listed q cs a w hD hM i o ho hr' hni (fun h => by rw [he] at h; cases h) v' w' g g' c3 c4 c6 c7 c7' c8 c9 k1 k2 ?_ ?_) hcount
          · rw [← hSLset _ (fun h => by rw [he] at h; cases h) (fun _ => rfl)]; exact k3
          · intro t v hdt hv; exact k4 v (hEr t v hdt hv)
  refine main ops.size _ (fun _ => false) (fun _ => 0) a _ ?_ ?_
  · obtain ⟨g, c3, c4, c5, c6, c7, c8, c9⟩ := hat
    obtain ⟨i1, x1⟩ := c5.drawn (n := w.drawn + 1)
    have hpf : p (Array.replicate ops.size false) = fun _ => false := by
      funext j
      show (Array.replicate ops.size false).getD j false = false
      rw [Array.getD_eq_getD_getElem?, Array.getElem?_replicate]
      split <;> rfl
    have hV : ∀ k t, VE dst Es (fun _ => false) k t = look (Es 0) t := by
      intro k t; induction k with
      | zero => rfl
      | succ k ih => simp [VE, ih]
    have hSL : ∀ k, SL eff Ss (fun _ => false) k = Ss 0 := by
      intro k; induction k with
      | zero => rfl
      | succ k ih => simp [SL, ih]
    refine ⟨by simp, (fun i o ho hpi => by rw [hpf] at hpi; cases hpi), (fun k hk => by cases hk), (fun j k _ _ _ hk => by cases hk), (fun j k hpj => by rw [hpf] at hpj; cases hpj), g, c3.trans below_drawn, c4.trans x1, ?_, c6.mono x1, fun t v _ hv => ?_,
      (fun j hpj => by rw [hpf] at hpj; cases hpj), (fun j k hpj => by rw [hpf] at hpj; cases hpj), c8, c9⟩
    · rw [hSL, h00.2]; exact i1
    · rw [hV, h00.1] at hv
      exact ⟨(c7 t v hv).1, (c7 t v hv).2.mono x1⟩
  · exact Nat.le_trans (List.length_filter_le _ _) (by simp)

end
end Go.Proofs.YtmicmlcfbmphfaaDoor.Ae

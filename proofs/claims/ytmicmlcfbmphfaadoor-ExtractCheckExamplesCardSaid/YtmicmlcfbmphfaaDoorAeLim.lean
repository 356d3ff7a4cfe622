/- The interpreter without a bound on its steps: the limit over the bound, and the equations that it keeps.
   No conditions beyond those of each lemma. -/
import Derived.Test.YtmicmlcfbmphfaaDoorAeDraw
set_option linter.unusedSimpArgs false
set_option linter.unusedVariables false
set_option linter.unnecessarySimpa false
namespace Go.Proofs.YtmicmlcfbmphfaaDoor.Ae
open Go

def Le (F G : CallF) : Prop := ∀ f as S r, F f as S = some r → G f as S = some r

section
variable {P : Program} {gl : Gl} {F G : CallF}

theorem oper_mono (hl : Le F G) {mt frz : Bool} {o : Oper} {e : Env} {S : St} {r : Option AV × St} (h : oper P gl F mt frz o e S = some r) : oper P gl G mt frz o e S = some r := by
  obtain ⟨dst, op, ty, pos, after, guard⟩ := o
  cases op <;> try exact h
  case makeFunc fn fs cs => cases fn <;> exact h
  case call c =>
    obtain ⟨callee, as, ts⟩ := c
    cases callee <;> try exact h
    case value f =>
      simp only [oper, Option.bind_eq_some_iff] at h ⊢
      obtain ⟨v, hv, h⟩ := h
      refine ⟨v, hv, ?_⟩
      split at h
      · simp only [Option.bind_eq_some_iff] at h ⊢
        obtain ⟨vs, hvs, h⟩ := h
        refine ⟨vs, hvs, ?_⟩
        obtain ⟨r1, S1⟩ := r
        obtain ⟨u, hu, rfl⟩ := valS_some h
        rw [hl _ _ _ _ hu]; rfl
      · simp at h

theorem step1_mono (hl : Le F G) {mt frz : Bool} {ops : List Oper} {o : Oper} {e : Env} {S : St} {r : Env × St} (h : step1 P gl F mt frz ops o e S = some r) : step1 P gl G mt frz ops o e S = some r := by
  simp only [step1, Option.bind_eq_some_iff] at h ⊢
  obtain ⟨b, hb, h⟩ := h
  refine ⟨b, hb, ?_⟩
  cases b with
  | false => exact h
  | true =>
    simp only [Option.bind_eq_some_iff] at h ⊢
    obtain ⟨v, hv, h⟩ := h
    exact ⟨v, oper_mono hl hv, h⟩

theorem opsFrom_mono (hl : Le F G) {h : Hint} {id : Nat} {all : List Oper} : ∀ {l : List Oper} {i : Nat} {e : Env} {S : St} {r : Env × St}, opsFrom P gl F h id all l i e S = some r → opsFrom P gl G h id all l i e S = some r
  | [], _, _, _, _, hr => hr
  | o :: l, i, e, S, r, hr => by
    simp only [opsFrom, Option.bind_eq_some_iff] at hr ⊢
    obtain ⟨v, hv, hr⟩ := hr
    exact ⟨v, step1_mono hl hv, opsFrom_mono hl hr⟩

theorem opsTr_mono (hl : Le F G) {h : Hint} {id : Nat} {all : List Oper} : ∀ {l : List Oper} {i : Nat} {e : Env} {S : St} {r : Env × St × List (Env × St)}, opsTr P gl F h id all l i e S = some r → opsTr P gl G h id all l i e S = some r
  | [], _, _, _, _, hr => hr
  | o :: l, i, e, S, r, hr => by
    simp only [opsTr, Option.bind_eq_some_iff, Option.map_eq_some_iff] at hr ⊢
    obtain ⟨v, hv, r2, hr, h3⟩ := hr
    exact ⟨v, step1_mono hl hv, r2, opsTr_mono hl hr, h3⟩

theorem drawn_mono (hl : Le F G) {h : Hint} {id : Nat} {ops : List Oper} {e : Env} {S : St} {r : Env × St} (hr : drawn P gl F h id ops e S = some r) : drawn P gl G h id ops e S = some r := by
  simp only [drawn, Option.bind_eq_some_iff] at hr ⊢
  obtain ⟨plan, hp, hr⟩ := hr
  refine ⟨plan, hp, ?_⟩
  cases plan with
  | nil => exact opsFrom_mono hl hr
  | cons x l =>
    simp only [Option.bind_eq_some_iff] at hr ⊢
    obtain ⟨v, hv, hr⟩ := hr
    exact ⟨v, opsTr_mono hl hv, hr⟩

theorem loopN_mono {body body' : Env → St → Option Res} {l : Option (List Nat)} (hb : ∀ e S r, body e S = some r → body' e S = some r) : ∀ {n m : Nat} {e : Env} {S : St} {r : Res}, n ≤ m → loopN body l n e S = some r → loopN body' l m e S = some r
  | 0, _, _, _, _, _, h => by simp [loopN] at h
  | n + 1, 0, _, _, _, hm, _ => by omega
  | n + 1, m + 1, e, S, r, hm, h => by
    simp only [loopN, Option.bind_eq_some_iff] at h ⊢
    obtain ⟨⟨x, e1, S1⟩, h1, h⟩ := h
    refine ⟨_, hb _ _ _ h1, ?_⟩
    cases x with
    | normal => exact loopN_mono hb (Nat.le_of_succ_le_succ hm) h
    | _ => exact h

theorem code_mono (hl : Le F G) {h : Hint} {n m : Nat} (hm : n ≤ m) (c : Code) : ∀ {cur : Nat} {e : Env} {S : St} {r : Res}, code P gl F h n cur c e S = some r → code P gl G h m cur c e S = some r := by
  induction c with
  | skip => intro cur e S r hr; simpa only [code] using hr
  | region id ops d =>
    intro cur e S r hr
    cases d with
    | false =>
      simp only [code, Option.map_eq_some_iff] at hr ⊢
      obtain ⟨x, hx, hr⟩ := hr
      exact ⟨x, opsFrom_mono hl hx, hr⟩
    | true =>
      simp only [code, Option.map_eq_some_iff] at hr ⊢
      obtain ⟨x, hx, hr⟩ := hr
      exact ⟨x, drawn_mono hl hx, hr⟩
  | seq a b iha ihb =>
    intro cur e S r hr
    simp only [code, Option.bind_eq_some_iff] at hr ⊢
    obtain ⟨⟨x, e1, S1⟩, hx, hr⟩ := hr
    refine ⟨_, iha hx, ?_⟩
    cases x with
    | normal => exact ihb hr
    | _ => exact hr
  | cond c a b iha ihb =>
    intro cur e S r hr
    simp only [code, Option.bind_eq_some_iff] at hr ⊢
    obtain ⟨v, hv, hr⟩ := hr
    refine ⟨v, hv, ?_⟩
    split at hr
    · exact iha hr
    · exact ihb hr
    · simp at hr
  | block id c ih =>
    intro cur e S r hr
    simp only [code, Option.map_eq_some_iff] at hr ⊢
    obtain ⟨x, hx, hr⟩ := hr
    exact ⟨x, ih hx, hr⟩
  | loop c ih =>
    intro cur e S r hr
    simp only [code] at hr ⊢
    exact loopN_mono (fun e S r h => ih h) hm hr
  | exit id => intro cur e S r hr; simpa only [code] using hr
  | ret => intro cur e S r hr; simpa only [code] using hr
  | _ => intro cur e S r hr; simp [code] at hr

theorem acall_mono {H : Nat → Hint} : ∀ k : Nat, Le (acall P gl H k) (acall P gl H (k + 1))
  | 0, _, _, _, _, h => by simp [acall] at h
  | k + 1, f, as, S, r, h => by
    rw [acall] at h ⊢
    simp only [Option.bind_eq_some_iff] at h ⊢
    obtain ⟨⟨fn, c⟩, hf, h⟩ := h
    refine ⟨_, hf, ?_⟩
    split at h
    · simp at h
    · rename_i hlen
      rw [if_neg hlen]
      simp only [Option.bind_eq_some_iff] at h ⊢
      obtain ⟨x, hx, h⟩ := h
      exact ⟨x, code_mono (acall_mono k) (Nat.le_succ k) c hx, h⟩

theorem acall_le {H : Nat → Hint} {k m : Nat} (hkm : k ≤ m) : Le (acall P gl H k) (acall P gl H m) := by
  induction hkm with
  | refl => exact fun _ _ _ _ h => h
  | step _ ih => exact fun f as S r h => acall_mono _ f as S r (ih f as S r h)
end

open Classical in
noncomputable def lim {α : Type} (F : Nat → Option α) : Option α := if h : ∃ r, ∃ k, F k = some r then some (Classical.choose h) else none

theorem lim_iff {α : Type} {F : Nat → Option α} (hm : ∀ k m r, k ≤ m → F k = some r → F m = some r) {r : α} : lim F = some r ↔ ∃ k, F k = some r := by
  unfold lim
  split
  · rename_i h
    obtain ⟨k, hk⟩ := Classical.choose_spec h
    constructor
    · intro e; cases e; exact ⟨k, hk⟩
    · rintro ⟨m, hm'⟩
      have h1 := hm k (max k m) _ (Nat.le_max_left ..) hk
      have h2 := hm m (max k m) _ (Nat.le_max_right ..) hm'
      rw [h1] at h2; exact h2
  · rename_i h
    constructor
    · intro e; cases e
    · rintro ⟨k, hk⟩; exact absurd ⟨r, k, hk⟩ h

/-- What a call comes to, however many steps it takes. -/
noncomputable def callL (P : Program) (gl : Gl) (H : Nat → Hint) : CallF := fun f as S => lim fun k => acall P gl H k f as S

/-- What a piece of code comes to. -/
noncomputable def codeL (P : Program) (gl : Gl) (H : Nat → Hint) (h : Hint) (cur : Nat) (c : Code) (e : Env) (S : St) : Option Res := lim fun k => code P gl (acall P gl H k) h k cur c e S

section
variable {P : Program} {gl : Gl} {H : Nat → Hint}

theorem callL_iff {f : Nat} {as : List AV} {S : St} {r : AV × St} : callL P gl H f as S = some r ↔ ∃ k, acall P gl H k f as S = some r :=
  lim_iff fun _ _ r h hk => acall_le h f as S r hk

theorem codeL_iff {h : Hint} {cur : Nat} {c : Code} {e : Env} {S : St} {r : Res} : codeL P gl H h cur c e S = some r ↔ ∃ k, code P gl (acall P gl H k) h k cur c e S = some r :=
  lim_iff fun _ _ _ hm hk => code_mono (acall_le hm) hm c hk

theorem ext_some {α : Type} {x y : Option α} (h : ∀ r, x = some r ↔ y = some r) : x = y := by
  cases x with
  | none => cases y with
    | none => rfl
    | some r => exact ((h r).2 rfl)
  | some r => exact ((h r).1 rfl).symm

theorem le_callL (k : Nat) : Le (acall P gl H k) (callL P gl H) := fun _ _ _ _ h => callL_iff.2 ⟨k, h⟩

/-- What holds of the limit holds from some bound on. -/
theorem oper_cont {mt frz : Bool} {o : Oper} {e : Env} {S : St} {r : Option AV × St} (h : oper P gl (callL P gl H) mt frz o e S = some r) : ∃ k, oper P gl (acall P gl H k) mt frz o e S = some r := by
  obtain ⟨dst, op, ty, pos, after, guard⟩ := o
  cases op <;> try exact ⟨0, h⟩
  case makeFunc fn fs cs => cases fn <;> exact ⟨0, h⟩
  case call c =>
    obtain ⟨callee, as, ts⟩ := c
    cases callee <;> try exact ⟨0, h⟩
    case value f =>
      simp only [oper, Option.bind_eq_some_iff] at h ⊢
      obtain ⟨v, hv, h⟩ := h
      split at h
      · rename_i g fs cs
        simp only [Option.bind_eq_some_iff] at h
        obtain ⟨vs, hvs, h⟩ := h
        obtain ⟨r1, S1⟩ := r
        obtain ⟨u, hu, rfl⟩ := valS_some h
        obtain ⟨k, hk⟩ := callL_iff.1 hu
        exact ⟨k, _, hv, by simp only [hvs, Option.bind_some, hk]; rfl⟩
      · simp at h

theorem step1_cont {mt frz : Bool} {ops : List Oper} {o : Oper} {e : Env} {S : St} {r : Env × St} (h : step1 P gl (callL P gl H) mt frz ops o e S = some r) : ∃ k, step1 P gl (acall P gl H k) mt frz ops o e S = some r := by
  simp only [step1, Option.bind_eq_some_iff] at h ⊢
  obtain ⟨b, hb, h⟩ := h
  cases b with
  | false => exact ⟨0, _, hb, h⟩
  | true =>
    simp only [Option.bind_eq_some_iff] at h
    obtain ⟨v, hv, h⟩ := h
    obtain ⟨k, hk⟩ := oper_cont hv
    exact ⟨k, _, hb, by simp only [hk, Option.bind_some]; exact h⟩

theorem opsFrom_cont {h : Hint} {id : Nat} {all : List Oper} : ∀ {l : List Oper} {i : Nat} {e : Env} {S : St} {r : Env × St}, opsFrom P gl (callL P gl H) h id all l i e S = some r → ∃ k, opsFrom P gl (acall P gl H k) h id all l i e S = some r
  | [], _, _, _, _, hr => ⟨0, hr⟩
  | o :: l, i, e, S, r, hr => by
    simp only [opsFrom, Option.bind_eq_some_iff] at hr ⊢
    obtain ⟨v, hv, hr⟩ := hr
    obtain ⟨k, hk⟩ := step1_cont hv
    obtain ⟨m, hm⟩ := opsFrom_cont hr
    exact ⟨max k m, v, step1_mono (acall_le (Nat.le_max_left ..)) hk, opsFrom_mono (acall_le (Nat.le_max_right ..)) hm⟩

theorem opsTr_cont {h : Hint} {id : Nat} {all : List Oper} : ∀ {l : List Oper} {i : Nat} {e : Env} {S : St} {r : Env × St × List (Env × St)}, opsTr P gl (callL P gl H) h id all l i e S = some r → ∃ k, opsTr P gl (acall P gl H k) h id all l i e S = some r
  | [], _, _, _, _, hr => ⟨0, hr⟩
  | o :: l, i, e, S, r, hr => by
    simp only [opsTr, Option.bind_eq_some_iff, Option.map_eq_some_iff] at hr ⊢
    obtain ⟨v, hv, r2, hr, h3⟩ := hr
    obtain ⟨k, hk⟩ := step1_cont hv
    obtain ⟨m, hm⟩ := opsTr_cont hr
    exact ⟨max k m, v, step1_mono (acall_le (Nat.le_max_left ..)) hk, r2, opsTr_mono (acall_le (Nat.le_max_right ..)) hm, h3⟩

theorem drawn_cont {h : Hint} {id : Nat} {ops : List Oper} {e : Env} {S : St} {r : Env × St} (hr : drawn P gl (callL P gl H) h id ops e S = some r) : ∃ k, drawn P gl (acall P gl H k) h id ops e S = some r := by
  simp only [drawn, Option.bind_eq_some_iff] at hr ⊢
  obtain ⟨plan, hp, hr⟩ := hr
  cases plan with
  | nil => obtain ⟨k, hk⟩ := opsFrom_cont hr; exact ⟨k, _, hp, hk⟩
  | cons x l =>
    simp only [Option.bind_eq_some_iff] at hr
    obtain ⟨v, hv, hr⟩ := hr
    obtain ⟨k, hk⟩ := opsTr_cont hv
    exact ⟨k, _, hp, by simp only [hk, Option.bind_some]; exact hr⟩

variable {h : Hint} {cur : Nat} {e : Env} {S : St}

theorem codeL_skip : codeL P gl H h cur .skip e S = some (.normal, e, S) := codeL_iff.2 ⟨0, by rw [code]⟩
theorem codeL_exit {id : Nat} : codeL P gl H h cur (.exit id) e S = some (.exit id, e, S) := codeL_iff.2 ⟨0, by rw [code]⟩
theorem codeL_ret : codeL P gl H h cur .ret e S = some (.ret, e, S) := codeL_iff.2 ⟨0, by rw [code]⟩

theorem codeL_region {id : Nat} {ops : Array Oper} :
    codeL P gl H h cur (.region id ops false) e S = (opsFrom P gl (callL P gl H) h id ops.toList ops.toList 0 (keepOnly h.keep e) S).map fun (e, S) => (.normal, e, S) := by
  refine ext_some fun r => ?_
  rw [codeL_iff]
  simp only [code, Option.map_eq_some_iff]
  constructor
  · rintro ⟨k, x, hx, rfl⟩; exact ⟨x, opsFrom_mono (le_callL k) hx, rfl⟩
  · rintro ⟨x, hx, rfl⟩; obtain ⟨k, hk⟩ := opsFrom_cont hx; exact ⟨k, x, hk, rfl⟩

theorem codeL_drawn {id : Nat} {ops : Array Oper} :
    codeL P gl H h cur (.region id ops true) e S = (drawn P gl (callL P gl H) h id ops.toList (keepOnly h.keep e) S).map fun (e, S) => (.normal, e, S) := by
  refine ext_some fun r => ?_
  rw [codeL_iff]
  simp only [code, Option.map_eq_some_iff]
  constructor
  · rintro ⟨k, x, hx, rfl⟩; exact ⟨x, drawn_mono (le_callL k) hx, rfl⟩
  · rintro ⟨x, hx, rfl⟩; obtain ⟨k, hk⟩ := drawn_cont hx; exact ⟨k, x, hk, rfl⟩

/-- What follows a piece of code, where it ends as usual. -/
def andThen (f : Env → St → Option Res) : Res → Option Res
  | (.normal, e, S) => f e S
  | r => some r

theorem codeL_seq {a b : Code} : codeL P gl H h cur (.seq a b) e S = (codeL P gl H h cur a e S).bind (andThen (codeL P gl H h cur b)) := by
  refine ext_some fun r => ?_
  rw [codeL_iff]
  simp only [code, Option.bind_eq_some_iff]
  constructor
  · rintro ⟨k, ⟨x, e1, S1⟩, hx, hr⟩
    refine ⟨_, codeL_iff.2 ⟨k, hx⟩, ?_⟩
    cases x with
    | normal => exact codeL_iff.2 ⟨k, hr⟩
    | _ => exact hr
  · rintro ⟨⟨x, e1, S1⟩, hx, hr⟩
    obtain ⟨k, hk⟩ := codeL_iff.1 hx
    cases x with
    | normal =>
      obtain ⟨m, hm⟩ := codeL_iff.1 (show codeL P gl H h cur b e1 S1 = some r from hr)
      exact ⟨max k m, _, code_mono (acall_le (Nat.le_max_left ..)) (Nat.le_max_left ..) _ hk, code_mono (acall_le (Nat.le_max_right ..)) (Nat.le_max_right ..) _ hm⟩
    | _ => exact ⟨k, _, hk, hr⟩

def branch (x y : Option Res) : AV → Option Res
  | .bool true => x
  | .bool false => y
  | _ => none

theorem codeL_cond {c : Operand} {a b : Code} : codeL P gl H h cur (.cond c a b) e S = (opnd gl e c).bind (branch (codeL P gl H h cur a e S) (codeL P gl H h cur b e S)) := by
  refine ext_some fun r => ?_
  rw [codeL_iff]
  simp only [code, Option.bind_eq_some_iff]
  constructor
  · rintro ⟨k, v, hv, hr⟩
    refine ⟨v, hv, ?_⟩
    split at hr
    · exact codeL_iff.2 ⟨k, hr⟩
    · exact codeL_iff.2 ⟨k, hr⟩
    · simp at hr
  · rintro ⟨v, hv, hr⟩
    unfold branch at hr
    split at hr
    · obtain ⟨k, hk⟩ := codeL_iff.1 hr; exact ⟨k, _, hv, hk⟩
    · obtain ⟨k, hk⟩ := codeL_iff.1 hr; exact ⟨k, _, hv, hk⟩
    · simp at hr

def leave (id : Nat) : Res → Res
  | (.exit id', e, S) => if id' = id then (.normal, e, S) else (.exit id', e, S)
  | r => r

theorem codeL_block {id : Nat} {c : Code} : codeL P gl H h cur (.block id c) e S = (codeL P gl H h id c e S).map (leave id) := by
  refine ext_some fun r => ?_
  rw [codeL_iff]
  simp only [code, Option.map_eq_some_iff]
  constructor
  · rintro ⟨k, x, hx, hr⟩; exact ⟨x, codeL_iff.2 ⟨k, hx⟩, hr⟩
  · rintro ⟨x, hx, hr⟩; obtain ⟨k, hk⟩ := codeL_iff.1 hx; exact ⟨k, x, hk, hr⟩

theorem codeL_loop {c : Code} : codeL P gl H h cur (.loop c) e S = (codeL P gl H h cur c (clean (liveAt h.live cur) e) S).bind (andThen (codeL P gl H h cur (.loop c))) := by
  refine ext_some fun r => ?_
  rw [codeL_iff]
  simp only [code, Option.bind_eq_some_iff]
  constructor
  · rintro ⟨k, hr⟩
    cases k with
    | zero => simp [loopN] at hr
    | succ k =>
      simp only [loopN, Option.bind_eq_some_iff] at hr
      obtain ⟨⟨x, e1, S1⟩, hx, hr⟩ := hr
      refine ⟨_, codeL_iff.2 ⟨k + 1, hx⟩, ?_⟩
      cases x with
      | normal =>
        refine codeL_iff.2 ⟨k + 1, ?_⟩
        simp only [code]
        exact loopN_mono (fun _ _ _ h => h) (Nat.le_succ k) hr
      | _ => exact hr
  · rintro ⟨⟨x, e1, S1⟩, hx, hr⟩
    obtain ⟨k, hk⟩ := codeL_iff.1 hx
    cases x with
    | normal =>
      obtain ⟨m, hm⟩ := codeL_iff.1 (show codeL P gl H h cur (.loop c) e1 S1 = some r from hr)
      simp only [code] at hm
      refine ⟨max k m + 1, ?_⟩
      simp only [loopN, Option.bind_eq_some_iff]
      refine ⟨_, code_mono (acall_le (show k ≤ max k m + 1 by omega)) (by omega) _ hk, ?_⟩
      exact loopN_mono (fun _ _ _ h => code_mono (acall_le (show m ≤ max k m + 1 by omega)) (by omega) _ h) (Nat.le_max_right ..) hm
    | _ =>
      refine ⟨k + 1, ?_⟩
      simp only [loopN, Option.bind_eq_some_iff]
      exact ⟨_, code_mono (acall_le (Nat.le_succ k)) (Nat.le_succ k) _ hk, hr⟩

/-- What a call's end hands back. -/
def retOf (P : Program) (rs : List ResultVar) : Res → Option (AV × St)
  | (.exit _, _, _) => none
  | (_, e, S) => (resOfs P e S rs).map fun vs => (match vs with | [v] => v | vs => .tuple vs, S)

theorem callL_eq {f : Nat} {as : List AV} {S : St} {fn : Func} {c : Code} (hf : fbody P f = some (fn, c)) (hlen : as.length ≤ fn.ntmps) :
    callL P gl H f as S = (codeL P gl H (H f) 0 c (params 0 as) S).bind (retOf P fn.results.toList) := by
  refine ext_some fun r => ?_
  rw [callL_iff]
  constructor
  · rintro ⟨k, hr⟩
    cases k with
    | zero => simp [acall] at hr
    | succ k =>
      rw [acall, hf, Option.bind_some] at hr
      simp only [if_neg (Nat.not_lt.2 hlen), Option.bind_eq_some_iff] at hr ⊢
      obtain ⟨⟨x, e1, S1⟩, hx, hr⟩ := hr
      refine ⟨_, codeL_iff.2 ⟨k, hx⟩, ?_⟩
      cases x <;> first
        | exact hr
        | (cases hr; done)
  · intro hr
    simp only [Option.bind_eq_some_iff] at hr
    obtain ⟨⟨x, e1, S1⟩, hx, hr⟩ := hr
    obtain ⟨k, hk⟩ := codeL_iff.1 hx
    refine ⟨k + 1, ?_⟩
    rw [acall, hf, Option.bind_some]
    simp only [if_neg (Nat.not_lt.2 hlen), Option.bind_eq_some_iff]
    refine ⟨_, hk, ?_⟩
    cases x <;> first
      | exact hr
      | (cases hr; done)

theorem isTrue_lim {f : Nat} {as : List AV} {S S' : St} (h : callL P gl H f as S = some (.bool true, S')) : ∃ k, acall P gl H k f as S = some (.bool true, S') := callL_iff.1 h
end
end Go.Proofs.YtmicmlcfbmphfaaDoor.Ae

/- Rules by which the interpreter runs over values that are not known: one rule for each operation.
   No conditions beyond those of each lemma. -/
import Derived.Test.YtmicmlcfbmphfaaDoorAeLim
import Derived.Attr
set_option linter.unusedSimpArgs false
set_option linter.unusedVariables false
set_option linter.unnecessarySimpa false
namespace Go.Proofs.YtmicmlcfbmphfaaDoor.Ae
open Go
universe u

/-- It comes to something, and Q holds of that. -/
structure Hold {α : Sort u} (a : α) : Type where

/-- .. (the last argument keeps simp out of Q). -/
def W {α : Type} (x : Option α) (Q : α → Prop) (_ : Hold Q := ⟨⟩) : Prop := ∃ r, x = some r ∧ Q r

/-- What is worked out before it is used. -/
def bindE (e : Env) (K : Env → Prop) (_ : Hold K := ⟨⟩) : Prop := K e
@[go_sem] theorem bindE_go {e : Env} {K : Env → Prop} : bindE e K = K e := rfl

theorem W.mono {α : Type} {x : Option α} {Q R : α → Prop} (h : W x Q) (hq : ∀ r, Q r → R r) : W x R := let ⟨r, e, q⟩ := h; ⟨r, e, hq r q⟩
theorem W.get {α : Type} {x : Option α} {Q : α → Prop} (h : W x Q) : ∃ r, x = some r ∧ Q r := h
theorem W_of_eq {α : Type} {x : Option α} {r : α} (h : x = some r) {Q : α → Prop} (hq : Q r) : W x Q := ⟨r, h, hq⟩
theorem W_eq_of {α : Type} {x : Option α} {r : α} (h : W x fun s => s = r) : x = some r := by obtain ⟨s, e, rfl⟩ := h; exact e

theorem W_ext {α : Type} {x : Option α} {Q R : α → Prop} (h : ∀ v, Q v = R v) : W x Q = W x R := by rw [show Q = R from funext h]
theorem W_congr {α : Type} {x y : Option α} {Q : α → Prop} (h : x = y) : W x Q = W y Q := by rw [h]

section
variable {α β : Type}
@[go_sem] theorem W_some {v : α} {Q : α → Prop} : W (some v) Q = Q v := by
  refine propext ⟨fun ⟨r, e, q⟩ => ?_, fun q => ⟨v, rfl, q⟩⟩
  cases e; exact q
@[go_sem] theorem W_none {Q : α → Prop} : W none Q = False := propext ⟨fun ⟨_, e, _⟩ => (by cases e), False.elim⟩
@[go_sem ↓] theorem W_bind {x : Option β} {f : β → Option α} {Q : α → Prop} : W (x.bind f) Q = W x (fun v => W (f v) Q) := by
  refine propext ⟨fun ⟨r, e, q⟩ => ?_, fun ⟨r, e, s, e2, q⟩ => ⟨s, by rw [e]; exact e2, q⟩⟩
  cases x with
  | none => cases e
  | some y => exact ⟨y, rfl, r, e, q⟩
@[go_sem ↓] theorem W_map {x : Option β} {f : β → α} {Q : α → Prop} : W (x.map f) Q = W x (fun v => Q (f v)) := by
  cases x with
  | none => simp [W]
  | some y => simp [W]
@[go_sem] theorem W_ite_none {p : Prop} [Decidable p] {x : Option α} {Q : α → Prop} : W (if p then x else none) Q = (p ∧ W x Q) := by
  by_cases hp : p
  · simp [hp]
  · simp [hp, W_none]
@[go_sem] theorem W_ite_none' {p : Prop} [Decidable p] {x : Option α} {Q : α → Prop} : W (if p then none else x) Q = (¬ p ∧ W x Q) := by
  by_cases hp : p
  · simp [hp, W_none]
  · simp [hp]
end

/-- The code with every region in the text's order, but for those that ex names. -/
def undrawn (ex : List Nat) : Code → Code
  | .region id ops d => .region id ops (d && has ex id)
  | .seq a b => .seq (undrawn ex a) (undrawn ex b)
  | .cond c a b => .cond c (undrawn ex a) (undrawn ex b)
  | .block id c => .block id (undrawn ex c)
  | .loop c => .loop (undrawn ex c)
  | c => c

def plain (h : Hint) (ex : List Nat) : Code → Bool
  | .region id ops d => !d || has ex id || (match drawPlan h id ops.toList with | some [] => true | _ => false)
  | .seq a b => plain h ex a && plain h ex b
  | .cond _ a b => plain h ex a && plain h ex b
  | .block _ c => plain h ex c
  | .loop c => plain h ex c
  | _ => true

section
variable {P : Program} {gl : Gl} {H : Nat → Hint} {h : Hint}

theorem undrawn_ok {ex : List Nat} : ∀ (c : Code), plain h ex c = true → ∀ (F : CallF) (n cur : Nat) (e : Env) (S : St), code P gl F h n cur (undrawn ex c) e S = code P gl F h n cur c e S := by
  intro c
  induction c with
  | region id ops d =>
    intro hp F n cur e S
    simp only [undrawn]
    cases d with
    | false => rfl
    | true =>
      cases hx : has ex id with
      | true => rfl
      | false =>
        simp only [plain, hx, Bool.not_true, Bool.or_self, Bool.false_or] at hp
        split at hp
        · rename_i hd
          simp only [code, Bool.and_false, drawn, hd, Option.bind_some]
        · cases hp
  | seq a b iha ihb =>
    intro hp F n cur e S
    simp only [plain, Bool.and_eq_true] at hp
    simp only [undrawn, code]
    rw [iha hp.1]
    (first | refine W_ext fun r => ?_ | (congr 1; funext r))
    obtain ⟨x, e1, S1⟩ := r
    cases x <;> first | exact ihb hp.2 F n cur e1 S1 | rfl
  | cond c a b iha ihb =>
    intro hp F n cur e S
    simp only [plain, Bool.and_eq_true] at hp
    simp only [undrawn, code]
    (first | refine W_ext fun v => ?_ | (congr 1; funext v))
    cases v <;> first | rfl | skip
    rename_i b'
    cases b'
    · exact ihb hp.2 F n cur e S
    · exact iha hp.1 F n cur e S
  | block id c ih =>
    intro hp F n cur e S
    simp only [plain] at hp
    simp only [undrawn, code]
    rw [ih hp]
  | loop c ih =>
    intro hp F n cur e S
    simp only [plain] at hp
    simp only [undrawn, code]
    have : (code P gl F h n cur (undrawn ex c)) = (code P gl F h n cur c) := by funext e S; exact ih hp F n cur e S
    rw [this]
  | _ => intros; rfl

/-- A piece of code, each of whose regions but those of ex stands in the text's order. -/
noncomputable def codeU (P : Program) (gl : Gl) (H : Nat → Hint) (h : Hint) (ex : List Nat) (cur : Nat) (c : Code) (e : Env) (S : St) : Option Res := codeL P gl H h cur (undrawn ex c) e S

theorem codeU_eq {ex : List Nat} {c : Code} (hp : plain h ex c = true) {cur : Nat} {e : Env} {S : St} : codeL P gl H h cur c e S = codeU P gl H h ex cur c e S := by
  refine ext_some fun r => ?_
  rw [codeL_iff]
  unfold codeU
  rw [codeL_iff]
  simp only [undrawn_ok c hp]

theorem W_call {ex : List Nat} {f : Nat} {as : List AV} {S : St} {fn : Func} {c : Code} {Q : AV × St → Prop} (hf : P.funcs[f]? = some fn) (hb : fn.body = some c) (hn : ((fn.name == "runtime.NumGoroutine") = false ∧ dstOk fn.ntmps c = true))
    (hp : plain (H f) ex c = true) (hlen : as.length ≤ fn.ntmps) (h : bindE (params 0 as) fun e => W (codeU P gl H (H f) ex 0 c e S) (fun r => W (retOf P fn.results.toList r) Q)) : W (callL P gl H f as S) Q := by
  rw [callL_eq (c := c) (fn := fn) (by unfold fbody; rw [hf]; simp only [Option.bind_some, hb]; rw [if_pos hn]) hlen, codeU_eq hp, W_bind]
  exact h

variable {ex : List Nat} {cur : Nat} {e : Env} {S : St} {Q : Res → Prop}

@[go_sem ↓] theorem U_seq {a b : Code} : W (codeU P gl H h ex cur (.seq a b) e S) Q = W (codeU P gl H h ex cur a e S) (fun r => W (andThen (codeU P gl H h ex cur b) r) Q) := by
  unfold codeU; rw [undrawn, codeL_seq, W_bind]
@[go_sem ↓] theorem then_normal {f : Env → St → Option Res} : andThen f (.normal, e, S) = f e S := rfl
@[go_sem ↓] theorem then_ret {f : Env → St → Option Res} : andThen f (.ret, e, S) = some (.ret, e, S) := rfl
@[go_sem ↓] theorem then_exit {f : Env → St → Option Res} {id : Nat} : andThen f (.exit id, e, S) = some (.exit id, e, S) := rfl
@[go_sem ↓] theorem U_skip : W (codeU P gl H h ex cur .skip e S) Q = Q (.normal, e, S) := by unfold codeU; rw [undrawn, codeL_skip, W_some] <;> simp
@[go_sem ↓] theorem U_exit {id : Nat} : W (codeU P gl H h ex cur (.exit id) e S) Q = Q (.exit id, e, S) := by unfold codeU; rw [undrawn, codeL_exit, W_some] <;> simp
@[go_sem ↓] theorem U_ret : W (codeU P gl H h ex cur .ret e S) Q = Q (.ret, e, S) := by unfold codeU; rw [undrawn, codeL_ret, W_some] <;> simp
@[go_sem ↓] theorem U_region {id : Nat} {ops : List Oper} : W (codeU P gl H h ex cur (.region id ops.toArray false) e S) Q =
    bindE (keepOnly h.keep e) fun e => W (opsFrom P gl (callL P gl H) h id ops ops 0 e S) (fun p => Q (.normal, p.1, p.2)) := by
  unfold codeU; rw [undrawn, Bool.false_and, codeL_region, W_map]; rfl
theorem U_undrawn {id : Nat} {ops : List Oper} (hx : has ex id = false) : W (codeU P gl H h ex cur (.region id ops.toArray true) e S) Q =
    W (opsFrom P gl (callL P gl H) h id ops ops 0 (keepOnly h.keep e) S) (fun p => Q (.normal, p.1, p.2)) := by
  unfold codeU; rw [undrawn, hx, Bool.and_false, codeL_region, W_map]
@[go_sem ↓] theorem U_drawnR {id : Nat} {ops : List Oper} : W (codeU P gl H h ex cur (.region id ops.toArray true) e S) Q =
    if has ex id = true then bindE (keepOnly h.keep e) fun e => W (drawn P gl (callL P gl H) h id ops e S) (fun p => Q (.normal, p.1, p.2))
    else bindE (keepOnly h.keep e) fun e => W (opsFrom P gl (callL P gl H) h id ops ops 0 e S) (fun p => Q (.normal, p.1, p.2)) := by
  cases hx : has ex id with
  | true =>
    rw [if_pos rfl]
    unfold codeU; rw [undrawn, hx, Bool.and_true, codeL_drawn, W_map]; rfl
  | false => rw [if_neg (by simp), U_undrawn hx]; rfl
theorem U_drawn {id : Nat} {ops : List Oper} (hx : has ex id = true) : W (codeU P gl H h ex cur (.region id ops.toArray true) e S) Q =
    W (drawn P gl (callL P gl H) h id ops (keepOnly h.keep e) S) (fun p => Q (.normal, p.1, p.2)) := by
  unfold codeU; rw [undrawn, hx, Bool.and_true, codeL_drawn, W_map]
theorem retOf_ret {rs : List ResultVar} {R : AV × St → Prop} : W (retOf P rs (.ret, e, S)) R = W (resOfs P e S rs) (fun vs => R ((match vs with | [v] => v | vs => .tuple vs), S)) := by
  simp only [retOf]; rw [W_map]; rfl
@[go_sem ↓] theorem ret_one {t : Nat} {R : AV × St → Prop} : W (retOf P [.tmp t] (.ret, e, S)) R = W (look e t) (fun v => R (v, S)) := by
  rw [retOf_ret]; simp only [resOfs, resOf]; rw [W_bind]; (first | refine W_ext fun v => ?_ | (congr 1; funext v)); simp [W_some]
@[go_sem ↓] theorem ret_two {t u : Nat} {R : AV × St → Prop} : W (retOf P [.tmp t, .tmp u] (.ret, e, S)) R = W (look e t) (fun v => W (look e u) (fun w => R (.tuple [v, w], S))) := by
  rw [retOf_ret]; simp only [resOfs, resOf]; rw [W_bind]; (first | refine W_ext fun v => ?_ | (congr 1; funext v)); rw [W_bind, W_bind]; (first | refine W_ext fun w => ?_ | (congr 1; funext w)); simp [W_some]
@[go_sem ↓] theorem ret_three {t u z : Nat} {R : AV × St → Prop} : W (retOf P [.tmp t, .tmp u, .tmp z] (.ret, e, S)) R = W (look e t) (fun v => W (look e u) (fun w => W (look e z) (fun y => R (.tuple [v, w, y], S)))) := by
  rw [retOf_ret]; simp only [resOfs, resOf]; rw [W_bind]; (first | refine W_ext fun v => ?_ | (congr 1; funext v)); rw [W_bind, W_bind]; (first | refine W_ext fun w => ?_ | (congr 1; funext w)); rw [W_bind, W_bind]; (first | refine W_ext fun y => ?_ | (congr 1; funext y)); simp [W_some]
@[go_sem ↓] theorem ret_four {t u z x : Nat} {R : AV × St → Prop} : W (retOf P [.tmp t, .tmp u, .tmp z, .tmp x] (.ret, e, S)) R = W (look e t) (fun v => W (look e u) (fun w => W (look e z) (fun y => W (look e x) (fun q => R (.tuple [v, w, y, q], S))))) := by
  rw [retOf_ret]; simp only [resOfs, resOf]; rw [W_bind]; (first | refine W_ext fun v => ?_ | (congr 1; funext v)); rw [W_bind, W_bind]; (first | refine W_ext fun w => ?_ | (congr 1; funext w)); rw [W_bind, W_bind]; (first | refine W_ext fun y => ?_ | (congr 1; funext y)); rw [W_bind, W_bind]; (first | refine W_ext fun q => ?_ | (congr 1; funext q)); simp [W_some]
@[go_sem ↓] theorem ret_none {R : AV × St → Prop} : W (retOf P [] (.ret, e, S)) R = R (.tuple [], S) := by
  rw [retOf_ret]; simp only [resOfs]; rw [W_some]
@[go_sem ↓] theorem ret_normal {rs : List ResultVar} : retOf P rs (.normal, e, S) = retOf P rs (.ret, e, S) := rfl
/-- The way a bool picks (the last argument keeps simp out of the ways). -/
def brn (x y : Option Res) (v : AV) (_ : Hold (x, y) := ⟨⟩) : Option Res := branch x y v
@[go_sem ↓] theorem U_cond {c : Operand} {a b : Code} : W (codeU P gl H h ex cur (.cond c a b) e S) Q = W (opnd gl e c) (fun v => W (brn (codeU P gl H h ex cur a e S) (codeU P gl H h ex cur b e S) v) Q) := by
  unfold codeU; rw [undrawn, codeL_cond, W_bind]; rfl
@[go_sem] theorem brn_true {x y : Option Res} : brn x y (.bool true) = x := rfl
@[go_sem] theorem brn_false {x y : Option Res} : brn x y (.bool false) = y := rfl
@[go_sem ↓] theorem U_block {id : Nat} {c : Code} : W (codeU P gl H h ex cur (.block id c) e S) Q = W (codeU P gl H h ex id c e S) (fun r => Q (leave id r)) := by
  unfold codeU; rw [undrawn, codeL_block, W_map]
@[go_sem ↓] theorem leave_normal {id : Nat} : leave id (.normal, e, S) = (.normal, e, S) := rfl
@[go_sem ↓] theorem leave_ret {id : Nat} : leave id (.ret, e, S) = (.ret, e, S) := rfl
@[go_sem ↓] theorem leave_exit {id k : Nat} : leave id (.exit k, e, S) = if k = id then (.normal, e, S) else (.exit k, e, S) := rfl
theorem U_loop {c : Code} : W (codeU P gl H h ex cur (.loop c) e S) Q = W (codeU P gl H h ex cur c (clean (liveAt h.live cur) e) S) (fun r => W (andThen (codeU P gl H h ex cur (.loop c)) r) Q) := by
  have : codeL P gl H h cur (.loop (undrawn ex c)) = codeU P gl H h ex cur (.loop c) := by unfold codeU; rw [undrawn]
  show W (codeL P gl H h cur (undrawn ex (.loop c)) e S) Q = _
  rw [undrawn, codeL_loop, W_bind, this]; rfl

/-- A loop, by an invariant over states s that fall. -/
theorem U_while {σ : Type} {c : Code} (env : σ → Env) (st : σ → St) (μ : σ → Nat) (I : σ → Prop)
    (hstep : ∀ s, I s → W (codeU P gl H h ex cur c (env s) (st s)) (fun r => (∃ s' e', r = (.normal, e', st s') ∧ clean (liveAt h.live cur) e' = env s' ∧ I s' ∧ μ s' < μ s) ∨ (r.1 ≠ .normal ∧ Q r)))
    (s : σ) (hI : I s) (he : clean (liveAt h.live cur) e = env s) (hs : S = st s) : W (codeU P gl H h ex cur (.loop c) e S) Q := by
  have : ∀ n, ∀ (s : σ) (e : Env), μ s < n → I s → clean (liveAt h.live cur) e = env s → W (codeU P gl H h ex cur (.loop c) e (st s)) Q := by
    intro n
    induction n with
    | zero => intro s e hn; omega
    | succ n ih =>
      intro s e hn hI he
      rw [U_loop, he]
      refine (hstep s hI).mono fun r hr => ?_
      rcases hr with ⟨s', e', rfl, h1, h2, h3⟩ | ⟨h1, h2⟩
      · exact ih s' e' (by omega) h2 h1
      · obtain ⟨x, e', S'⟩ := r
        cases x with
        | normal => exact absurd rfl h1
        | exit id => exact ⟨_, rfl, h2⟩
        | ret => exact ⟨_, rfl, h2⟩
  subst hs
  exact this (μ s + 1) s e (Nat.lt_succ_self _) hI he
end

section
variable {P : Program} {gl : Gl} {H : Nat → Hint} {h : Hint} {call : CallF} {id i : Nat} {all r : List Oper} {e : Env} {S : St} {ty : TypeId} {pos : String} {after : Array Edge} {Q : Env × St → Prop}

-- slots
@[go_sem] theorem look_nil {t : Nat} : look [] t = none := rfl
theorem beq_ne {k t : Nat} (hk : k ≠ t) : Nat.beq k t = false := by
  cases hb : Nat.beq k t with
  | false => rfl
  | true => exact absurd (Nat.eq_of_beq_eq_true hb) hk
@[go_sem] theorem look_cons {k t : Nat} {v : AV} {r : Env} : look ((k, v) :: r) t = if k = t then some v else look r t := by
  simp only [look]
  by_cases hk : k = t
  · subst hk; simp
  · simp [beq_ne hk, hk]
@[go_sem] theorem put_eq {t : Nat} {v : AV} : put e t v = (t, v) :: e := rfl
@[go_sem] theorem putd_some {t : Nat} {v : AV} : putd e (some t) v = put e t v := rfl
@[go_sem] theorem putd_none {v : AV} : putd e none v = e := rfl
@[go_sem] theorem has_nil {t : Nat} : has [] t = false := rfl
@[go_sem] theorem has_cons {l : List Nat} {k t : Nat} : has (k :: l) t = if k = t then true else has l t := by
  simp only [has]
  by_cases hk : k = t
  · subst hk; simp
  · simp [beq_ne hk, hk]
@[go_sem] theorem keep_nil {l : List Nat} : keepOnly l [] = [] := rfl
theorem keep_cons {l : List Nat} {k : Nat} {v : AV} {r : Env} : keepOnly l ((k, v) :: r) = if has l k = true then (k, v) :: keepOnly l r else keepOnly l r := by
  simp only [keepOnly]
  cases has l k <;> rfl
theorem has_upto {x : List Nat} {k : Nat} : ∀ {b : Nat}, has (upto b x) k = if k < b then true else has x k
  | 0 => by simp [upto]
  | b + 1 => by
    simp only [upto, has_cons, has_upto (b := b)]
    by_cases h : b = k
    · subst h; simp
    · simp only [h, if_false]
      by_cases h2 : k < b
      · rw [if_pos h2, if_pos (by omega)]
      · rw [if_neg h2, if_neg (by omega)]
@[go_sem] theorem keep_upto {b : Nat} {x : List Nat} {k : Nat} {v : AV} {r : Env} : keepOnly (upto b x) ((k, v) :: r) = if k < b then (k, v) :: keepOnly (upto b x) r else if has x k = true then (k, v) :: keepOnly (upto b x) r else keepOnly (upto b x) r := by
  rw [keep_cons, has_upto]
  by_cases h : k < b <;> simp [h]
@[go_sem] theorem restrict_nil : restrict e [] = [] := rfl
def slotIf (t : Nat) (r : Env) : Option AV → Env
  | some v => (t, v) :: r
  | none => r
@[go_sem] theorem slotIf_some {t : Nat} {r : Env} {v : AV} : slotIf t r (some v) = (t, v) :: r := rfl
@[go_sem] theorem slotIf_none {t : Nat} {r : Env} : slotIf t r none = r := rfl
@[go_sem] theorem restrict_cons {t : Nat} {l : List Nat} : restrict e (t :: l) = slotIf t (restrict e l) (look e t) := by
  simp only [restrict]; cases look e t <;> rfl
@[go_sem] theorem clean_some {l : List Nat} : clean (some l) e = restrict e l := rfl
@[go_sem] theorem clean_none : clean none e = e := rfl
@[go_sem] theorem live_nil {x : Nat} : liveAt [] x = none := rfl
@[go_sem] theorem live_cons {l : List (Nat × List Nat)} {k x : Nat} {v : List Nat} : liveAt ((k, v) :: l) x = if k = x then some v else liveAt l x := by
  simp only [liveAt]
  by_cases hk : k = x
  · subst hk; simp
  · simp [beq_ne hk, hk]
@[go_sem] theorem has2_nil {x y : Nat} : has2 [] x y = false := rfl
@[go_sem] theorem has2_cons {l : List (Nat × Nat)} {a b x y : Nat} : has2 ((a, b) :: l) x y = if a = x ∧ b = y then true else has2 l x y := by
  simp only [has2]
  by_cases h1 : a = x
  · subst h1
    by_cases h2 : b = y
    · subst h2; simp
    · simp [beq_ne h2, h2]
  · simp [beq_ne h1, h1]
@[go_sem] theorem params_nil {i : Nat} : params i [] = [] := rfl
@[go_sem] theorem params_cons {i : Nat} {v : AV} {l : List AV} : params i (v :: l) = (i, v) :: params (i + 1) l := rfl

-- operands
@[go_sem ↓] theorem opnd_tmp {t : Nat} : opnd gl e (.tmp t) = look e t := rfl
@[go_sem ↓] theorem opnd_int {k : IntKind} {n : Int} : opnd gl e (.const (.int k n)) = some (.int k n) := rfl
@[go_sem ↓] theorem opnd_bool {b : Bool} : opnd gl e (.const (.bool b)) = some (.bool b) := rfl
@[go_sem ↓] theorem opnd_nilptr : opnd gl e (.const (.pointer none)) = some .nilptr := rfl
@[go_sem ↓] theorem opnd_nilslice : opnd gl e (.const (.slice none 0 0)) = some (.vs [] .nil) := rfl
@[go_sem ↓] theorem opnd_nilmap : opnd gl e (.const (.map none)) = some .nilmap := rfl
@[go_sem ↓] theorem opnd_nilfunc : opnd gl e (.const .nilFunc) = some .nilfunc := rfl
@[go_sem ↓] theorem opnd_str {s : ByteArray} : opnd gl e (.const (.string s)) = some (.str s.data.toList) := rfl
@[go_sem ↓] theorem opnd_agg {cs : Array Value} : opnd gl e (.const (.agg cs)) = (ofVals cs.toList).map .agg := rfl
@[go_sem ↓] theorem opnd_func {f : Nat} : opnd gl e (.func f) = some (.func f [] []) := rfl
@[go_sem ↓] theorem opnd_global {n : Nat} : opnd gl e (.global n) = (gl n).map .pv := rfl
@[go_sem ↓] theorem W_opnds_nil {Q : List AV → Prop} : W (opnds gl e []) Q = Q [] := W_some
@[go_sem ↓] theorem W_opnds_cons {x : Operand} {l : List Operand} {Q : List AV → Prop} : W (opnds gl e (x :: l)) Q = W (opnd gl e x) (fun v => W (opnds gl e l) (fun vs => Q (v :: vs))) := by
  simp only [opnds]; rw [W_bind]; (first | refine W_ext fun v => ?_ | (congr 1; funext v)); rw [W_bind]; (first | refine W_ext fun vs => ?_ | (congr 1; funext vs)); rw [W_some]

-- operations
@[go_sem ↓] theorem ops_nil : W (opsFrom P gl call h id all [] i e S) Q = Q (e, S) := W_some

theorem ops_gen {d : Option Nat} {op : Op} : W (opsFrom P gl call h id all (⟨d, op, ty, pos, after, none⟩ :: r) i e S) Q =
    W (oper P gl call (has2 h.muts id i) (has2 h.frz id i) ⟨d, op, ty, pos, after, none⟩ e S) (fun p => match p.1, d with
      | some v, some t => W (opsFrom P gl call h id all r (i + 1) (put e t v) p.2) Q
      | _, none => W (opsFrom P gl call h id all r (i + 1) e p.2) Q
      | none, some _ => False) := by
  simp only [opsFrom, step1, wanted, Option.bind_some]
  rw [W_bind, W_bind]
  refine W_ext fun p => ?_
  obtain ⟨v, S'⟩ := p
  cases v <;> cases d <;> simp [W_none, W_some]

theorem ops_val {d : Nat} {op : Op} {x : Option AV} (hx : oper P gl call (has2 h.muts id i) (has2 h.frz id i) ⟨some d, op, ty, pos, after, none⟩ e S = val x S) :
    W (opsFrom P gl call h id all (⟨some d, op, ty, pos, after, none⟩ :: r) i e S) Q = W x (fun v => W (opsFrom P gl call h id all r (i + 1) (put e d v) S) Q) := by
  rw [ops_gen, hx, val, W_map]

theorem ops_valS {d : Nat} {op : Op} {x : Option (AV × St)} (hx : oper P gl call (has2 h.muts id i) (has2 h.frz id i) ⟨some d, op, ty, pos, after, none⟩ e S = valS x) :
    W (opsFrom P gl call h id all (⟨some d, op, ty, pos, after, none⟩ :: r) i e S) Q = W x (fun p => W (opsFrom P gl call h id all r (i + 1) (put e d p.1) p.2) Q) := by
  rw [ops_gen, hx, valS, W_map]

theorem ops_valS0 {op : Op} {x : Option (AV × St)} (hx : oper P gl call (has2 h.muts id i) (has2 h.frz id i) ⟨none, op, ty, pos, after, none⟩ e S = valS x) :
    W (opsFrom P gl call h id all (⟨none, op, ty, pos, after, none⟩ :: r) i e S) Q = W x (fun p => W (opsFrom P gl call h id all r (i + 1) e p.2) Q) := by
  rw [ops_gen, hx, valS, W_map]

theorem ops_eff {op : Op} {x : Option St} (hx : oper P gl call (has2 h.muts id i) (has2 h.frz id i) ⟨none, op, ty, pos, after, none⟩ e S = eff x) :
    W (opsFrom P gl call h id all (⟨none, op, ty, pos, after, none⟩ :: r) i e S) Q = W x (fun S' => W (opsFrom P gl call h id all r (i + 1) e S') Q) := by
  rw [ops_gen, hx, eff, W_map]

theorem bind_val {x : Option AV} {f : AV → Option AV} : (x.bind fun a => val (f a) S) = val (x.bind f) S := by cases x <;> rfl
theorem bind_valS {β : Type} {x : Option β} {f : β → Option (AV × St)} : (x.bind fun a => valS (f a)) = valS (x.bind f) := by cases x <;> rfl
theorem bind_eff {β : Type} {x : Option β} {f : β → Option St} : (x.bind fun a => eff (f a)) = eff (x.bind f) := by cases x <;> rfl
theorem bind_val' {β : Type} {x : Option β} {f : β → Option AV} : (x.bind fun a => val (f a) S) = val (x.bind f) S := by cases x <;> rfl

def frzV (frz : Bool) (S : St) (v : AV) : Option (AV × St) := match frz with | true => freezeV S v | false => some (v, S)
@[go_sem] theorem frzV_false {v : AV} : frzV false S v = some (v, S) := rfl
@[go_sem] theorem frzV_true {v : AV} : frzV true S v = freezeV S v := rfl
theorem ops_move {d : Nat} {x : Operand} : W (opsFrom P gl call h id all (⟨some d, .move x, ty, pos, after, none⟩ :: r) i e S) Q =
    W (opnd gl e x) (fun v => W (frzV (has2 h.frz id i) S v) (fun p => W (opsFrom P gl call h id all r (i + 1) (put e d p.1) p.2) Q)) := by
  rw [ops_valS (x := (opnd gl e x).bind fun v => frzV (has2 h.frz id i) S v), W_bind]
  show ((opnd gl e x).bind fun v => match has2 h.frz id i with | true => valS (freezeV S v) | false => some (some v, S)) = _
  rw [← bind_valS]
  (first | refine W_ext fun v => ?_ | (congr 1; funext v)); cases has2 h.frz id i <;> rfl
@[go_sem ↓] theorem ops_move' {d : Nat} {x : Operand} : W (opsFrom P gl call h id all (⟨some d, .move x, ty, pos, after, none⟩ :: r) i e S) Q =
    W (opnd gl e x) (fun v => W (frzV (has2 h.frz id i) S v) (fun p => bindE (put e d p.1) (fun e => W (opsFrom P gl call h id all r (i + 1) e p.2) Q))) := ops_move
theorem ops_assign {d : Nat} {x : Operand} : W (opsFrom P gl call h id all (⟨some d, .assign x, ty, pos, after, none⟩ :: r) i e S) Q =
    W (opnd gl e x) (fun v => W (frzV (has2 h.frz id i) S v) (fun p => W (opsFrom P gl call h id all r (i + 1) (put e d p.1) p.2) Q)) := by
  rw [ops_valS (x := (opnd gl e x).bind fun v => frzV (has2 h.frz id i) S v), W_bind]
  show ((opnd gl e x).bind fun v => match has2 h.frz id i with | true => valS (freezeV S v) | false => some (some v, S)) = _
  rw [← bind_valS]
  (first | refine W_ext fun v => ?_ | (congr 1; funext v)); cases has2 h.frz id i <;> rfl
@[go_sem ↓] theorem ops_assign' {d : Nat} {x : Operand} : W (opsFrom P gl call h id all (⟨some d, .assign x, ty, pos, after, none⟩ :: r) i e S) Q =
    W (opnd gl e x) (fun v => W (frzV (has2 h.frz id i) S v) (fun p => bindE (put e d p.1) (fun e => W (opsFrom P gl call h id all r (i + 1) e p.2) Q))) := ops_assign
def pickV (a b : Option AV) : AV → Option AV
  | .bool true => a
  | .bool false => b
  | _ => none
@[go_sem] theorem pickV_true {a b : Option AV} : pickV a b (.bool true) = a := rfl
@[go_sem] theorem pickV_false {a b : Option AV} : pickV a b (.bool false) = b := rfl
theorem ops_pick {d : Nat} {c x y : Operand} : W (opsFrom P gl call h id all (⟨some d, .pick c x y, ty, pos, after, none⟩ :: r) i e S) Q =
    W (opnd gl e c) (fun v => W (pickV (opnd gl e x) (opnd gl e y) v) (fun v => W (opsFrom P gl call h id all r (i + 1) (put e d v) S) Q)) := by
  rw [ops_val (x := (opnd gl e c).bind (pickV (opnd gl e x) (opnd gl e y))), W_bind]
  simp only [oper]
  rw [← bind_val]
  (first | refine W_ext fun v => ?_ | (congr 1; funext v)); cases v <;> first | rfl | skip
  rename_i b; cases b <;> rfl
@[go_sem ↓] theorem ops_pick' {d : Nat} {c x y : Operand} : W (opsFrom P gl call h id all (⟨some d, .pick c x y, ty, pos, after, none⟩ :: r) i e S) Q =
    W (opnd gl e c) (fun v => W (pickV (opnd gl e x) (opnd gl e y) v) (fun v => bindE (put e d v) (fun e => W (opsFrom P gl call h id all r (i + 1) e S) Q))) := ops_pick
theorem ops_alloc {d : Nat} {t : TypeId} : W (opsFrom P gl call h id all (⟨some d, .alloc t, ty, pos, after, none⟩ :: r) i e S) Q =
    W (allocP P S t) (fun p => W (opsFrom P gl call h id all r (i + 1) (put e d p.1) p.2) Q) := ops_valS rfl
@[go_sem ↓] theorem ops_alloc' {d : Nat} {t : TypeId} : W (opsFrom P gl call h id all (⟨some d, .alloc t, ty, pos, after, none⟩ :: r) i e S) Q =
    W (allocP P S t) (fun p => bindE (put e d p.1) (fun e => W (opsFrom P gl call h id all r (i + 1) e p.2) Q)) := ops_valS rfl
def boxP (P : Program) (mt : Bool) (S : St) (t : TypeId) (v : AV) : Option (AV × St) :=
  (sizeT P t).bind fun n => if v.cells.length = n ∧ v.noTup = true then
    (match mt with
    | true => some (.ptr S.length 0 0, S ++ [.cells n [v]])
    | false => some (.pv (v.cells.map AV.weak1), S)) else none
@[go_sem] theorem boxP_false {P : Program} {S : St} {t : TypeId} {v : AV} : boxP P false S t v = (sizeT P t).bind fun n => if v.cells.length = n ∧ v.noTup = true then some (.pv (v.cells.map AV.weak1), S) else none := rfl
@[go_sem] theorem boxP_true {P : Program} {S : St} {t : TypeId} {v : AV} : boxP P true S t v = (sizeT P t).bind fun n => if v.cells.length = n ∧ v.noTup = true then some (.ptr S.length 0 0, S ++ [.cells n [v]]) else none := rfl
theorem ops_box {d : Nat} {t : TypeId} {x : Operand} : W (opsFrom P gl call h id all (⟨some d, .box t x, ty, pos, after, none⟩ :: r) i e S) Q =
    W (opnd gl e x) (fun v => W (boxP P (has2 h.muts id i) S t v) (fun p => W (opsFrom P gl call h id all r (i + 1) (put e d p.1) p.2) Q)) := by
  rw [ops_valS (x := (opnd gl e x).bind fun v => boxP P (has2 h.muts id i) S t v), W_bind]
  simp only [oper]
  rw [← bind_valS]
  (first | refine W_ext fun v => ?_ | (congr 1; funext v))
  simp only [boxP]
  cases sizeT P t with
  | none => rfl
  | some n => simp only [Option.bind_some]; split <;> (cases has2 h.muts id i <;> rfl)
@[go_sem ↓] theorem ops_box' {d : Nat} {t : TypeId} {x : Operand} : W (opsFrom P gl call h id all (⟨some d, .box t x, ty, pos, after, none⟩ :: r) i e S) Q =
    W (opnd gl e x) (fun v => W (boxP P (has2 h.muts id i) S t v) (fun p => bindE (put e d p.1) (fun e => W (opsFrom P gl call h id all r (i + 1) e p.2) Q))) := ops_box
theorem ops_build {d : Nat} {t : TypeId} {ps : List (Nat × Operand)} : W (opsFrom P gl call h id all (⟨some d, .build t ps.toArray, ty, pos, after, none⟩ :: r) i e S) Q =
    W (opnds gl e (ps.map (·.2))) (fun vs => W (if vs.all AV.noTup = true then buildP P t ((ps.map (·.1)).zip vs) else none) (fun v => W (opsFrom P gl call h id all r (i + 1) (put e d v) S) Q)) := by
  rw [ops_val (x := (opnds gl e (ps.map (·.2))).bind fun vs => if vs.all AV.noTup = true then buildP P t ((ps.map (·.1)).zip vs) else none), W_bind]
  simp only [oper]
  rw [← bind_val']
  (first | refine W_ext fun vs => ?_ | (congr 1; funext vs))
  split <;> rfl
@[go_sem ↓] theorem ops_build' {d : Nat} {t : TypeId} {ps : List (Nat × Operand)} : W (opsFrom P gl call h id all (⟨some d, .build t ps.toArray, ty, pos, after, none⟩ :: r) i e S) Q =
    W (opnds gl e (ps.map (·.2))) (fun vs => W (if vs.all AV.noTup = true then buildP P t ((ps.map (·.1)).zip vs) else none) (fun v => bindE (put e d v) (fun e => W (opsFrom P gl call h id all r (i + 1) e S) Q))) := ops_build
theorem ops_buildSlice {d : Nat} {t : TypeId} {n : Nat} {ps : List (Nat × Operand)} : W (opsFrom P gl call h id all (⟨some d, .buildSlice t n ps.toArray, ty, pos, after, none⟩ :: r) i e S) Q =
    W (opnds gl e (ps.map (·.2))) (fun vs => W (if vs.all AV.noTup = true then buildSliceP P (has2 h.muts id i) S t n ((ps.map (·.1)).zip vs) else none) (fun p => W (opsFrom P gl call h id all r (i + 1) (put e d p.1) p.2) Q)) := by
  rw [ops_valS (x := (opnds gl e (ps.map (·.2))).bind fun vs => if vs.all AV.noTup = true then buildSliceP P (has2 h.muts id i) S t n ((ps.map (·.1)).zip vs) else none), W_bind]
  simp only [oper]
  rw [← bind_valS]
  (first | refine W_ext fun vs => ?_ | (congr 1; funext vs))
  split <;> rfl
@[go_sem ↓] theorem ops_buildSlice' {d : Nat} {t : TypeId} {n : Nat} {ps : List (Nat × Operand)} : W (opsFrom P gl call h id all (⟨some d, .buildSlice t n ps.toArray, ty, pos, after, none⟩ :: r) i e S) Q =
    W (opnds gl e (ps.map (·.2))) (fun vs => W (if vs.all AV.noTup = true then buildSliceP P (has2 h.muts id i) S t n ((ps.map (·.1)).zip vs) else none) (fun p => bindE (put e d p.1) (fun e => W (opsFrom P gl call h id all r (i + 1) e p.2) Q))) := ops_buildSlice
def ldP (P : Program) (frz : Bool) (S : St) (t : TypeId) (p : AV) : Option (AV × St) :=
  match frz with
  | true => (freezeAt S p).bind fun S1 => (loadP P S1 t p).map fun v => (v, S1)
  | false => (loadP P S t p).map fun v => (v, S)
@[go_sem] theorem ldP_false {P : Program} {S : St} {t : TypeId} {p : AV} : ldP P false S t p = (loadP P S t p).map fun v => (v, S) := rfl
@[go_sem] theorem ldP_true {P : Program} {S : St} {t : TypeId} {p : AV} : ldP P true S t p = (freezeAt S p).bind fun S1 => (loadP P S1 t p).map fun v => (v, S1) := rfl
theorem ops_load {d : Nat} {t : TypeId} {x : Operand} : W (opsFrom P gl call h id all (⟨some d, .load t x, ty, pos, after, none⟩ :: r) i e S) Q =
    W (opnd gl e x) (fun p => W (ldP P (has2 h.frz id i) S t p) (fun q => W (opsFrom P gl call h id all r (i + 1) (put e d q.1) q.2) Q)) := by
  rw [ops_valS (x := (opnd gl e x).bind fun p => ldP P (has2 h.frz id i) S t p), W_bind]
  simp only [oper]; rw [← bind_valS]; (first | refine W_ext fun p => ?_ | (congr 1; funext p))
  cases has2 h.frz id i with
  | true => rfl
  | false => simp only [ldP]; cases loadP P S t p <;> rfl
@[go_sem ↓] theorem ops_load' {d : Nat} {t : TypeId} {x : Operand} : W (opsFrom P gl call h id all (⟨some d, .load t x, ty, pos, after, none⟩ :: r) i e S) Q =
    W (opnd gl e x) (fun p => W (ldP P (has2 h.frz id i) S t p) (fun q => bindE (put e d q.1) (fun e => W (opsFrom P gl call h id all r (i + 1) e q.2) Q))) := ops_load
def stP (P : Program) (frz : Bool) (S : St) (t : TypeId) (p v : AV) : Option St :=
  match frz with
  | true => (freezeV S v).bind fun q => if q.1.noTup = true then storeP P q.2 t p q.1 else none
  | false => if v.noTup = true then storeP P S t p v else none
@[go_sem] theorem stP_false {P : Program} {S : St} {t : TypeId} {p v : AV} : stP P false S t p v = if v.noTup = true then storeP P S t p v else none := rfl
@[go_sem] theorem stP_true {P : Program} {S : St} {t : TypeId} {p v : AV} : stP P true S t p v = (freezeV S v).bind fun q => if q.1.noTup = true then storeP P q.2 t p q.1 else none := rfl
@[go_sem ↓] theorem ops_store {t : TypeId} {x y : Operand} : W (opsFrom P gl call h id all (⟨none, .store t x y, ty, pos, after, none⟩ :: r) i e S) Q =
    W (opnd gl e x) (fun p => W (opnd gl e y) (fun v => W (stP P (has2 h.frz id i) S t p v) (fun S' => W (opsFrom P gl call h id all r (i + 1) e S') Q))) := by
  rw [ops_eff (x := (opnd gl e x).bind fun p => (opnd gl e y).bind fun v => stP P (has2 h.frz id i) S t p v), W_bind]
  · (first | refine W_ext fun p => ?_ | (congr 1; funext p)); rw [W_bind]
  · simp only [oper]; rw [← bind_eff]; (first | refine W_ext fun p => ?_ | (congr 1; funext p)); rw [← bind_eff]; (first | refine W_ext fun v => ?_ | (congr 1; funext v))
    cases has2 h.frz id i with
    | false => simp only [stP]; split <;> rfl
    | true =>
      simp only [stP]
      cases freezeV S v with
      | none => rfl
      | some q => obtain ⟨u, S1⟩ := q; simp only [Option.bind_some]; split <;> rfl
def nonNil : AV → Option AV
  | .ptr b i o => some (.ptr b i o)
  | .pv cs => some (.pv cs)
  | .aptr b i o z => some (.aptr b i o z)
  | .func f a c => some (.func f a c)
  | _ => none
theorem ops_nilCheck {d : Nat} {x : Operand} : W (opsFrom P gl call h id all (⟨some d, .nilCheck x, ty, pos, after, none⟩ :: r) i e S) Q =
    W (opnd gl e x) (fun p => W (nonNil p) (fun v => W (opsFrom P gl call h id all r (i + 1) (put e d v) S) Q)) := by
  rw [ops_val (x := (opnd gl e x).bind nonNil), W_bind]; simp only [oper]; rw [← bind_val]; (first | refine W_ext fun v => ?_ | (congr 1; funext v)); cases v <;> rfl
@[go_sem ↓] theorem ops_nilCheck' {d : Nat} {x : Operand} : W (opsFrom P gl call h id all (⟨some d, .nilCheck x, ty, pos, after, none⟩ :: r) i e S) Q =
    W (opnd gl e x) (fun p => W (nonNil p) (fun v => bindE (put e d v) (fun e => W (opsFrom P gl call h id all r (i + 1) e S) Q))) := ops_nilCheck
@[go_sem ↓] theorem ops_nilCheck0 {x : Operand} : W (opsFrom P gl call h id all (⟨none, .nilCheck x, ty, pos, after, none⟩ :: r) i e S) Q =
    W (opnd gl e x) (fun p => W (nonNil p) (fun _ => W (opsFrom P gl call h id all r (i + 1) e S) Q)) := by
  rw [ops_gen]
  have : oper P gl call (has2 h.muts id i) (has2 h.frz id i) ⟨none, .nilCheck x, ty, pos, after, none⟩ e S = val ((opnd gl e x).bind nonNil) S := by
    simp only [oper]; rw [← bind_val]; (first | refine W_ext fun v => ?_ | (congr 1; funext v)); cases v <;> rfl
  rw [this, val, W_map, W_bind]
theorem ops_binOp {d : Nat} {op : BinOp} {t u : TypeId} {x y : Operand} : W (opsFrom P gl call h id all (⟨some d, .binOp op t x y u, ty, pos, after, none⟩ :: r) i e S) Q =
    W (opnd gl e x) (fun a => W (opnd gl e y) (fun b => W (binP P op t a b) (fun v => W (opsFrom P gl call h id all r (i + 1) (put e d v) S) Q))) := by
  rw [ops_val (x := (opnd gl e x).bind fun a => (opnd gl e y).bind fun b => binP P op t a b), W_bind]
  · (first | refine W_ext fun a => ?_ | (congr 1; funext a)); rw [W_bind]
  · simp only [oper]; rw [← bind_val]; (first | refine W_ext fun a => ?_ | (congr 1; funext a)); rw [← bind_val]
@[go_sem ↓] theorem ops_binOp' {d : Nat} {op : BinOp} {t u : TypeId} {x y : Operand} : W (opsFrom P gl call h id all (⟨some d, .binOp op t x y u, ty, pos, after, none⟩ :: r) i e S) Q =
    W (opnd gl e x) (fun a => W (opnd gl e y) (fun b => W (binP P op t a b) (fun v => bindE (put e d v) (fun e => W (opsFrom P gl call h id all r (i + 1) e S) Q)))) := ops_binOp
theorem ops_unOp {d : Nat} {op : UnOp} {t : TypeId} {x : Operand} : W (opsFrom P gl call h id all (⟨some d, .unOp op t x, ty, pos, after, none⟩ :: r) i e S) Q =
    W (opnd gl e x) (fun a => W (unP op a) (fun v => W (opsFrom P gl call h id all r (i + 1) (put e d v) S) Q)) := by
  rw [ops_val (x := (opnd gl e x).bind fun a => unP op a), W_bind]; simp only [oper]; rw [← bind_val]
@[go_sem ↓] theorem ops_unOp' {d : Nat} {op : UnOp} {t : TypeId} {x : Operand} : W (opsFrom P gl call h id all (⟨some d, .unOp op t x, ty, pos, after, none⟩ :: r) i e S) Q =
    W (opnd gl e x) (fun a => W (unP op a) (fun v => bindE (put e d v) (fun e => W (opsFrom P gl call h id all r (i + 1) e S) Q))) := ops_unOp
theorem ops_convert {d : Nat} {s t : TypeId} {x : Operand} : W (opsFrom P gl call h id all (⟨some d, .convert s t x, ty, pos, after, none⟩ :: r) i e S) Q =
    W (opnd gl e x) (fun a => W (convP P S s t a) (fun v => W (opsFrom P gl call h id all r (i + 1) (put e d v) S) Q)) := by
  rw [ops_val (x := (opnd gl e x).bind fun a => convP P S s t a), W_bind]; simp only [oper]; rw [← bind_val]
@[go_sem ↓] theorem ops_convert' {d : Nat} {s t : TypeId} {x : Operand} : W (opsFrom P gl call h id all (⟨some d, .convert s t x, ty, pos, after, none⟩ :: r) i e S) Q =
    W (opnd gl e x) (fun a => W (convP P S s t a) (fun v => bindE (put e d v) (fun e => W (opsFrom P gl call h id all r (i + 1) e S) Q))) := ops_convert
theorem ops_makeFunc {d f : Nat} {fs cs : List Operand} : W (opsFrom P gl call h id all (⟨some d, .makeFunc (.func f) fs.toArray cs.toArray, ty, pos, after, none⟩ :: r) i e S) Q =
    W (opnds gl e fs) (fun fs => W (opnds gl e cs) (fun cs => W (opsFrom P gl call h id all r (i + 1) (put e d (.func f fs cs)) S) Q)) := by
  rw [ops_val (x := (opnds gl e fs).bind fun fs => (opnds gl e cs).bind fun cs => some (.func f fs cs)), W_bind]
  · (first | refine W_ext fun a => ?_ | (congr 1; funext a)); rw [W_bind]; (first | refine W_ext fun b => ?_ | (congr 1; funext b)); rw [W_some]
  · simp only [oper]; rw [← bind_val']; (first | refine W_ext fun a => ?_ | (congr 1; funext a)); rw [← bind_val']; rfl
@[go_sem ↓] theorem ops_makeFunc' {d f : Nat} {fs cs : List Operand} : W (opsFrom P gl call h id all (⟨some d, .makeFunc (.func f) fs.toArray cs.toArray, ty, pos, after, none⟩ :: r) i e S) Q =
    W (opnds gl e fs) (fun fs => W (opnds gl e cs) (fun cs => bindE (put e d (.func f fs cs)) (fun e => W (opsFrom P gl call h id all r (i + 1) e S) Q))) := ops_makeFunc
def makeMapP (P : Program) (S : St) (t : TypeId) (x : Option AV) : Option (AV × St) :=
  match P.underlying t with
  | some (.map _ _) => (match x with
    | none => some (.map S.length, S ++ [.map []])
    | some (.int _ _) => some (.map S.length, S ++ [.map []])
    | _ => none)
  | _ => none
theorem ops_makeMap {d : Nat} {t : TypeId} : W (opsFrom P gl call h id all (⟨some d, .makeMap t none, ty, pos, after, none⟩ :: r) i e S) Q =
    W (makeMapP P S t none) (fun p => W (opsFrom P gl call h id all r (i + 1) (put e d p.1) p.2) Q) := by
  refine ops_valS ?_
  simp only [oper, makeMapP]
  cases P.underlying t with
  | none => rfl
  | some d => cases d <;> rfl
@[go_sem ↓] theorem ops_makeMap' {d : Nat} {t : TypeId} : W (opsFrom P gl call h id all (⟨some d, .makeMap t none, ty, pos, after, none⟩ :: r) i e S) Q =
    W (makeMapP P S t none) (fun p => bindE (put e d p.1) (fun e => W (opsFrom P gl call h id all r (i + 1) e p.2) Q)) := ops_makeMap
theorem ops_makeSlice {d : Nat} {t : TypeId} {l c : Operand} : W (opsFrom P gl call h id all (⟨some d, .makeSlice t l c, ty, pos, after, none⟩ :: r) i e S) Q =
    W (opnd gl e l) (fun l => W (opnd gl e c) (fun c => W (makeSliceP P S t l c) (fun p => W (opsFrom P gl call h id all r (i + 1) (put e d p.1) p.2) Q))) := by
  rw [ops_valS (x := (opnd gl e l).bind fun l => (opnd gl e c).bind fun c => makeSliceP P S t l c), W_bind]
  · (first | refine W_ext fun a => ?_ | (congr 1; funext a)); rw [W_bind]
  · simp only [oper]; rw [← bind_valS]; (first | refine W_ext fun a => ?_ | (congr 1; funext a)); rw [← bind_valS]
@[go_sem ↓] theorem ops_makeSlice' {d : Nat} {t : TypeId} {l c : Operand} : W (opsFrom P gl call h id all (⟨some d, .makeSlice t l c, ty, pos, after, none⟩ :: r) i e S) Q =
    W (opnd gl e l) (fun l => W (opnd gl e c) (fun c => W (makeSliceP P S t l c) (fun p => bindE (put e d p.1) (fun e => W (opsFrom P gl call h id all r (i + 1) e p.2) Q)))) := ops_makeSlice
theorem ops_slice {d : Nat} {t : TypeId} {x : Operand} {lo hi mx : Option Operand} : W (opsFrom P gl call h id all (⟨some d, .slice t x lo hi mx, ty, pos, after, none⟩ :: r) i e S) Q =
    W (opnd gl e x) (fun x => W (opnds gl e lo.toList) (fun lo => W (opnds gl e hi.toList) (fun hi => W (opnds gl e mx.toList) (fun mx => W (sliceP P t x lo.head? hi.head? mx.head?) (fun v => W (opsFrom P gl call h id all r (i + 1) (put e d v) S) Q))))) := by
  rw [ops_val (x := (opnd gl e x).bind fun x => (opnds gl e lo.toList).bind fun lo => (opnds gl e hi.toList).bind fun hi => (opnds gl e mx.toList).bind fun mx => sliceP P t x lo.head? hi.head? mx.head?), W_bind]
  · (first | refine W_ext fun a => ?_ | (congr 1; funext a)); rw [W_bind]; (first | refine W_ext fun b => ?_ | (congr 1; funext b)); rw [W_bind]; (first | refine W_ext fun c => ?_ | (congr 1; funext c)); rw [W_bind]
  · simp only [oper]; rw [← bind_val']; (first | refine W_ext fun a => ?_ | (congr 1; funext a)); rw [← bind_val']; (first | refine W_ext fun b => ?_ | (congr 1; funext b)); rw [← bind_val']; (first | refine W_ext fun c => ?_ | (congr 1; funext c)); rw [← bind_val']
@[go_sem ↓] theorem ops_slice' {d : Nat} {t : TypeId} {x : Operand} {lo hi mx : Option Operand} : W (opsFrom P gl call h id all (⟨some d, .slice t x lo hi mx, ty, pos, after, none⟩ :: r) i e S) Q =
    W (opnd gl e x) (fun x => W (opnds gl e lo.toList) (fun lo => W (opnds gl e hi.toList) (fun hi => W (opnds gl e mx.toList) (fun mx => W (sliceP P t x lo.head? hi.head? mx.head?) (fun v => bindE (put e d v) (fun e => W (opsFrom P gl call h id all r (i + 1) e S) Q)))))) := ops_slice
theorem ops_fieldAddr {d f : Nat} {t : TypeId} {x : Operand} : W (opsFrom P gl call h id all (⟨some d, .fieldAddr t x f, ty, pos, after, none⟩ :: r) i e S) Q =
    W (opnd gl e x) (fun p => W (fieldAddrP P t p f) (fun v => W (opsFrom P gl call h id all r (i + 1) (put e d v) S) Q)) := by
  rw [ops_val (x := (opnd gl e x).bind fun p => fieldAddrP P t p f), W_bind]; simp only [oper]; rw [← bind_val]
@[go_sem ↓] theorem ops_fieldAddr' {d f : Nat} {t : TypeId} {x : Operand} : W (opsFrom P gl call h id all (⟨some d, .fieldAddr t x f, ty, pos, after, none⟩ :: r) i e S) Q =
    W (opnd gl e x) (fun p => W (fieldAddrP P t p f) (fun v => bindE (put e d v) (fun e => W (opsFrom P gl call h id all r (i + 1) e S) Q))) := ops_fieldAddr
theorem ops_field {d f : Nat} {t : TypeId} {x : Operand} : W (opsFrom P gl call h id all (⟨some d, .field t x f, ty, pos, after, none⟩ :: r) i e S) Q =
    W (opnd gl e x) (fun p => W (fieldP P t p f) (fun v => W (opsFrom P gl call h id all r (i + 1) (put e d v) S) Q)) := by
  rw [ops_val (x := (opnd gl e x).bind fun p => fieldP P t p f), W_bind]; simp only [oper]; rw [← bind_val]
@[go_sem ↓] theorem ops_field' {d f : Nat} {t : TypeId} {x : Operand} : W (opsFrom P gl call h id all (⟨some d, .field t x f, ty, pos, after, none⟩ :: r) i e S) Q =
    W (opnd gl e x) (fun p => W (fieldP P t p f) (fun v => bindE (put e d v) (fun e => W (opsFrom P gl call h id all r (i + 1) e S) Q))) := ops_field
theorem ops_indexAddr {d : Nat} {t : TypeId} {x y : Operand} : W (opsFrom P gl call h id all (⟨some d, .indexAddr t x y, ty, pos, after, none⟩ :: r) i e S) Q =
    W (opnd gl e x) (fun x => W (opnd gl e y) (fun y => W (indexAddrP P t x y) (fun v => W (opsFrom P gl call h id all r (i + 1) (put e d v) S) Q))) := by
  rw [ops_val (x := (opnd gl e x).bind fun x => (opnd gl e y).bind fun y => indexAddrP P t x y), W_bind]
  · (first | refine W_ext fun a => ?_ | (congr 1; funext a)); rw [W_bind]
  · simp only [oper]; rw [← bind_val]; (first | refine W_ext fun a => ?_ | (congr 1; funext a)); rw [← bind_val]
@[go_sem ↓] theorem ops_indexAddr' {d : Nat} {t : TypeId} {x y : Operand} : W (opsFrom P gl call h id all (⟨some d, .indexAddr t x y, ty, pos, after, none⟩ :: r) i e S) Q =
    W (opnd gl e x) (fun x => W (opnd gl e y) (fun y => W (indexAddrP P t x y) (fun v => bindE (put e d v) (fun e => W (opsFrom P gl call h id all r (i + 1) e S) Q)))) := ops_indexAddr
theorem ops_index {d : Nat} {t : TypeId} {x y : Operand} : W (opsFrom P gl call h id all (⟨some d, .index t x y, ty, pos, after, none⟩ :: r) i e S) Q =
    W (opnd gl e x) (fun x => W (opnd gl e y) (fun y => W (indexP P t x y) (fun v => W (opsFrom P gl call h id all r (i + 1) (put e d v) S) Q))) := by
  rw [ops_val (x := (opnd gl e x).bind fun x => (opnd gl e y).bind fun y => indexP P t x y), W_bind]
  · (first | refine W_ext fun a => ?_ | (congr 1; funext a)); rw [W_bind]
  · simp only [oper]; rw [← bind_val]; (first | refine W_ext fun a => ?_ | (congr 1; funext a)); rw [← bind_val]
@[go_sem ↓] theorem ops_index' {d : Nat} {t : TypeId} {x y : Operand} : W (opsFrom P gl call h id all (⟨some d, .index t x y, ty, pos, after, none⟩ :: r) i e S) Q =
    W (opnd gl e x) (fun x => W (opnd gl e y) (fun y => W (indexP P t x y) (fun v => bindE (put e d v) (fun e => W (opsFrom P gl call h id all r (i + 1) e S) Q)))) := ops_index
theorem ops_lookup {d : Nat} {t : TypeId} {x y : Operand} {ok : Bool} : W (opsFrom P gl call h id all (⟨some d, .lookup t x y ok, ty, pos, after, none⟩ :: r) i e S) Q =
    W (opnd gl e x) (fun x => W (opnd gl e y) (fun y => W (lookupP P S t x y ok) (fun v => W (opsFrom P gl call h id all r (i + 1) (put e d v) S) Q))) := by
  rw [ops_val (x := (opnd gl e x).bind fun x => (opnd gl e y).bind fun y => lookupP P S t x y ok), W_bind]
  · (first | refine W_ext fun a => ?_ | (congr 1; funext a)); rw [W_bind]
  · simp only [oper]; rw [← bind_val]; (first | refine W_ext fun a => ?_ | (congr 1; funext a)); rw [← bind_val]
@[go_sem ↓] theorem ops_lookup' {d : Nat} {t : TypeId} {x y : Operand} {ok : Bool} : W (opsFrom P gl call h id all (⟨some d, .lookup t x y ok, ty, pos, after, none⟩ :: r) i e S) Q =
    W (opnd gl e x) (fun x => W (opnd gl e y) (fun y => W (lookupP P S t x y ok) (fun v => bindE (put e d v) (fun e => W (opsFrom P gl call h id all r (i + 1) e S) Q)))) := ops_lookup
@[go_sem ↓] theorem ops_mapUpdate {t : TypeId} {m k x : Operand} : W (opsFrom P gl call h id all (⟨none, .mapUpdate t m k x, ty, pos, after, none⟩ :: r) i e S) Q =
    W (opnd gl e m) (fun m => W (opnd gl e k) (fun k => W (opnd gl e x) (fun x => W (mapUpdateP P S t m k x) (fun S' => W (opsFrom P gl call h id all r (i + 1) e S') Q)))) := by
  rw [ops_eff (x := (opnd gl e m).bind fun m => (opnd gl e k).bind fun k => (opnd gl e x).bind fun x => mapUpdateP P S t m k x), W_bind]
  · (first | refine W_ext fun a => ?_ | (congr 1; funext a)); rw [W_bind]; (first | refine W_ext fun b => ?_ | (congr 1; funext b)); rw [W_bind]
  · simp only [oper]; rw [← bind_eff]; (first | refine W_ext fun a => ?_ | (congr 1; funext a)); rw [← bind_eff]; (first | refine W_ext fun b => ?_ | (congr 1; funext b)); rw [← bind_eff]
def partOf (ix : Nat) : AV → Option AV
  | .tuple vs => vs[ix]?
  | _ => none
@[go_sem] theorem partOf_tuple {ix : Nat} {vs : List AV} : partOf ix (.tuple vs) = vs[ix]? := rfl
theorem ops_extract {d ix : Nat} {x : Operand} : W (opsFrom P gl call h id all (⟨some d, .extract x ix, ty, pos, after, none⟩ :: r) i e S) Q =
    W (opnd gl e x) (fun p => W (partOf ix p) (fun v => W (opsFrom P gl call h id all r (i + 1) (put e d v) S) Q)) := by
  rw [ops_val (x := (opnd gl e x).bind (partOf ix)), W_bind]; simp only [oper]; rw [← bind_val]; (first | refine W_ext fun v => ?_ | (congr 1; funext v)); cases v <;> rfl
@[go_sem ↓] theorem ops_extract' {d ix : Nat} {x : Operand} : W (opsFrom P gl call h id all (⟨some d, .extract x ix, ty, pos, after, none⟩ :: r) i e S) Q =
    W (opnd gl e x) (fun p => W (partOf ix p) (fun v => bindE (put e d v) (fun e => W (opsFrom P gl call h id all r (i + 1) e S) Q))) := ops_extract
def callV (call : CallF) (as : List AV) (S : St) : AV → Option (AV × St)
  | .func g fs cs => call g (fs ++ as ++ cs) S
  | _ => none
@[go_sem] theorem callV_func {as fs cs : List AV} {g : Nat} : callV call as S (.func g fs cs) = call g (fs ++ as ++ cs) S := rfl
theorem oper_call {d : Option Nat} {f : Operand} {as : List Operand} {ts : Array TypeId} {mt frz : Bool} : oper P gl call mt frz ⟨d, .call { callee := .value f, args := as.toArray, argTypes := ts }, ty, pos, after, none⟩ e S =
    valS ((opnd gl e f).bind fun fv => (opnds gl e as).bind fun as => callV call as S fv) := by
  simp only [oper]; rw [← bind_valS]; (first | refine W_ext fun v => ?_ | (congr 1; funext v)); rw [← bind_valS]; cases v <;> first | rfl | skip
  all_goals (cases opnds gl e as <;> rfl)
theorem ops_call {d : Nat} {f : Operand} {as : List Operand} {ts : Array TypeId} : W (opsFrom P gl call h id all (⟨some d, .call { callee := .value f, args := as.toArray, argTypes := ts }, ty, pos, after, none⟩ :: r) i e S) Q =
    W (opnd gl e f) (fun fv => W (opnds gl e as) (fun as => W (callV call as S fv) (fun p => W (opsFrom P gl call h id all r (i + 1) (put e d p.1) p.2) Q))) := by
  rw [ops_valS oper_call, W_bind]; (first | refine W_ext fun v => ?_ | (congr 1; funext v)); rw [W_bind]
@[go_sem ↓] theorem ops_call' {d : Nat} {f : Operand} {as : List Operand} {ts : Array TypeId} : W (opsFrom P gl call h id all (⟨some d, .call { callee := .value f, args := as.toArray, argTypes := ts }, ty, pos, after, none⟩ :: r) i e S) Q =
    W (opnd gl e f) (fun fv => W (opnds gl e as) (fun as => W (callV call as S fv) (fun p => bindE (put e d p.1) (fun e => W (opsFrom P gl call h id all r (i + 1) e p.2) Q)))) := ops_call
@[go_sem ↓] theorem ops_call0 {f : Operand} {as : List Operand} {ts : Array TypeId} : W (opsFrom P gl call h id all (⟨none, .call { callee := .value f, args := as.toArray, argTypes := ts }, ty, pos, after, none⟩ :: r) i e S) Q =
    W (opnd gl e f) (fun fv => W (opnds gl e as) (fun as => W (callV call as S fv) (fun p => W (opsFrom P gl call h id all r (i + 1) e p.2) Q))) := by
  rw [ops_valS0 oper_call, W_bind]; (first | refine W_ext fun v => ?_ | (congr 1; funext v)); rw [W_bind]
theorem ops_len {d : Nat} {t : TypeId} {x : Operand} : W (opsFrom P gl call h id all (⟨some d, .call { callee := .builtin .len, args := #[x], argTypes := #[t] }, ty, pos, after, none⟩ :: r) i e S) Q =
    W (opnd gl e x) (fun a => W (lenP P S t a) (fun v => W (opsFrom P gl call h id all r (i + 1) (put e d v) S) Q)) := by
  rw [ops_val (x := (opnd gl e x).bind fun a => lenP P S t a), W_bind]
  simp only [oper, opnds]
  cases opnd gl e x <;> rfl
@[go_sem ↓] theorem ops_len' {d : Nat} {t : TypeId} {x : Operand} : W (opsFrom P gl call h id all (⟨some d, .call { callee := .builtin .len, args := #[x], argTypes := #[t] }, ty, pos, after, none⟩ :: r) i e S) Q =
    W (opnd gl e x) (fun a => W (lenP P S t a) (fun v => bindE (put e d v) (fun e => W (opsFrom P gl call h id all r (i + 1) e S) Q))) := ops_len
def appendT (P : Program) (mt : Bool) (S : St) (t u : TypeId) (s x : AV) : Option (AV × St) :=
  match P.underlying u with
  | some (.int _) => none
  | some _ => appendP P mt S t s x
  | none => none
theorem ops_append {d : Nat} {t u : TypeId} {x y : Operand} : W (opsFrom P gl call h id all (⟨some d, .call { callee := .builtin .append, args := #[x, y], argTypes := #[t, u] }, ty, pos, after, none⟩ :: r) i e S) Q =
    W (opnd gl e x) (fun s => W (opnd gl e y) (fun x => W (appendT P (has2 h.muts id i) S t u s x) (fun p => W (opsFrom P gl call h id all r (i + 1) (put e d p.1) p.2) Q))) := by
  rw [ops_valS (x := (opnd gl e x).bind fun s => (opnd gl e y).bind fun x => appendT P (has2 h.muts id i) S t u s x), W_bind]
  · (first | refine W_ext fun a => ?_ | (congr 1; funext a)); rw [W_bind]
  · simp only [oper, opnds]
    cases opnd gl e x with
    | none => rfl
    | some a =>
      cases opnd gl e y with
      | none => rfl
      | some b =>
        simp only [Option.bind_some, builtinP, appendT]
        cases P.underlying u with
        | none => rfl
        | some d => cases d <;> rfl
@[go_sem ↓] theorem ops_append' {d : Nat} {t u : TypeId} {x y : Operand} : W (opsFrom P gl call h id all (⟨some d, .call { callee := .builtin .append, args := #[x, y], argTypes := #[t, u] }, ty, pos, after, none⟩ :: r) i e S) Q =
    W (opnd gl e x) (fun s => W (opnd gl e y) (fun x => W (appendT P (has2 h.muts id i) S t u s x) (fun p => bindE (put e d p.1) (fun e => W (opsFrom P gl call h id all r (i + 1) e p.2) Q)))) := ops_append
theorem ops_min {d : Nat} {t u : TypeId} {x y : Operand} : W (opsFrom P gl call h id all (⟨some d, .call { callee := .builtin .min, args := #[x, y], argTypes := #[t, u] }, ty, pos, after, none⟩ :: r) i e S) Q =
    W (opnd gl e x) (fun a => W (opnd gl e y) (fun b => W (minmax false a b) (fun v => W (opsFrom P gl call h id all r (i + 1) (put e d v) S) Q))) := by
  rw [ops_val (x := (opnd gl e x).bind fun a => (opnd gl e y).bind fun b => minmax false a b), W_bind]
  · (first | refine W_ext fun a => ?_ | (congr 1; funext a)); rw [W_bind]
  · simp only [oper, opnds]
    cases opnd gl e x <;> cases opnd gl e y <;> try rfl
    rename_i a b
    simp only [Option.bind_some, builtinP, minmaxs]
    cases minmax false a b <;> rfl
@[go_sem ↓] theorem ops_min' {d : Nat} {t u : TypeId} {x y : Operand} : W (opsFrom P gl call h id all (⟨some d, .call { callee := .builtin .min, args := #[x, y], argTypes := #[t, u] }, ty, pos, after, none⟩ :: r) i e S) Q =
    W (opnd gl e x) (fun a => W (opnd gl e y) (fun b => W (minmax false a b) (fun v => bindE (put e d v) (fun e => W (opsFrom P gl call h id all r (i + 1) e S) Q)))) := ops_min
theorem ops_max {d : Nat} {t u : TypeId} {x y : Operand} : W (opsFrom P gl call h id all (⟨some d, .call { callee := .builtin .max, args := #[x, y], argTypes := #[t, u] }, ty, pos, after, none⟩ :: r) i e S) Q =
    W (opnd gl e x) (fun a => W (opnd gl e y) (fun b => W (minmax true a b) (fun v => W (opsFrom P gl call h id all r (i + 1) (put e d v) S) Q))) := by
  rw [ops_val (x := (opnd gl e x).bind fun a => (opnd gl e y).bind fun b => minmax true a b), W_bind]
  · (first | refine W_ext fun a => ?_ | (congr 1; funext a)); rw [W_bind]
  · simp only [oper, opnds]
    cases opnd gl e x <;> cases opnd gl e y <;> try rfl
    rename_i a b
    simp only [Option.bind_some, builtinP, minmaxs]
    cases minmax true a b <;> rfl
@[go_sem ↓] theorem ops_max' {d : Nat} {t u : TypeId} {x y : Operand} : W (opsFrom P gl call h id all (⟨some d, .call { callee := .builtin .max, args := #[x, y], argTypes := #[t, u] }, ty, pos, after, none⟩ :: r) i e S) Q =
    W (opnd gl e x) (fun a => W (opnd gl e y) (fun b => W (minmax true a b) (fun v => bindE (put e d v) (fun e => W (opsFrom P gl call h id all r (i + 1) e S) Q)))) := ops_max

-- an operation that a bool guards
theorem oper_guard {d : Option Nat} {op : Op} {mt frz : Bool} {g : Option (Nat × Bool)} : oper P gl call mt frz ⟨d, op, ty, pos, after, g⟩ e S = oper P gl call mt frz ⟨d, op, ty, pos, after, none⟩ e S := rfl
def guardB (want : Bool) : AV → Option Bool
  | .bool b => some (b == want)
  | .tuple [] => some false
  | _ => none
@[go_sem] theorem guardB_true {b : Bool} : guardB true (.bool b) = some b := by simp [guardB]
@[go_sem] theorem guardB_false {b : Bool} : guardB false (.bool b) = some (!b) := by simp [guardB]
@[go_sem] theorem guardB_tuple {w : Bool} : guardB w (.tuple []) = some false := rfl
def ifB (b : Bool) (x y : Prop) (_ : Hold (x, y) := ⟨⟩) : Prop := if b = true then x else y
@[go_sem] theorem ifB_true {x y : Prop} : ifB true x y = x := by simp [ifB]
@[go_sem] theorem ifB_false {x y : Prop} : ifB false x y = y := by simp [ifB]
theorem ops_guard {d : Option Nat} {op : Op} {j : Nat} {want : Bool} : W (opsFrom P gl call h id all (⟨d, op, ty, pos, after, some (j, want)⟩ :: r) i e S) Q =
    W ((all[j]?).bind (·.dst)) (fun t => W (look e t) (fun v => W (guardB want v) (fun b =>
      ifB b (W (opsFrom P gl call h id all (⟨d, op, ty, pos, after, none⟩ :: r) i e S) Q) (W (opsFrom P gl call h id all r (i + 1) (putd e d (.tuple [])) S) Q)))) := by
  have hg : wanted all ⟨d, op, ty, pos, after, some (j, want)⟩ e = ((all[j]?).bind (·.dst)).bind fun t => (look e t).bind (guardB want) := by
    simp only [wanted]
    congr 1
  simp only [opsFrom, step1, hg]
  rw [W_bind, W_bind, W_bind]
  (first | refine W_ext fun t => ?_ | (congr 1; funext t))
  rw [W_bind]
  (first | refine W_ext fun v => ?_ | (congr 1; funext v))
  (first | refine W_ext fun b => ?_ | (congr 1; funext b))
  cases b with
  | true =>
    simp only [wanted, Option.bind_some, ifB, if_true]
    rw [← W_bind, oper_guard]
  | false => simp [W_some, ifB]
@[go_sem ↓] theorem ops_guard' {d : Option Nat} {op : Op} {j : Nat} {want : Bool} : W (opsFrom P gl call h id all (⟨d, op, ty, pos, after, some (j, want)⟩ :: r) i e S) Q =
    W ((all[j]?).bind (·.dst)) (fun t => W (look e t) (fun v => W (guardB want v) (fun b =>
      ifB b (W (opsFrom P gl call h id all (⟨d, op, ty, pos, after, none⟩ :: r) i e S) Q) (bindE (putd e d (.tuple [])) (fun e => W (opsFrom P gl call h id all r (i + 1) e S) Q))))) := ops_guard
end
end Go.Proofs.YtmicmlcfbmphfaaDoor.Ae

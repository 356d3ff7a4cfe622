/- What making, appending, cutting, reading and writing come to, kind by kind.
   Each lemma's own conditions. -/
import Derived.Test.YtmicmlcfbmphfaaAeAuto
set_option linter.unusedSimpArgs false
set_option linter.unusedVariables false
set_option linter.unnecessarySimpa false
namespace Go.Proofs.Ytmicmlcfbmphfaa.Ae
open Go

/-- A type of slices. -/
structure SlT (P : Program) (t e : TypeId) (sz B : Nat) (z : AV) : Prop where
  und : P.underlying t = some (.slice e)
  size : sizeT P e = some sz
  bytes : bytesT P e = some B
  zero : zeroT P e = some z
  zlen : z.cells.length = sz
  pos : 0 < sz ∧ 0 < B ∧ B ≤ 1048576 ∧ sz ≤ 1048576

/-- The parts of a struct put in place. -/
def buildQ (P : Program) (t : TypeId) (ps : List (Nat × AV)) (cs : List AV) : Option (List AV) :=
  match P.underlying t with
  | some (.struct fs) => buildS P fs ps cs
  | _ => none

section
variable {P : Program} {S : St} {t u e : TypeId} {sz B : Nat} {z : AV}

theorem make_sl (h : SlT P t e sz B z) {k k' : IntKind} {n c : Int} (h1 : 0 ≤ n) (h2 : n ≤ c) (h3 : c * B ≤ 211106232532992) (h4 : c < 9223372036854775808) :
    makeSliceP P S t (.int k n) (.int k' c) = some (.rs S.length 0 n.toNat sz, S ++ [.cells sz (List.replicate n.toNat z)]) := by
  have hc : c.toNat * B ≤ 211106232532992 := by
    have : ((c.toNat * B : Nat) : Int) ≤ 211106232532992 := by rw [Int.natCast_mul, Int.toNat_of_nonneg (by omega)]; exact h3
    omega
  have hp := h.pos
  simp only [makeSliceP, h.und, h.size, h.bytes, h.zero, Option.bind_some, natOf, if_neg (show ¬ n < 0 by omega), if_neg (show ¬ c < 0 by omega)]
  rw [if_pos]
  refine ⟨h.zlen, hp.1, by omega, ?_, by omega⟩
  simp only [roomOk, Bool.and_eq_true, decide_eq_true_eq]
  exact ⟨hc, hp.2.2.1⟩

theorem build_sl (h : SlT P t e sz B z) {mt : Bool} {n : Nat} {ps : List (Nat × AV)} (h1 : n ≤ 16) : buildSliceP P mt S t n ps = (fillRow sz ps (List.replicate n z)).bind fun es =>
    if mt then some (.rs S.length 0 n sz, S ++ [.cells sz es]) else some (.vs (es.map AV.weak) .exact, S) := by
  have hp := h.pos
  simp only [buildSliceP, h.und, h.size, h.zero, Option.bind_some]
  rw [if_pos]
  refine ⟨h.zlen, hp.1, ?_⟩
  have := Nat.mul_le_mul h1 hp.2.2.2
  omega

@[go_sem] theorem fillRow_nil {es : List AV} : fillRow sz [] es = some es := rfl
@[go_sem] theorem fillRow_cons {i : Nat} {v : AV} {r : List (Nat × AV)} {es : List AV} : fillRow sz ((i, v) :: r) es = if v.cells.length = sz ∧ i < es.length then fillRow sz r (es.set i v) else none := rfl

/-- What append leaves of the interpreter's state: all but the growth right that it takes. -/
def Keeps (S S' : St) (tk : Tk) : Prop := S.length ≤ S'.length ∧ ∀ b o, S[b]? = some o → (∀ t, tk = .live t → b ≠ t) → S'[b]? = some o

theorem Keeps.cells {S S' : St} {tk : Tk} (h : Keeps S S' tk) {S0 : St} (hg : Grow S0 S tk) {b sz : Nat} {es : List AV} (hb : S[b]? = some (.cells sz es)) : S'[b]? = some (.cells sz es) := by
  refine h.2 b _ hb fun t ht e => ?_
  subst ht; subst e
  have := hg.2; rw [hb] at this; cases this
theorem Keeps.map {S S' : St} {tk : Tk} (h : Keeps S S' tk) {S0 : St} (hg : Grow S0 S tk) {b : Nat} {es : List (AV × AV)} (hb : S[b]? = some (.map es)) : S'[b]? = some (.map es) := by
  refine h.2 b _ hb fun t ht e => ?_
  subst ht; subst e
  have := hg.2; rw [hb] at this; cases this

theorem Grow.set_cells {S0 S : St} {tk : Tk} {b sz : Nat} {es : List AV} {o : AObj} (h : Grow S0 S tk) (hb : S[b]? = some (.cells sz es)) : Grow S0 (S.set b o) tk := by
  cases tk with
  | live t =>
    refine ⟨h.1, ?_⟩
    rw [List.getElem?_set, if_neg]
    · exact h.2
    · intro e; subst e; have := h.2; rw [hb] at this; cases this
  | _ => exact h

/-- Two slices do not hold one growth right. -/
def Apart (tk tk' : Tk) : Prop := ∀ a, tk = .live a → tk' ≠ .live a
/-- What append to a slice that was begun behind S0 leaves. -/
structure AppR (S0 S S' : St) (tk tk' : Tk) : Prop where
  grow : Grow S0 S' tk'
  grew : Grew S0 S'
  keeps : Keeps S S' tk
  other : ∀ tk0, Grow S0 S tk0 → Apart tk0 tk → Grow S0 S' tk0 ∧ Apart tk0 tk'
theorem AppR.cells {S0 S S' : St} {tk tk' : Tk} (h : AppR S0 S S' tk tk') (hg : Grow S0 S tk) {b sz : Nat} {es : List AV} (hb : S[b]? = some (.cells sz es)) : S'[b]? = some (.cells sz es) := h.keeps.cells hg hb

/-- append to a slice that may grow. -/
theorem append_sl (h : SlT P t e sz B z) (h' : SlT P u e sz B z) {S0 : St} {es new ws : List AV} {tk : Tk} {x : AV} {Q : AV × St → Prop} (hx : elemsOf S x = some new) (hn : allSize sz new = true) (he : allSize sz es = true)
    (hroom : (es.length + new.length) * B ≤ 211106232532992) (hw : new.map AV.weak = ws) (hg : Grow S0 S tk) (hS : Grew S0 S)
    (hq : ∀ tk' S', AppR S0 S S' tk tk' → Q (.vs (es ++ ws) tk', S')) :
    W (appendT P false S t u (.vs es tk) x) Q := by
  subst hw
  have hq : ∀ tk' S', Grow S0 S' tk' → Grew S0 S' → Keeps S S' tk → (tk' = tk ∨ tk' = .live S.length) → Q (.vs (es ++ new.map AV.weak) tk', S') := by
    intro tk' S' h1 h2 h3 h4
    refine hq tk' S' ⟨h1, h2, h3, fun tk0 g a => ?_⟩
    cases tk0 with
    | live c =>
      refine ⟨⟨g.1, h3.2 c _ g.2 (fun t ht e => a c rfl (by rw [ht, e]))⟩, fun d hd => ?_⟩
      cases hd
      rcases h4 with h4 | h4
      · rw [h4]; exact a c rfl
      · rw [h4]; intro e; injection e with e; have := lt_of_get g.2; omega
    | nil => exact ⟨trivial, fun d hd => by cases hd⟩
    | exact => exact ⟨trivial, fun d hd => by cases hd⟩
    | dead => exact absurd g (by simp [Grow])
  have hp := h.pos
  simp only [appendT, h'.und]
  simp only [appendP, h.und, h.size, h.bytes, h.zero, hx, Option.bind_some]
  rw [if_neg (by simp [hn, h.zlen]; omega)]
  have hr : roomOk (es.length + new.length) B = true := by
    simp only [roomOk, Bool.and_eq_true, decide_eq_true_eq]; exact ⟨hroom, hp.2.2.1⟩
  simp only [hr, Bool.true_eq_false, if_false]
  cases new with
  | nil =>
    simp only [W_some]
    have := hq tk S hg hS ⟨Nat.le_refl _, fun _ _ h _ => h⟩ (.inl rfl)
    simpa using this
  | cons n r =>
    simp only [he, Bool.true_eq_false, if_false]
    cases tk with
    | dead => exact absurd hg (by simp [Grow])
    | live b =>
      obtain ⟨g1, g2⟩ := hg
      simp only [g2, growV, W_some]
      refine hq _ _ ⟨?_, ?_⟩ ((hS.set g1 .dead).push _) ⟨by simp, fun c o hc hne => ?_⟩ (.inr (by rw [List.length_set]))
      · rw [List.length_set]; exact hS.le
      · rw [List.getElem?_append_right (by simp)]; simp
      · rw [List.getElem?_append_left (by rw [List.length_set]; exact lt_of_get hc), List.getElem?_set, if_neg (fun h => hne b rfl h.symm)]; exact hc
    | nil =>
      simp only [growV, W_some, Bool.false_eq_true, if_false]
      refine hq _ _ ⟨hS.le, ?_⟩ (hS.push _) ⟨by simp, fun c o hc _ => (Grew.push Grew.refl _).get hc⟩ (.inr rfl)
      rw [List.getElem?_append_right (by simp)]; simp
    | exact =>
      simp only [growV, W_some, Bool.false_eq_true, if_false]
      refine hq _ _ ⟨hS.le, ?_⟩ (hS.push _) ⟨by simp, fun c o hc _ => (Grew.push Grew.refl _).get hc⟩ (.inr rfl)
      rw [List.getElem?_append_right (by simp)]; simp

/-- append to a row that may be written: it goes over into a new one. -/
theorem append_rs (h : SlT P t e sz B z) (h' : SlT P u e sz B z) {mt : Bool} {S0 : St} {b off len : Nat} {es new : List AV} {x : AV} {Q : AV × St → Prop} (hx : elemsOf S x = some new) (hn : allSize sz new = true)
    (hb : S[b]? = some (.cells sz es)) (hlen : off + len ≤ es.length)
    (hroom : (len + new.length) * B ≤ 211106232532992) (hS : Grew S0 S) (h0 : S0.length ≤ b)
    (hq : ∀ b' off' S' es', S'[b']? = some (.cells sz es') → off' + (len + new.length) ≤ es'.length → (es'.drop off').take (len + new.length) = (es.drop off).take len ++ new → Grew S0 S' → S0.length ≤ b' →
      (∀ c o, S[c]? = some o → c ≠ b → S'[c]? = some o ∧ c ≠ b') → Q (.rs b' off' (len + new.length) sz, S')) :
    W (appendT P mt S t u (.rs b off len sz) x) Q := by
  have hp := h.pos
  simp only [appendT, h'.und]
  simp only [appendP, h.und, h.size, h.bytes, h.zero, hx, Option.bind_some]
  rw [if_neg (by simp [hn, h.zlen]; omega)]
  have hr : roomOk (len + new.length) B = true := by
    simp only [roomOk, Bool.and_eq_true, decide_eq_true_eq]; exact ⟨hroom, hp.2.2.1⟩
  simp only [hr, Bool.true_eq_false, if_false]
  cases new with
  | nil =>
    simp only [W_some]
    exact hq b off S es hb hlen (by simp) hS h0 (fun c o hc hne => ⟨hc, hne⟩)
  | cons n r =>
    have hl : ((es.drop off).take len).length = len := by simp; omega
    simp only [hb]
    rw [if_pos ⟨trivial, trivial, hlen⟩, W_some]
    refine hq S.length 0 _ ((es.drop off).take len ++ (n :: r)) ?_ (by simp; omega) ?_ ((hS.set h0 .dead).push _) hS.le ?_
    · rw [List.getElem?_append_right (by simp)]; simp
    · rw [List.drop_zero, List.take_of_length_le (by simp; omega)]
    · intro c o hc hne
      refine ⟨?_, fun h => by have := lt_of_get hc; omega⟩
      rw [List.getElem?_append_left (by rw [List.length_set]; exact lt_of_get hc), List.getElem?_set, if_neg (fun h => hne h.symm)]; exact hc

/-- append, of which a row that may be written is to come. -/
theorem append_mt (h : SlT P t e sz B z) (h' : SlT P u e sz B z) {S0 : St} {es new : List AV} {tk : Tk} {x : AV} {Q : AV × St → Prop} (hx : elemsOf S x = some new) (hn : allSize sz new = true) (he : allSize sz es = true)
    (hroom : (es.length + new.length) * B ≤ 211106232532992) (htk : tk = .nil ∨ tk = .exact) (hS : Grew S0 S) (hne : new ≠ [])
    (hq : ∀ S', S' = S ++ [.cells sz (es ++ new)] → Q (.rs S.length 0 (es.length + new.length) sz, S')) :
    W (appendT P true S t u (.vs es tk) x) Q := by
  have hp := h.pos
  simp only [appendT, h'.und]
  simp only [appendP, h.und, h.size, h.bytes, h.zero, hx, Option.bind_some]
  rw [if_neg (by simp [hn, h.zlen]; omega)]
  have hr : roomOk (es.length + new.length) B = true := by
    simp only [roomOk, Bool.and_eq_true, decide_eq_true_eq]; exact ⟨hroom, hp.2.2.1⟩
  simp only [hr, Bool.true_eq_false, if_false]
  cases new with
  | nil => exact absurd rfl hne
  | cons n r =>
    simp only [he, Bool.true_eq_false, if_false]
    rcases htk with rfl | rfl
    · simp only [if_true, W_some]; exact hq _ rfl
    · simp only [if_true, W_some]; exact hq _ rfl

/-- .. of values of one kind. -/
theorem append_rsF (h : SlT P t e sz B z) (h' : SlT P u e sz B z) {mt : Bool} {S0 : St} {b off len : Nat} {α : Type} {f : α → AV} {l nl : List α} {x : AV} {Q : AV × St → Prop} (hx : elemsOf S x = some (nl.map f)) (hn : allSize sz (nl.map f) = true)
    (hb : S[b]? = some (.cells sz (l.map f))) (hlen : off + len ≤ l.length)
    (hroom : (len + nl.length) * B ≤ 211106232532992) (hS : Grew S0 S) (h0 : S0.length ≤ b)
    (hq : ∀ b' off' S' (l' : List α), S'[b']? = some (.cells sz (l'.map f)) → off' + (len + nl.length) ≤ l'.length → (l'.drop off').take (len + nl.length) = (l.drop off).take len ++ nl → Grew S0 S' → S0.length ≤ b' →
      (∀ c o, S[c]? = some o → c ≠ b → S'[c]? = some o ∧ c ≠ b') → Q (.rs b' off' (len + nl.length) sz, S')) :
    W (appendT P mt S t u (.rs b off len sz) x) Q := by
  have hp := h.pos
  simp only [appendT, h'.und]
  simp only [appendP, h.und, h.size, h.bytes, h.zero, hx, Option.bind_some]
  rw [if_neg (by simp [hn, h.zlen]; omega)]
  have hr : roomOk (len + nl.length) B = true := by
    simp only [roomOk, Bool.and_eq_true, decide_eq_true_eq]; exact ⟨hroom, hp.2.2.1⟩
  simp only [List.length_map, hr, Bool.true_eq_false, if_false]
  cases nl with
  | nil =>
    simp only [List.map_nil, W_some]
    exact hq b off S l hb hlen (by simp) hS h0 (fun c o hc hne => ⟨hc, hne⟩)
  | cons n r =>
    simp only [List.map_cons, hb]
    rw [if_pos ⟨trivial, trivial, by simpa using hlen⟩, W_some]
    have hm : ((l.map f).drop off).take len ++ (f n :: r.map f) = ((l.drop off).take len ++ (n :: r)).map f := by simp
    have hq' := hq S.length 0 (S.set b .dead ++ [.cells sz (((l.map f).drop off).take len ++ (f n :: r.map f))]) ((l.drop off).take len ++ (n :: r)) ?_ (by simp; omega) ?_ ((hS.set h0 .dead).push _) hS.le ?_
    · simpa using hq'
    · rw [List.getElem?_append_right (by simp), hm]; simp
    · rw [List.drop_zero, List.take_of_length_le (by simp; omega)]
    · intro c o hc hne
      refine ⟨?_, fun h => by have := lt_of_get hc; omega⟩
      rw [List.getElem?_append_left (by rw [List.length_set]; exact lt_of_get hc), List.getElem?_set, if_neg (fun h => hne h.symm)]; exact hc

theorem slice_rs (h : SlT P t e sz B z) {b off len : Nat} {lo hi : Option AV} {l h' : Nat} (hl : optNat 0 lo = some l) (hh : optNat len hi = some h') (h1 : l ≤ h' ∧ h' ≤ len) :
    sliceP P t (.rs b off len sz) lo hi none = some (.rs b (off + l) (h' - l) sz) := by
  simp only [sliceP, h.und, h.size, hl, hh, Option.bind_some]
  rw [if_pos ⟨h1.1, h1.2, trivial⟩]
theorem slice_vs (h : SlT P t e sz B z) {es : List AV} {tk : Tk} {lo hi : Option AV} {l h' : Nat} (he : allSize sz es = true) (hl : optNat 0 lo = some l) (hh : optNat es.length hi = some h') (h1 : l ≤ h' ∧ h' ≤ es.length) :
    sliceP P t (.vs es tk) lo hi none = some (.vs ((es.take h').drop l) (cutTk tk l h' es.length none)) := by
  simp only [sliceP, h.und, h.size, hl, hh, he, Option.bind_some, Bool.true_eq_false, if_false]
  rw [if_pos h1]
theorem cut_vI_l {l : List Int} {tk : Tk} {k : IntKind} {n : Int} (h : SlT P t e 1 B z) (h1 : 0 ≤ n) (h2 : n ≤ l.length) :
    sliceP P t (.vs (l.map (AV.int .i64)) tk) (some (.int k n)) none none = some (.vs ((l.drop n.toNat).map (AV.int .i64)) (cutTk tk n.toNat l.length l.length none)) := by
  have hs : allSize 1 (l.map (AV.int .i64)) = true := allSize_map (f := AV.int .i64) (fun _ => rfl) l
  have ho : optNat 0 (some (AV.int k n)) = some n.toNat := by simp only [optNat, natOf]; rw [if_neg (by omega)]
  rw [slice_vs h hs ho rfl (by simp; omega)]
  simp [List.take_of_length_le]
theorem cut_vI_lh {l : List Int} {tk : Tk} {k k' : IntKind} {n n' : Int} (h : SlT P t e 1 B z) (h1 : 0 ≤ n) (h2 : n ≤ n') (h3 : n' ≤ l.length) :
    sliceP P t (.vs (l.map (AV.int .i64)) tk) (some (.int k n)) (some (.int k' n')) none = some (.vs (((l.take n'.toNat).drop n.toNat).map (AV.int .i64)) (cutTk tk n.toNat n'.toNat l.length none)) := by
  have hs : allSize 1 (l.map (AV.int .i64)) = true := allSize_map (f := AV.int .i64) (fun _ => rfl) l
  have ho : optNat 0 (some (AV.int k n)) = some n.toNat := by simp only [optNat, natOf]; rw [if_neg (by omega)]
  have ho' : optNat (l.map (AV.int .i64)).length (some (AV.int k' n')) = some n'.toNat := by simp only [optNat, natOf]; rw [if_neg (by omega)]
  rw [slice_vs h hs ho ho' (by simp; omega)]
  simp
theorem optNat_int {k : IntKind} {n : Int} {d : Nat} (h : 0 ≤ n) : optNat d (some (.int k n)) = some n.toNat := by
  simp only [optNat, natOf]; rw [if_neg (by omega)]
@[go_sem] theorem optNat_none {d : Nat} : optNat d none = some d := rfl

-- reading and writing a place of a row
theorem store_row {α : Type} {f : α → AV} {b i : Nat} {l : List α} {a : α} (h : sizeT P t = some 1) (hf : ∀ a, (f a).cells = [f a]) (ho : ∀ a, (f a).one = true) (hb : S[b]? = some (.cells 1 (l.map f))) (hi : i < l.length) :
    storeP P S t (.ptr b i 0) (f a) = some (S.set b (.cells 1 ((l.set i a).map f))) := by
  obtain ⟨x, hx⟩ := get_of_lt hi
  simp only [storeP, hb, List.getElem?_map, hx, Option.map_some, Option.bind_some, h]
  rw [if_pos (by simp [hf])]
  have hm : mkElem (f x) (splice (f x).cells 0 (f a).cells) = f a := by
    have h1 : splice (f x).cells 0 (f a).cells = [f a] := by simp [splice, hf]
    rw [h1]
    have hx := hf x
    unfold mkElem
    cases hfx : f x <;> first | rfl | skip
    rename_i cs
    have := ho x
    rw [hfx] at this
    cases this
  rw [hm, List.map_set]
theorem store_agg {b o n sz : Nat} {cs : List AV} {v : AV} (hb : S[b]? = some (.cells sz [.agg cs])) (hn : sizeT P t = some n) :
    storeP P S t (.ptr b 0 o) v = if v.cells.length = n ∧ o + n ≤ cs.length then some (S.set b (.cells sz [.agg (splice cs o v.cells)])) else none := by
  simp only [storeP, hb, List.getElem?_cons_zero, Option.bind_some, hn, cells_agg]
  rfl
@[go_sem] theorem store_push {o sz : Nat} {cs : List AV} {v : AV} : storeP P (S ++ [.cells sz [.agg cs]]) t (.ptr S.length 0 o) v = (sizeT P t).bind fun n =>
    if v.cells.length = n ∧ o + n ≤ cs.length then some (S ++ [.cells sz [.agg (splice cs o v.cells)]]) else none := by
  cases hn : sizeT P t with
  | none => simp [storeP, hn]
  | some n => rw [store_agg (sz := sz) (cs := cs) (by simp) hn]; simp
@[go_sem] theorem get_pushed {o : AObj} : (S ++ [o])[S.length]? = some o := by simp
theorem store_B {b i : Nat} {l : List Bool} {a : Bool} (h : sizeT P t = some 1) (hb : S[b]? = some (rB l)) (hi : i < l.length) : storeP P S t (.ptr b i 0) (.bool a) = some (S.set b (rB (l.set i a))) :=
  store_row h (fun _ => rfl) (fun _ => rfl) hb hi
theorem store_I {b i : Nat} {l : List Int} {a : Int} (h : sizeT P t = some 1) (hb : S[b]? = some (rI l)) (hi : i < l.length) : storeP P S t (.ptr b i 0) (.int .i64 a) = some (S.set b (rI (l.set i a))) :=
  store_row h (fun _ => rfl) (fun _ => rfl) hb hi
end

theorem append_vI {P : Program} {t e : TypeId} {B : Nat} {z : AV} {S : St} (h : SlT P t e 1 B z) (hB : B = 8) {S0 : St} {es new : List Int} {tk : Tk} {x : AV} {Q : AV × St → Prop} (hx : elemsOf S x = some (new.map (AV.int .i64)))
    (hroom : es.length + new.length ≤ 2^44) (hg : Grow S0 S tk) (hS : Grew S0 S) (hq : ∀ tk' S', AppR S0 S S' tk tk' → Q (vI (es ++ new) tk', S')) :
    W (appendT P false S t t (vI es tk) x) Q := by
  refine append_sl h h hx (allSize_map (f := AV.int .i64) (fun _ => rfl) _) (allSize_map (f := AV.int .i64) (fun _ => rfl) _) (by subst hB; simp; omega) rfl hg hS fun tk' S' a => ?_
  have := hq tk' S' a
  rw [show List.map AV.weak (List.map (AV.int .i64) new) = new.map (AV.int .i64) by simp [Function.comp_def, weak_int], ← List.map_append]
  exact this
theorem append_vN {P : Program} {t e : TypeId} {B : Nat} {z : AV} {S : St} (h : SlT P t e 3 B z) (hB : B = 40) {S0 : St} {es new : List GNode} {tk : Tk} {x : AV} {Q : AV × St → Prop} (hx : elemsOf S x = some (new.map nodeV))
    (hroom : es.length + new.length ≤ 2^40) (hg : Grow S0 S tk) (hS : Grew S0 S) (hq : ∀ tk' S', AppR S0 S S' tk tk' → Q (vN (es ++ new) tk', S')) :
    W (appendT P false S t t (vN es tk) x) Q := by
  refine append_sl h h hx (allSize_map (f := nodeV) (fun _ => rfl) _) (allSize_map (f := nodeV) (fun _ => rfl) _) (by subst hB; simp; omega) rfl hg hS fun tk' S' a => ?_
  have := hq tk' S' a
  rw [show List.map AV.weak (List.map nodeV new) = new.map nodeV by simp [Function.comp_def, weak_node], ← List.map_append]
  exact this
theorem allSize_vI {l : List Int} : allSize 1 (l.map (AV.int .i64)) = true := allSize_map (f := AV.int .i64) (fun _ => rfl) l
theorem allSize_vB {l : List Bool} : allSize 1 (l.map AV.bool) = true := allSize_map (f := AV.bool) (fun _ => rfl) l
theorem allSize_vN {l : List GNode} : allSize 3 (l.map nodeV) = true := allSize_map (f := nodeV) (fun _ => rfl) l
theorem weak_vI {l : List Int} : (l.map (AV.int .i64)).map AV.weak = l.map (AV.int .i64) := by simp [Function.comp_def, weak_int]
theorem weak_vB {l : List Bool} : (l.map AV.bool).map AV.weak = l.map AV.bool := by simp [Function.comp_def, weak_bool]
theorem weak_vN {l : List GNode} : (l.map nodeV).map AV.weak = l.map nodeV := by simp [Function.comp_def, weak_node]
@[go_sem] theorem elems_vs {S : St} {es : List AV} {tk : Tk} : elemsOf S (.vs es tk) = some es := rfl
theorem elems_rs {S : St} {b off len sz : Nat} {es : List AV} (hb : S[b]? = some (.cells sz es)) (h : off + len ≤ es.length) : elemsOf S (.rs b off len sz) = some ((es.drop off).take len) := by
  simp only [elemsOf, hb]; rw [if_pos h]
attribute [go_sem] splice
end Go.Proofs.Ytmicmlcfbmphfaa.Ae

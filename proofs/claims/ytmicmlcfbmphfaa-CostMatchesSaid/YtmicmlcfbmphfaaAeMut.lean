/- A struct's slice that may be written or not, and its freezing.
   Each lemma's own conditions. -/
import Derived.Test.YtmicmlcfbmphfaaAeGen
import Derived.Test.YtmicmlcfbmphfaaAeRules
set_option linter.unusedSimpArgs false
set_option linter.unusedVariables false
set_option linter.unnecessarySimpa false
namespace Go.Proofs.Ytmicmlcfbmphfaa.Ae
open Go

theorem append_none {P : Program} {mt : Bool} {S : St} {t u e : TypeId} {sz B : Nat} {z : AV} (h : SlT P t e sz B z) (h' : SlT P u e sz B z) {es : List AV} {tk : Tk} {x : AV} (hx : elemsOf S x = some []) (hroom : es.length * B ≤ 211106232532992) :
    appendT P mt S t u (.vs es tk) x = some (.vs es tk, S) := by
  have hp := h.pos
  simp only [appendT, h'.und]
  simp only [appendP, h.und, h.size, h.bytes, h.zero, hx, Option.bind_some]
  rw [if_neg (by simp [allSize, h.zlen]; omega)]
  have hr : roomOk (es.length + ([] : List AV).length) B = true := by
    simp only [roomOk, Bool.and_eq_true, decide_eq_true_eq, List.length_nil, Nat.add_zero]; exact ⟨hroom, hp.2.2.1⟩
  simp only [hr, Bool.true_eq_false, if_false]

/-- The operands of a node that is being turned: a slice, or a row that may be written (in block b). -/
inductive KV (S : St) (ks : List Int) : Option Nat → AV → Prop where
  | vs (tk : Tk) : KV S ks none (vI ks tk)
  | rs (b off : Nat) (es : List Int) (hb : S[b]? = some (rI es)) (hl : off + ks.length ≤ es.length) (he : (es.drop off).take ks.length = ks) : KV S ks (some b) (.rs b off ks.length 1)

theorem KV.keep {S S' : St} {ks : List Int} {ob : Option Nat} {v : AV} (h : KV S ks ob v) (hs : ∀ b, ob = some b → S'[b]? = S[b]?) : KV S' ks ob v := by
  cases h with
  | vs tk => exact .vs tk
  | rs b off es hb hl he => exact .rs b off es (by rw [hs b rfl]; exact hb) hl he

theorem KV.noTup {S : St} {ks : List Int} {ob : Option Nat} {v : AV} (h : KV S ks ob v) : v.noTup = true := by cases h <;> rfl
theorem KV.cells {S : St} {ks : List Int} {ob : Option Nat} {v : AV} (h : KV S ks ob v) : v.cells = [v] := by cases h <;> rfl
theorem KV.len {P : Program} {S : St} {ks : List Int} {ob : Option Nat} {v : AV} {t e : TypeId} (h : KV S ks ob v) (ht : P.underlying t = some (.slice e)) : lenP P S t v = some (.int .i64 ks.length) := by
  cases h with
  | vs tk => simp [lenP, ht]
  | rs b off es hb hl he => simp [lenP, ht]

/-- A node's cell is frozen in place. -/
theorem freeze_node {S0 S : St} {bn o : Nat} {op imm : Int} {ks : List Int} {ob : Option Nat} {kv : AV} (hb : S[bn]? = some (.cells 3 [.agg [I op, I imm, kv]])) (hk : KV S ks ob kv) (hne : ob ≠ some bn) (hg : Grew S0 S) (h0 : S0.length ≤ bn) (h1 : ∀ b, ob = some b → S0.length ≤ b) :
    ∃ S' tk, freezeAt S (.ptr bn 0 o) = some S' ∧ S'[bn]? = some (.cells 3 [.agg [I op, I imm, vI ks tk]]) ∧ Grew S0 S' ∧ S.length = S'.length ∧ ∀ c, c ≠ bn → ob ≠ some c → S'[c]? = S[c]? := by
  cases hk with
  | vs tk =>
    refine ⟨S.set bn (.cells 3 [.agg [I op, I imm, vI ks tk]]), tk, ?_, get_set_eq hb, hg.set h0 _, by simp, fun c hc _ => get_set_ne (fun e => hc e.symm)⟩
    simp only [freezeAt, hb, List.getElem?_cons_zero, Option.bind_some, cells_agg, freezeL, Option.map_some]
    simp [mkElem]
  | rs b off es hb2 hl he =>
    have hnb : b ≠ bn := fun e => hne (by rw [e])
    have hw : List.map AV.weak (((es.map (AV.int .i64)).drop off).take ks.length) = ks.map (AV.int .i64) := by
      rw [← List.map_drop, ← List.map_take, he]; simp [Function.comp_def, weak_int]
    refine ⟨(S.set b .dead).set bn (.cells 3 [.agg [I op, I imm, vI ks .dead]]), .dead, ?_, get_set_eq (o' := .cells 3 [.agg [I op, I imm, .rs b off ks.length 1]]) (by rw [get_set_ne hnb]; exact hb), (hg.set (h1 b rfl) _).set h0 _, by simp, fun c hc hc2 => ?_⟩
    · simp only [freezeAt, hb, List.getElem?_cons_zero, Option.bind_some, cells_agg, freezeL, freeze, hb2, Option.map_some, Option.bind_some]
      rw [if_pos (by simpa using hl)]
      simp only [Option.bind_some, Option.map_some]
      rw [get_set_ne hnb, hb]
      simp only [hw]
      simp [mkElem]
    · rw [get_set_ne (fun e => hc e.symm), get_set_ne (fun e => hc2 (by rw [e]))]

/-- A place of a row of structs is written. -/
theorem store_el {P : Program} {S : St} {t : TypeId} {b i n : Nat} {es cs : List AV} {e : List AV} (hb : S[b]? = some (.cells n es)) (hi : es[i]? = some (.agg e)) (hn : sizeT P t = some n) (he : e.length = n) (hc : cs.length = n) :
    storeP P S t (.ptr b i 0) (.agg cs) = some (S.set b (.cells n (es.set i (.agg cs)))) := by
  simp only [storeP, hb, hi, Option.bind_some, hn]
  rw [if_pos ⟨hc, by show 0 + n ≤ e.length; omega⟩]
  simp only [mkElem, cells_agg]
  have : splice e 0 cs = cs := by simp [splice, List.drop_eq_nil_of_le (show e.length ≤ cs.length by omega)]
  rw [this]

theorem weak_is_node {v : AV} {n : GNode} (h : v.weak = nodeV n) : ∃ cs, v = .agg cs ∧ cs.length = 3 := by
  cases v with
  | agg cs =>
    refine ⟨cs, rfl, ?_⟩
    simp only [AV.weak, nodeV] at h
    injection h with h
    have := congrArg List.length h
    simpa using this
  | vs es tk => simp [AV.weak, AV.weak1, nodeV] at h
  | _ => simp [AV.weak, AV.weak1, nodeV] at h
theorem el_of_weak {es : List AV} {off : Nat} {ns : List GNode} {k : Nat} (h : ((es.drop off).take ns.length).map AV.weak = ns.map nodeV) (hk : k < ns.length) : ∃ cs, es[off + k]? = some (.agg cs) ∧ cs.length = 3 := by
  have h1 : (((es.drop off).take ns.length).map AV.weak)[k]? = (ns.map nodeV)[k]? := by rw [h]
  rw [List.getElem?_map, List.getElem?_map, List.getElem?_take_of_lt hk, List.getElem?_drop, List.getElem?_eq_getElem hk] at h1
  cases hv : es[off + k]? with
  | none => simp [hv] at h1
  | some v =>
    simp [hv] at h1
    obtain ⟨cs, rfl, hc⟩ := weak_is_node h1
    exact ⟨cs, rfl, hc⟩
theorem freezeV_row {S : St} {b off len sz : Nat} {es : List AV} (hb : S[b]? = some (.cells sz es)) (hl : off + len ≤ es.length) : freezeV S (.rs b off len sz) = some (.vs (((es.drop off).take len).map AV.weak) .dead, S.set b .dead) := by
  simp only [freezeV, freeze, hb]; rw [if_pos hl]
theorem set_part {es : List AV} {off len k : Nat} {v : AV} : (((es.set (off + k) v).drop off).take len).map AV.weak = (((es.drop off).take len).map AV.weak).set k v.weak := by
  rw [List.drop_set, if_neg (by omega), Nat.add_sub_cancel_left, List.take_set, List.map_set]
theorem weak_agg3 {op imm : Int} {ks : List Int} {tk : Tk} : (AV.agg [I op, I imm, vI ks tk]).weak = nodeV ⟨op, imm, ks⟩ := rfl
end Go.Proofs.Ytmicmlcfbmphfaa.Ae

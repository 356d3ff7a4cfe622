/- Each operation of the interpreter is what the model's operation comes to: append as a whole, literals, copy, maps, freezing.
   No conditions beyond those of each lemma. -/
import Derived.Test.YtmicmlcfbmphfaaDoorAeOps6
import Derived.Laws.Tables
set_option linter.unusedSimpArgs false
set_option linter.unusedVariables false
set_option linter.unnecessarySimpa false
namespace Go.Proofs.YtmicmlcfbmphfaaDoor.Ae
open Go Go.RowKit

section
variable {N0 : Nat} {S S' : St} {g : G} {w : World} {P : Program}

theorem allSize_true {sz : Nat} {es : List AV} (h : ¬ allSize sz es = false) : ∀ e ∈ es, e.cells.length = sz := allSize_iff.1 (by simpa using h)

theorem drew_inv (h : Inv N0 S g w) : Inv N0 S g w.drew ∧ Ext N0 g w g w.drew := h.drawn

theorem below_drew : Below N0 w w.drew := below_drawn

theorem append_ok (hi : Inv N0 S g w) {mt : Bool} {t u ty : TypeId} {d : TypeDesc} {s x r : AV} {s' x' : Value} (hd : P.underlying u = some d) (hni : ∀ k, d ≠ .int k) (hs : Rel N0 g w s s') (hx : Rel N0 g w x x')
    (h : appendP P mt S t s x = some (r, S')) : Made N0 S' g w P (Builtin.append_ #[t, u] ty #[s', x']) r := by
  unfold appendP at h
  split at h
  · rename_i e hu
    simp only [Option.bind_eq_some_iff] at h
    obtain ⟨sz, hsz, bytes, hby, z, hz, new, hnew, h⟩ := h
    split at h
    · simp at h
    · rename_i hcond
      simp only [not_or] at hcond
      obtain ⟨c1, c2, c3, c4⟩ := hcond
      have hws := allSize_true c1
      have c2 : z.cells.length = sz := by simpa using c2
      have hpos : 0 < sz := by omega
      have hstr : ∀ l, x = .str l → new ≠ [] → sz = 1 := by
        intro l hl hne
        subst hl
        simp [elemsOf] at hnew; subst hnew
        cases l with
        | nil => simp at hne
        | cons b r => rw [← hws (.int .u8 b.toNat) (by simp)]; rfl
      have hlx := elems_len (P := P) hi hx hnew
      obtain ⟨i1, x1⟩ := drew_inv hi
      obtain ⟨z', _, hzr, _, hzinfo⟩ := run_zero (P := P) (N0 := N0) (g := g) (w := w) hz
      have hzrun : ∀ w, (zeroValue e).run P w = .ok z' w := by
        intro w1
        obtain ⟨z2, h0, _, _, h2⟩ := run_zero (P := P) (N0 := N0) (g := g) (w := w1) hz
        rw [h2] at hzinfo; cases hzinfo; exact h0
      have hzs : z'.cells.size = sz := by rw [hzr.cells.1, c2]
      obtain ⟨arrN, hfN, hrN, hoN⟩ := first_rel (P := P) hi hx hnew hws hstr new.length (Nat.le_refl _)
      obtain ⟨arrD, hfD, hrD, hoD⟩ := first_rel (P := P) i1 (hx.mono x1) hnew hws hstr new.length (Nat.le_refl _)
      rw [List.take_length] at hrN hoN hrD hoD
      split at h
      · rename_i es tk
        split at h
        · simp at h
        · rename_i hroom0
          have hroom : roomOk (es.length + new.length) bytes = true := by simpa using hroom0
          split at h
          · -- nothing is appended
            simp at h; obtain ⟨rfl, rfl⟩ := h
            have hnil : arrN = #[] := Array.eq_empty_of_size_eq_zero (by rw [hrN.1]; rfl)
            subst hnil
            have main : ∀ A cap, es.length ≤ cap → s' = .slice A es.length cap → Made N0 S g w P (Builtin.append_ #[t, u] ty #[s', x']) (.vs es tk) := by
              intro A cap hle he
              subst he
              refine ⟨.slice A es.length cap, w, g, append_in hu hsz hd hni hlx hfN hle (fun a ha => rfl) (fun _ => rfl) ty, Below.refl _ _, Ext.refl, hi, hs⟩
            rcases Rel.of_vs hs with ⟨rfl, A, cap, rfl, _⟩ | ⟨_, c, o, cap, sz', rfl, _, hle, _⟩
            · exact main A cap (Nat.zero_le _) rfl
            · exact main _ cap hle rfl
          · rename_i n0 r0
            split at h
            · simp at h
            · rename_i hes0
              have hes := allSize_true hes0
              have hne : (n0 :: r0) ≠ [] := by simp
              have hposb : 0 < bytes ∨ es.length + (n0 :: r0).length < 9223372036854775808 := .inl (by omega)
              obtain ⟨arrO, hfO, hrO, hoO⟩ := first_rel (P := P) i1 (hs.mono x1) (show elemsOf S (.vs es tk) = some es from rfl) hes (fun s h => by cases h) es.length (Nat.le_refl _)
              rw [List.take_length] at hrO hoO
              -- a row made anew
              have anew : ∀ A cap, s' = .slice A es.length cap → ¬ es.length + (n0 :: r0).length ≤ cap → ∀ S1, Inv N0 S1 g w →
                  Made N0 (S1 ++ [.tok]) g w P (Builtin.append_ #[t, u] ty #[s', x']) (.vs (es ++ (n0 :: r0).map AV.weak) (.live S1.length)) ∧
                  Made N0 (S1 ++ [.cells sz (es ++ (n0 :: r0))]) g w P (Builtin.append_ #[t, u] ty #[s', x']) (.rs S1.length 0 (es.length + (n0 :: r0).length) sz) := by
                intro A cap he hcap S1 hi1
                subst he
                obtain ⟨newCap, hc1, hrun⟩ := append_new (d := d) hu hsz hby hzrun hd hni hlx hcap hroom hposb hfD hfO ty
                obtain ⟨i2, x2⟩ := drew_inv hi1
                constructor
                · obtain ⟨g', y1, y2, y3⟩ := append_tok e i2 hes hws hpos hne hrO hrD hoO hoD hzs hc1
                  exact ⟨_, _, g', hrun, below_drew.trans (below_pushBlk i2.le), x1.trans y1, y2, y3⟩
                · obtain ⟨g', y1, y2, y3⟩ := append_mine e i2 hes hws hrO hrD hoO hoD hzs hc1
                  exact ⟨_, _, g', hrun, below_drew.trans (below_pushBlk i2.le), x1.trans y1, y2, y3⟩
              have anew' : ∀ A cap, s' = .slice A es.length cap → ¬ es.length + (n0 :: r0).length ≤ cap →
                  (if mt = true then some (AV.rs S.length 0 (es.length + (n0 :: r0).length) sz, S ++ [AObj.cells sz (es ++ (n0 :: r0))]) else some (growV S es ((n0 :: r0).map AV.weak))) = some (r, S') →
                  Made N0 S' g w P (Builtin.append_ #[t, u] ty #[s', x']) r := by
                intro A cap he hcap h
                have := anew A cap he hcap S hi
                split at h
                · simp only [Option.some.injEq, Prod.mk.injEq] at h; obtain ⟨rfl, rfl⟩ := h; exact this.2
                · simp only [growV, Option.some.injEq, Prod.mk.injEq] at h; obtain ⟨rfl, rfl⟩ := h; exact this.1
              rcases Rel.of_vs hs with ⟨rfl, A, cap, rfl, ht⟩ | ⟨hne2, c, o, cap, sz', rfl, hs', hle, htk, hm⟩
              · -- no element before
                cases tk with
                | nil => obtain ⟨rfl, rfl⟩ := ht; exact anew' _ _ rfl (by simp) (by simpa using h)
                | exact => obtain ⟨_, rfl⟩ := ht; exact anew' _ _ rfl (by simp) (by simpa using h)
                | dead => simp at h
                | live b => exact ht.elim
              · have hzz : sz' = sz := by
                  cases es with
                  | nil => exact absurd rfl hne2
                  | cons e1 r1 => rw [← hs' e1 (by simp), hes e1 (by simp)]
                subst hzz
                cases tk with
                | nil => exact htk.elim
                | dead => simp at h
                | exact =>
                  have hc : cap = es.length := htk
                  exact anew' _ _ rfl (by rw [hc]; simp) (by simpa using h)
                | live b =>
                  simp only at h
                  split at h
                  · rename_i hb
                    simp only [growV, Option.some.injEq, Prod.mk.injEq] at h; obtain ⟨rfl, rfl⟩ := h
                    by_cases hfit : es.length + (n0 :: r0).length ≤ cap
                    · obtain ⟨k1, k2, k3, k4, k5, k6⟩ := htk
                      subst k3
                      obtain ⟨arr, tyy, m1, m2, m3⟩ := (hi.tk b hb).mem
                      rw [k2] at m1
                      obtain ⟨g', y1, y2, y3⟩ := append_here hi hb hes hws hpos hne hm ⟨k1, k2, rfl, k4, k5, k6⟩ hrN hoN hfit m1
                      have hone : ∀ v ∈ arrN.toList, oneV v = true := by
                        intro v hv
                        obtain ⟨j, hj⟩ := List.getElem?_of_mem hv
                        have hj2 : j < (flat (n0 :: r0)).length := by have := lt_of_get hj; simp at this; rw [hrN.1] at this; exact this
                        obtain ⟨v', e1, r1⟩ := hrN.2 j _ (List.getElem?_eq_getElem hj2)
                        rw [← Array.getElem?_toList, hj] at e1; cases e1
                        exact r1.oneCell (hoN _ (List.getElem_mem _))
                      have hln : arrN.toList.length = (n0 :: r0).length * sz' := by rw [Array.length_toList, hrN.1, flat_length hws]
                      have hst := run_storeCells (P := P) c tyy arrN.toList w arr (es.length * sz') 0 m1 (by
                        rw [hln, Nat.add_zero, ← Nat.add_mul, ← m2, k5]; exact Nat.mul_le_mul_right _ hfit) hone
                      refine ⟨_, _, g', append_in hu hsz hd hni hlx hfN hfit (fun a ha => by cases ha; rw [add_cell, Nat.zero_add]; exact hst) (fun ha => by cases ha) ty, ?_, y1, ?_, ?_⟩
                      · refine below_setBlk ?_
                        rw [← k2]; exact (hi.tk b hb).old
                      · exact y2
                      · simpa using y3
                    · have := (anew _ _ rfl hfit (S.set b .dead) (hi.kill b)).1
                      exact this
                  · simp at h
      · rename_i b off len rsz
        split at h
        · simp at h
        · rename_i hroom0
          have hroom : roomOk (len + new.length) bytes = true := by simpa using hroom0
          split at h
          · simp at h; obtain ⟨rfl, rfl⟩ := h
            have hnil : arrN = #[] := Array.eq_empty_of_size_eq_zero (by rw [hrN.1]; rfl)
            subst hnil
            cases hs with
            | rs b off len z cap A hb hz' hl hA =>
            exact ⟨.slice (some A) len cap, w, g, append_in hu hsz hd hni hlx hfN hl (fun a ha => rfl) (fun _ => rfl) ty, Below.refl _ _, Ext.refl, hi, .rs b off len rsz cap A hb hz' hl hA⟩
          · rename_i n0 r0
            split at h
            · rename_i bsz bes hb
              split at h
              · rename_i hc
                obtain ⟨d1, d2, d3⟩ := hc
                subst d1 d2
                simp only [Option.some.injEq, Prod.mk.injEq] at h; obtain ⟨rfl, rfl⟩ := h
                cases hs with
                | rs b off len z cap A hlt hz' hl hA =>
                have hB := hi.blk b _ bes hb
                have hposb : 0 < bytes ∨ len + (n0 :: r0).length < 9223372036854775808 := .inl (by omega)
                have hbes : ∀ x ∈ (bes.drop off).take len, x.cells.length = rsz := fun x hx => hB.len x (List.mem_of_mem_drop (List.mem_of_mem_take hx))
                have hlenes : ((bes.drop off).take len).length = len := by simp; omega
                by_cases hfit : len + (n0 :: r0).length ≤ cap
                · rcases hA with h0 | ⟨rfl, hA⟩
                  · simp at hfit; omega
                  · obtain ⟨arr, tyy, m1, m2, m3, m4⟩ := hB.mem
                    rw [hB.size] at hA hz' ⊢
                    obtain ⟨g', y1, y2, y3⟩ := append_there (_bsz := rsz) hi hb d3 rfl hws hrN hoN hfit hA m1
                    have hone : ∀ v ∈ arrN.toList, oneV v = true := by
                      intro v hv
                      obtain ⟨j, hj⟩ := List.getElem?_of_mem hv
                      have hj2 : j < (flat (n0 :: r0)).length := by have := lt_of_get hj; simp at this; rw [hrN.1] at this; exact this
                      obtain ⟨v', e1, r1⟩ := hrN.2 j _ (List.getElem?_eq_getElem hj2)
                      rw [← Array.getElem?_toList, hj] at e1; cases e1
                      exact r1.oneCell (hoN _ (List.getElem_mem _))
                    have hln : arrN.toList.length = (n0 :: r0).length * rsz := by rw [Array.length_toList, hrN.1, flat_length hws]
                    have hmul : (off + len + (n0 :: r0).length) * rsz ≤ (off + cap) * rsz := Nat.mul_le_mul_right _ (by omega)
                    have hst := run_storeCells (P := P) (g.loc b) tyy arrN.toList w arr (g.off b + off * rsz + len * rsz) 0 m1 (by
                      rw [hln]; rw [Nat.add_mul, Nat.add_mul] at hmul; omega) hone
                    exact ⟨_, _, g', append_in hu hsz hd hni hlx hfN hfit (fun a ha => by cases ha; rw [add_cell]; exact hst) (fun ha => by cases ha) ty, below_setBlk hB.old, y1, y2, y3⟩
                · obtain ⟨arrO, hfO, hrO, hoO⟩ := first_rel (P := P) i1 ((Rel.rs b off len rsz cap A hlt hz' hl hA).mono x1) (show elemsOf S (.rs b off len rsz) = some ((bes.drop off).take len) by simp [elemsOf, hb, d3]) hbes (fun s h => by cases h) len (by rw [hlenes]; exact Nat.le_refl _)
                  rw [show ((bes.drop off).take len).take len = (bes.drop off).take len by rw [List.take_take, Nat.min_self]] at hrO hoO
                  obtain ⟨newCap, hc1, hrun⟩ := append_new (d := d) hu hsz hby hzrun hd hni hlx hfit hroom hposb hfD hfO ty
                  obtain ⟨i2, x2⟩ := drew_inv (hi.kill b)
                  rw [← hlenes] at hc1
                  obtain ⟨g', y1, y2, y3⟩ := append_mine e i2 hbes hws hrO hrD hoO hoD hzs hc1
                  rw [hlenes] at y1 y2 y3
                  exact ⟨_, _, g', hrun, below_drew.trans (below_pushBlk i2.le), x1.trans y1, y2, by simpa using y3⟩
              · simp at h
            · simp at h
      · simp at h
  · simp at h

/-- Filling a part of a row, as the model does it. -/
theorem fill_part (vs : Array Value) (arr : Array Value) (off : Nat) :
    vs.zipIdx.foldl (fun cs (x : Value × Nat) => cs.setIfInBounds (off + x.2) x.1) arr = putCells arr off vs.toList := by
  have key : ∀ (l : List Value) (n : Nat) (arr : Array Value), (l.zipIdx n).foldl (fun cs (x : Value × Nat) => cs.setIfInBounds (off + x.2) x.1) arr = putCells arr (off + n) l := by
    intro l
    induction l with
    | nil => intro n arr; rfl
    | cons v r ih =>
      intro n arr
      rw [List.zipIdx_cons, List.foldl_cons, ih]
      rfl
  have := key vs.toList 0 arr
  rw [Nat.add_zero] at this
  rw [← this, ← Array.foldl_toList, Array.toList_zipIdx]

theorem putCells_rel {xs : List AV} {arr : Array Value} {v : AV} {v' : Value} {o : Nat} (h : RelL N0 g w xs arr) (hv : Rel N0 g w v v') (hfit : o + v.cells.length ≤ xs.length) :
    RelL N0 g w (splice xs o v.cells) (putCells arr o v'.cells.toList) := by
  have hl : v'.cells.toList.length = v.cells.length := by rw [Array.length_toList, hv.cells.1]
  refine ⟨by rw [putCells_size, splice_length hfit, h.1], fun j u hj => ?_⟩
  rw [splice_get hfit] at hj
  rw [putCells_get _ _ _ _ (by rw [hl, h.1]; exact hfit), hl]
  split at hj
  · rename_i hc
    obtain ⟨u', e, r⟩ := hv.cells.2 _ u hj
    exact ⟨u', by rw [if_pos hc, ← e, ← Array.getElem?_toList], r⟩
  · rename_i hc
    obtain ⟨u', e, r⟩ := h.2 j u hj
    exact ⟨u', by rw [if_neg hc]; exact e, r⟩

/-- Parts as the model sees them. -/
def PartsRel (N0 : Nat) (g : G) (w : World) : List (Nat × AV) → List (Nat × Value) → Prop
  | [], [] => True
  | (i, v) :: r, (j, u) :: s => i = j ∧ Rel N0 g w v u ∧ (∀ l, v ≠ .tuple l) ∧ PartsRel N0 g w r s
  | _, _ => False

theorem buildS_rel {fs : Array Field} {place : Nat → Option (Nat × Nat)} (hp : ∀ i f n, fs[i]? = some f → sizeT P f.type = some n → place i = some (f.offset, n)) :
    ∀ {ps : List (Nat × AV)} {ps' : List (Nat × Value)} {cs : List AV} {arr : Array Value} {out : List AV}, PartsRel N0 g w ps ps' → RelL N0 g w cs arr → (∀ v ∈ cs, v.one = true) → buildS P fs ps cs = some out →
      ∃ arr', Instr.fill place arr ps' = some arr' ∧ RelL N0 g w out arr' ∧ ∀ v ∈ out, v.one = true
  | [], [], cs, arr, out, _, h, ho, hb => by simp [buildS] at hb; subst hb; exact ⟨arr, rfl, h, ho⟩
  | [], _ :: _, _, _, _, hp, _, _, _ => hp.elim
  | _ :: _, [], _, _, _, hp, _, _, _ => hp.elim
  | (i, v) :: r, (j, u) :: s, cs, arr, out, hpr, h, ho, hb => by
    obtain ⟨rfl, hv, ht, hrest⟩ := hpr
    simp only [buildS, Option.bind_eq_some_iff] at hb
    obtain ⟨f, hf, n, hn, hb⟩ := hb
    split at hb
    · rename_i hc
      obtain ⟨c1, c2⟩ := hc
      have h1 := putCells_rel (o := f.offset) h hv (by omega)
      have ho1 := splice_one (o := f.offset) ho (hv.cells_one ht)
      obtain ⟨arr', e, r1, r2⟩ := buildS_rel hp hrest h1 ho1 hb
      refine ⟨arr', ?_, r1, r2⟩
      have hsz : u.cells.size = n := by rw [hv.cells.1, c1]
      have hsz2 : ¬ (f.offset + u.cells.size > arr.size) := by rw [hsz, h.1]; omega
      simp only [Instr.fill, hp i f n hf hn]
      rw [if_neg (by simp [hsz]; rw [h.1]; omega)]
      rw [← e, ← fill_part]
    · simp at hb

theorem fieldPlaces : ∀ (l : List Field), l.all (fun f => (sizeT P f.type).isSome) = true → ∃ pl : List (Nat × Nat), l.mapM (fun f => (P.info? f.type).map fun i => (f.offset, i.size)) = some pl ∧
    ∀ (i : Nat) (f : Field) (n : Nat), l[i]? = some f → sizeT P f.type = some n → pl[i]? = some (f.offset, n)
  | [], _ => ⟨[], rfl, fun i f n h => by simp at h⟩
  | f :: r, h => by
    simp only [List.all_cons, Bool.and_eq_true] at h
    obtain ⟨pl, h1, h3⟩ := fieldPlaces r h.2
    obtain ⟨n, hn⟩ := Option.isSome_iff_exists.1 h.1
    obtain ⟨info, hi, hs⟩ := info_of_size hn
    refine ⟨(f.offset, n) :: pl, ?_, fun i f' n' hi' hn' => ?_⟩
    · simp [List.mapM_cons, hi, h1, hs]
    · cases i with
      | zero => simp at hi'; subst hi'; rw [hn] at hn'; cases hn'; rfl
      | succ i => simp at hi'; simpa using h3 i f' n' hi' hn'

theorem buildA_rel {sz : Nat} : ∀ {ps : List (Nat × AV)} {ps' : List (Nat × Value)} {cs : List AV} {arr : Array Value} {out : List AV}, PartsRel N0 g w ps ps' → RelL N0 g w cs arr → (∀ v ∈ cs, v.one = true) → buildA sz ps cs = some out →
      ∃ arr', Instr.fill (fun i => some (i * sz, sz)) arr ps' = some arr' ∧ RelL N0 g w out arr' ∧ ∀ v ∈ out, v.one = true
  | [], [], cs, arr, out, _, h, ho, hb => by simp [buildA] at hb; subst hb; exact ⟨arr, rfl, h, ho⟩
  | [], _ :: _, _, _, _, hp, _, _, _ => hp.elim
  | _ :: _, [], _, _, _, hp, _, _, _ => hp.elim
  | (i, v) :: r, (j, u) :: s, cs, arr, out, hpr, h, ho, hb => by
    obtain ⟨rfl, hv, ht, hrest⟩ := hpr
    simp only [buildA] at hb
    split at hb
    · rename_i hc
      obtain ⟨c1, c2⟩ := hc
      have h1 := putCells_rel (o := i * sz) h hv (by omega)
      have ho1 := splice_one (o := i * sz) ho (hv.cells_one ht)
      obtain ⟨arr', e, r1, r2⟩ := buildA_rel hrest h1 ho1 hb
      refine ⟨arr', ?_, r1, r2⟩
      have hsz : u.cells.size = sz := by rw [hv.cells.1, c1]
      simp only [Instr.fill]
      rw [if_neg (by simp [hsz]; rw [h.1]; omega)]
      rw [← e, ← fill_part]
    · simp at hb

theorem zero_info {t : TypeId} {z : AV} (h : zeroT P t = some z) : ∃ i z', P.info? t = some i ∧ i.zero = some z' ∧ ofVal z' = some z := by
  unfold zeroT at h
  cases hi : P.info? t with
  | none => simp [hi] at h
  | some i =>
    simp only [hi, Option.bind_some] at h
    cases hz : i.zero with
    | none => simp [hz] at h
    | some z' => simp [hz] at h; exact ⟨i, z', rfl, hz, h⟩

theorem build_ok {t : TypeId} {ps : List (Nat × AV)} {ps' : List (Nat × Value)} {r : AV} (hp : PartsRel N0 g w ps ps') (h : buildP P t ps = some r) :
    ∃ v', (Instr.build t ps'.toArray).run P w = .ok v' w ∧ Rel N0 g w r v' := by
  simp only [buildP, Option.bind_eq_some_iff] at h
  obtain ⟨z, hz, h⟩ := h
  obtain ⟨info, z', hi, hz', hzv⟩ := zero_info hz
  have hrel := rel_val (N0 := N0) (g := g) (w := w) hzv
  have hone := rel_val_one hzv
  have hcells : RelL N0 g w z.cells z'.cells := hrel.cells
  split at h
  · rename_i fs hu
    split at h
    · rename_i hall
      simp only [Option.map_eq_some_iff] at h
      obtain ⟨out, hb, rfl⟩ := h
      obtain ⟨pl, h1, h2⟩ := fieldPlaces fs.toList hall
      obtain ⟨arr', e, r1, r2⟩ := buildS_rel (place := fun i => pl.toArray[i]?) (fun i f n hf hn => by simpa using h2 i f n (by simpa using hf) hn) hp hcells hone hb
      refine ⟨.agg arr', run_build w t _ arr' ?_, Rel.mk_agg r2 r1⟩
      simp only [Program.built, hi, hu, hz', h1]
      exact e
    · simp at h
  · rename_i n e hu
    simp only [Option.bind_eq_some_iff, Option.map_eq_some_iff] at h
    obtain ⟨sz, hsz, out, hb, rfl⟩ := h
    obtain ⟨info2, hi2, hs2⟩ := info_of_size hsz
    obtain ⟨arr', e1, r1, r2⟩ := buildA_rel hp hcells hone hb
    refine ⟨.agg arr', run_build w t _ arr' ?_, Rel.mk_agg r2 r1⟩
    simp only [Program.built, hi, hu, hz', hi2, hs2]
    exact e1
  · simp at h

theorem flat_set_splice {sz : Nat} {es : List AV} {i : Nat} {e' : AV} (hs : ∀ e ∈ es, e.cells.length = sz) (hi : i < es.length) (he : e'.cells.length = sz) :
    flat (es.set i e') = splice (flat es) (i * sz) e'.cells := by
  have hlen : (flat es).length = es.length * sz := flat_length hs
  have hb : i * sz + sz ≤ es.length * sz := by
    have : (i + 1) * sz ≤ es.length * sz := Nat.mul_le_mul_right sz hi
    rw [Nat.add_mul] at this; omega
  apply List.ext_getElem?
  intro k
  rw [flat_set hs (List.getElem?_eq_getElem hi) he, splice_get (by omega), he]

theorem fillRow_rel {sz : Nat} : ∀ {ps : List (Nat × AV)} {ps' : List (Nat × Value)} {es : List AV} {arr : Array Value} {out : List AV}, PartsRel N0 g w ps ps' → (∀ e ∈ es, e.cells.length = sz) → RelL N0 g w (flat es) arr →
    (∀ v ∈ flat es, v.one = true) → fillRow sz ps es = some out →
      ∃ arr', Instr.fill (fun i => some (i * sz, sz)) arr ps' = some arr' ∧ RelL N0 g w (flat out) arr' ∧ (∀ v ∈ flat out, v.one = true) ∧ (∀ e ∈ out, e.cells.length = sz) ∧ out.length = es.length
  | [], [], es, arr, out, _, hs, h, ho, hb => by simp [fillRow] at hb; subst hb; exact ⟨arr, rfl, h, ho, hs, rfl⟩
  | [], _ :: _, _, _, _, hp, _, _, _, _ => hp.elim
  | _ :: _, [], _, _, _, hp, _, _, _, _ => hp.elim
  | (i, v) :: r, (j, u) :: s, es, arr, out, hpr, hs, h, ho, hb => by
    obtain ⟨rfl, hv, ht, hrest⟩ := hpr
    simp only [fillRow] at hb
    split at hb
    · rename_i hc
      obtain ⟨c1, c2⟩ := hc
      have hfl := flat_set_splice hs c2 c1
      have hb' : i * sz + sz ≤ es.length * sz := by
        have : (i + 1) * sz ≤ es.length * sz := Nat.mul_le_mul_right sz c2
        rw [Nat.add_mul] at this; omega
      have hlen : (flat es).length = es.length * sz := flat_length hs
      have h1 := putCells_rel (o := i * sz) h hv (by omega)
      have ho1 := splice_one (o := i * sz) ho (hv.cells_one ht)
      rw [← hfl] at h1 ho1
      have hs1 : ∀ e ∈ es.set i v, e.cells.length = sz := fun x hx => by
        rcases List.mem_or_eq_of_mem_set hx with hx | hx
        · exact hs x hx
        · rw [hx]; exact c1
      obtain ⟨arr', e, r1, r2, r3, r4⟩ := fillRow_rel hrest hs1 h1 ho1 hb
      refine ⟨arr', ?_, r1, r2, r3, by rw [r4, List.length_set]⟩
      have hsz : u.cells.size = sz := by rw [hv.cells.1, c1]
      simp only [Instr.fill]
      rw [if_neg (by simp [hsz]; rw [h.1]; omega)]
      rw [← e, ← fill_part]
    · simp at hb

theorem buildSlice_ok (hi : Inv N0 S g w) {mt : Bool} {t : TypeId} {len : Nat} {ps : List (Nat × AV)} {ps' : List (Nat × Value)} {r : AV} (hp : PartsRel N0 g w ps ps') (h : buildSliceP P mt S t len ps = some (r, S')) :
    Made N0 S' g w P (Instr.buildSlice t len ps'.toArray) r := by
  unfold buildSliceP at h
  split at h
  · rename_i e hu
    simp only [Option.bind_eq_some_iff] at h
    obtain ⟨sz, hsz, z, hz, h⟩ := h
    split at h
    · rename_i hc
      obtain ⟨c1, c2, c3⟩ := hc
      simp only [Option.bind_eq_some_iff] at h
      obtain ⟨es, hes, h⟩ := h
      obtain ⟨z', h0, hr, ho, _⟩ := run_zero (P := P) (N0 := N0) (g := g) (w := w) hz
      have hzs : z'.cells.size = sz := by rw [hr.cells.1, c1]
      let arr := (Array.range (len * sz)).map (fun i => z'.cells[i % z'.cells.size]!)
      have harr : arr.size = len * sz := by simp [arr]
      have hlz : ∀ e ∈ List.replicate len z, e.cells.length = sz := fun e he => by rw [List.eq_of_mem_replicate he]; exact c1
      have hz1 := zero_row (n := len) hr c1 ho (arr := arr) (by rw [harr]; exact Nat.le_refl _) (fun k hk => by rw [range_map_get _ _ _ hk (by omega), hzs])
      have hflz : (flat (List.replicate len z)).length = len * sz := by rw [flat_length hlz, List.length_replicate]
      obtain ⟨arr', e1, r1, r2, r3, r4⟩ := fillRow_rel hp hlz ⟨by rw [harr, hflz], fun j v hj => (hz1 j v hj).2⟩ (fun v hv => by
        obtain ⟨j, hj⟩ := List.getElem?_of_mem hv; exact (hz1 j v hj).1) hes
      have hlen : es.length = len := by rw [r4, List.length_replicate]
      have hrun : (Instr.buildSlice t len ps'.toArray).run P w = .ok (.slice (some ⟨w.heap.size, 0, none⟩) len len) (pushBlk w (.cells arr' e (0, 0))) := by
        have hbig : ¬ (16777216 < len * sz) := by omega
        simp only [Instr.buildSlice]
        rw [run_bind_ok (run_underlying hu)]
        by_cases hc0 : len * sz = 0
        · have hae : (Array.range 0).map (fun i => (#[] : Array Value)[i % 0]!) = arr := by
            rw [Array.eq_empty_of_size_eq_zero (show arr.size = 0 by rw [harr, hc0])]
            exact Array.eq_empty_of_size_eq_zero (by simp)
          have hae2 : Array.map (fun _ => (default : Value)) (Array.range 0) = arr := by
            rw [Array.eq_empty_of_size_eq_zero (show arr.size = 0 by rw [harr, hc0])]
            exact Array.eq_empty_of_size_eq_zero (by simp)
          simp [run_sizeOf hsz, hc0, hae2, e1, newRow, newObj, Sem.run, pushBlk]
        · simp [run_sizeOf hsz, hbig, hc0, h0, newRow, newObj, pushBlk]
          have e2 : Instr.fill (fun i => some (i * sz, sz)) (Array.map (fun x => z'.cells[x % z'.cells.size]!) (Array.range (len * sz))) ps' = some arr' := e1
          simp [e2, Sem.run]
      cases mt with
      | true =>
        simp at h; obtain ⟨rfl, rfl⟩ := h
        have hfl : (flat es).length = es.length * sz := flat_length r3
        obtain ⟨g', x, h1, h2, h3, h4, h5, h6⟩ := push_mine hi e (es := es) (arr := arr') (sz := sz) r3 (by rw [r1.1, hfl]; exact Nat.le_refl _) (fun j v hj => ⟨r2 v (List.mem_of_getElem? hj), r1.2 j v hj⟩)
        refine ⟨_, _, g', hrun, below_pushBlk hi.le, x, h1, ?_⟩
        exact Rel.rs S.length 0 len sz len ⟨w.heap.size, 0, none⟩ h2 h5 (Nat.le_refl _) (.inr ⟨by rw [h3, h4, Nat.zero_mul], by rw [h4, h5, h6, r1.1, hfl, hlen]; simp⟩)
      | false =>
        simp at h; obtain ⟨rfl, rfl⟩ := h
        obtain ⟨g', x, h1, h2⟩ := push_imm hi e (cs := (flat es).map AV.weak1) (arr := arr') (fun v hv => by obtain ⟨u, hu, rfl⟩ := List.mem_map.1 hv; rw [AV.one_weak1]; exact r2 u hu)
          ⟨by rw [List.length_map]; exact r1.1, fun j v hj => by
            rw [List.getElem?_map] at hj
            cases hcc : (flat es)[j]? with
            | none => simp [hcc] at hj
            | some u =>
              simp [hcc] at hj; subst hj
              obtain ⟨v', e2, r5⟩ := r1.2 j u hcc
              exact ⟨v', e2, r5.weak1⟩⟩
        refine ⟨_, _, g', hrun, below_pushBlk hi.le, x, h1, ?_⟩
        cases es with
        | nil =>
          simp at hlen; subst hlen
          exact .vs0 .exact _ 0 ⟨rfl, rfl⟩
        | cons a rr =>
          have hl2 : ((a :: rr).map AV.weak).length = len := by rw [List.length_map]; exact hlen
          rw [← flat_weak] at h2
          have hrel := Rel.mk_vs (sz := sz) (tk := .exact) (cap := len) (by simp) (weak_len r3) (by rw [hl2]; exact Nat.le_refl _) (show TkOk g' w.heap.size 0 ((a :: rr).map AV.weak).length len sz .exact from hl2.symm) h2
          rw [hl2] at hrel
          exact hrel
    · simp at h
  · simp at h

theorem keyEq_rel {a b : AV} {a' b' : Value} {x : Bool} {d : TypeDesc} (ha : Rel N0 g w a a') (hb : Rel N0 g w b b') (h : keyEq a b = some x)
    (hk : keyD d a = true) : Instr.sameNow d a' b' = some x := by
  cases ha <;> simp only [keyEq] at h <;> try (simp at h; done)
  · cases hb <;> simp only at h <;> try (simp at h; done)
    split at h
    · rename_i hkk; subst hkk; simp at h; subst h
      cases d <;> first | (simp [keyD] at hk; done) | simp [Instr.sameNow]
    · simp at h
  · cases hb <;> simp only at h <;> try (simp at h; done)
    simp at h; subst h
    cases d <;> first | (simp [keyD] at hk; done) | simp [Instr.sameNow]
  · rename_i l s h1
    cases hb <;> simp only at h <;> try (simp at h; done)
    rename_i l2 s2 h2
    simp at h; subst h
    cases d <;> first | (simp [keyD] at hk; done) | skip
    simp only [Instr.sameNow]
    congr 1
    show (s.data == s2.data) = (l == l2)
    rw [Bool.eq_iff_iff, beq_iff_eq, beq_iff_eq, ← h1, ← h2]
    exact ⟨fun he => by rw [he], fun he => by cases s; cases s2; simpa using he⟩

/-- Where a key was found, in both. -/
def Found (N0 : Nat) (g : G) (w : World) (d : TypeDesc) (k' : Value) (es : List (AV × AV)) (es' : List MapEntry) (i : Nat) : Option (Nat × AV) → Option (Nat × Value) → Prop
  | none, none => True
  | some (n, v), some (m, v') => n = m ∧ i ≤ n ∧ (∃ (a : AV) (e : MapEntry), es[n - i]? = some (a, v) ∧ es'[n - i]? = some e ∧ e.val = v' ∧ Rel N0 g w v v' ∧ Instr.sameNow d k' e.key = some true ∧ Rel N0 g w a e.key)
  | _, _ => False

theorem findK_rel {k : AV} {k' : Value} {d : TypeDesc} (hk : Rel N0 g w k k')
    (hd : keyD d k = true) :
    ∀ {es : List (AV × AV)} {es' : List MapEntry} {i : Nat} {r : Option (Nat × AV)}, es'.length = es.length → (∀ (j : Nat) (a v : AV), es[j]? = some (a, v) → ∃ e : MapEntry, es'[j]? = some e ∧ Rel N0 g w a e.key ∧ Rel N0 g w v e.val) → findK k es i = some r →
      ∃ r', Instr.findNow d k' es' i = some r' ∧ Found N0 g w d k' es es' i r r'
  | [], [], i, r, _, _, h => by simp [findK] at h; subst h; exact ⟨none, rfl, trivial⟩
  | [], _ :: _, _, _, hl, _, _ => by simp at hl
  | _ :: _, [], _, _, hl, _, _ => by simp at hl
  | (a, v) :: es, e :: es', i, r, hl, hr, h => by
    obtain ⟨e0, he0, ha, hv⟩ := hr 0 a v rfl
    simp at he0; subst he0
    unfold findK at h
    split at h
    · rename_i hke
      simp at h; subst h
      have := keyEq_rel hk ha hke hd
      refine ⟨some (i, e.val), by simp [Instr.findNow, this], rfl, Nat.le_refl _, a, e, by simp, by simp, rfl, hv, this, ha⟩
    · rename_i hke
      have := keyEq_rel hk ha hke hd
      obtain ⟨r', h1, h2⟩ := findK_rel (es := es) (es' := es') hk hd (by simpa using hl) (fun j a v hj => by simpa using hr (j + 1) a v (by simpa using hj)) h
      refine ⟨r', by simp [Instr.findNow, this, h1], ?_⟩
      cases r with
      | none => cases r' with
        | none => trivial
        | some q => exact h2
      | some p =>
        cases r' with
        | none => exact h2
        | some q =>
          obtain ⟨e1, e2, a1, m1, e3, e4, e5⟩ := h2
          refine ⟨e1, by omega, a1, m1, ?_, ?_, e5⟩
          · rw [show p.1 - i = (p.1 - (i + 1)) + 1 by omega]; simpa using e3
          · rw [show p.1 - i = (p.1 - (i + 1)) + 1 by omega]; simpa using e4
    · simp at h

theorem keyT_check {t : TypeId} {k : AV} {k' : Value} (hk : Rel N0 g w k k') (h : keyT P t k = true) :
    ∃ d, P.underlying t = some d ∧ keyD d k = true ∧ ∀ b, (Instr.checkKey b 10000 t k').run P w = .ok () w := by
  unfold keyT at h
  split at h
  · rename_i d hu
    refine ⟨d, hu, h, fun b => ?_⟩
    have hs : ∀ v : Value, (match d, v with | .int _, .int _ _ => True | .string, .string _ => True | .bool, .bool _ => True | _, _ => False) → (Instr.checkKey b (9999 + 1) t v).run P w = .ok () w := by
      intro v hv
      unfold Instr.checkKey
      rw [run_bind_ok (run_underlying hu)]
      cases d <;> cases v <;> first | exact hv.elim | rfl
    cases hk <;> cases d <;> first | (simp [keyD] at h; done) | exact hs _ trivial
  · simp at h

theorem map_ents (hi : Inv N0 S g w) {m : AV} {m' : Value} {es : List (AV × AV)} (hm : Rel N0 g w m m') (h : entsOf S m = some es) :
    (m' = .map none ∧ es = []) ∨ (∃ b arr cl, m = .map b ∧ m' = .map (some (g.loc b)) ∧ S[b]? = some (.map es) ∧ w.heap[g.loc b]? = some (.map arr cl) ∧ arr.size = es.length ∧
      ∀ (j : Nat) (k v : AV), es[j]? = some (k, v) → ∃ e : MapEntry, arr[j]? = some e ∧ Rel N0 g w k e.key ∧ Rel N0 g w v e.val) := by
  unfold entsOf at h
  split at h
  · cases hm; simp at h; subst h; exact .inl ⟨rfl, rfl⟩
  · rename_i b
    split at h
    · rename_i es' hb
      simp at h; subst h
      cases hm with | map b hlt =>
      obtain ⟨arr, cl, h1, h2, h3⟩ := (hi.mp b es' hb).mem
      exact .inr ⟨b, arr, cl, rfl, rfl, hb, h1, h2, h3⟩
    · simp at h
  · simp at h

theorem run_getObj_map {c : Nat} {arr : Array MapEntry} {cl : Nat} (h : w.heap[c]? = some (.map arr cl)) : (getObj c).run P w = .ok (.map arr cl) w := by simp [getObj, Sem.run, h]

theorem run_setObj_map {c : Nat} {arr : Array MapEntry} {cl : Nat} {o : Obj} (h : w.heap[c]? = some (.map arr cl)) : (setObj c o).run P w = .ok () (setBlk w c o) := by simp [setObj, Sem.run, h, setBlk]

theorem lookup_ok (hi : Inv N0 S g w) {t : TypeId} {m k r : AV} {m' k' : Value} {ok : Bool} (hm : Rel N0 g w m m') (hk : Rel N0 g w k k') (h : lookupP P S t m k ok = some r) :
    ∃ v', (Instr.lookup t m' k' ok).run P w = .ok v' w ∧ Rel N0 g w r v' := by
  unfold lookupP at h
  split at h
  · rename_i kt et hu
    split at h
    · simp at h
    · rename_i hkt
      have hkt : keyT P kt k = true := by simpa using hkt
      obtain ⟨d, hd1, hd2, hd3⟩ := keyT_check (w := w) hk hkt
      simp only [Option.bind_eq_some_iff] at h
      obtain ⟨es, hes, q, hq, h⟩ := h
      have hz0 : ∀ {z : AV}, zeroT P et = some z → ∃ z', (zeroValue et).run P w = .ok z' w ∧ Rel N0 g w z z' := fun hz => by
        obtain ⟨z', h1, h2, _⟩ := run_zero (P := P) (N0 := N0) (g := g) (w := w) hz; exact ⟨z', h1, h2⟩
      have tup : ∀ {v : AV} {v' : Value} {b : Bool}, Rel N0 g w v v' → Rel N0 g w (.tuple [v, .bool b]) (.tuple #[v', .bool b]) := by
        intro v v' b hv
        refine Rel.mk_tuple ⟨rfl, fun j u hj => ?_⟩
        match j with
        | 0 => simp at hj; subst hj; exact ⟨v', rfl, hv⟩
        | 1 => simp at hj; subst hj; exact ⟨.bool b, rfl, .bool _⟩
        | j + 2 => simp at hj
      rcases map_ents hi hm hes with ⟨rfl, rfl⟩ | ⟨b, arr, cl, rfl, rfl, hb, h1, h2, h3⟩
      · simp [findK] at hq; subst hq
        simp only [Option.map_eq_some_iff] at h
        obtain ⟨z, hz, rfl⟩ := h
        obtain ⟨z', hz1, hz2⟩ := hz0 hz
        have hfk : (Instr.findKey kt k' []).run P w = .ok none w := by
          unfold Instr.findKey; rw [run_bind_ok (run_underlying hd1)]; rfl
        cases ok
        · exact ⟨z', by simp [Instr.lookup, run_underlying hu, hd3, hfk, hz1], hz2⟩
        · exact ⟨.tuple #[z', .bool false], by simp [Instr.lookup, run_underlying hu, hd3, hfk, hz1], tup hz2⟩
      · obtain ⟨q', hq1, hq2⟩ := findK_rel (es' := arr.toList) hk hd2 (by simpa using h2) (fun j a v hj => by simpa using h3 j a v hj) hq
        have hfk : (Instr.findKey kt k' arr.toList).run P w = .ok q' w := by
          unfold Instr.findKey; rw [run_bind_ok (run_underlying hd1)]
          simp only [hq1]; rfl
        have hgo := run_getObj_map (P := P) h1
        cases q with
        | none =>
          cases q' with
          | some p => exact hq2.elim
          | none =>
            simp only [Option.map_eq_some_iff] at h
            obtain ⟨z, hz, rfl⟩ := h
            obtain ⟨z', hz1, hz2⟩ := hz0 hz
            cases ok
            · exact ⟨z', by simp [Instr.lookup, run_underlying hu, hgo, hd3, hfk, hz1], hz2⟩
            · exact ⟨.tuple #[z', .bool false], by simp [Instr.lookup, run_underlying hu, hgo, hd3, hfk, hz1], tup hz2⟩
        | some p =>
          cases q' with
          | none => exact hq2.elim
          | some q =>
            obtain ⟨_, _, _, _, _, _, _, hrel, _⟩ := hq2
            simp at h; subst h
            cases ok
            · exact ⟨q.2, by simp [Instr.lookup, run_underlying hu, hgo, hd3, hfk], hrel.weak⟩
            · exact ⟨.tuple #[q.2, .bool true], by simp [Instr.lookup, run_underlying hu, hgo, hd3, hfk], tup hrel.weak⟩
  · simp at h

theorem stays {d : TypeDesc} {k' e' : Value} (h : Instr.sameNow d k' e' = some true) : (Instr.keyThatStays e' k').run P w = .ok k' w := by
  have : Instr.sameBits 10000 e' k' = true := by
    unfold Instr.sameNow at h
    split at h
    · split at h
      · rename_i hkk; subst hkk; simp at h; subst h; simp [Instr.sameBits]
      · simp at h
    · simp at h
      rename_i a b
      have hab : a.data = b.data := by
        have : (a.data == b.data) = true := h
        simpa using this
      have : a = b := by cases a; cases b; simp at hab; simp [hab]
      subst this
      simp only [Instr.sameBits]
      show (a.data == a.data) = true
      simp
    · simp at h; subst h; simp [Instr.sameBits]
    · simp at h
  unfold Instr.keyThatStays
  rw [if_pos this]; rfl

theorem mapUpdate_ok (hi : Inv N0 S g w) {t : TypeId} {m k v : AV} {m' k' v' : Value} (hm : Rel N0 g w m m') (hk : Rel N0 g w k k') (hv : Rel N0 g w v v') (h : mapUpdateP P S t m k v = some S') :
    Wrote N0 S' g w P (Instr.mapUpdate t m' k' v') := by
  unfold mapUpdateP at h
  split at h
  · rename_i kt et hu
    split at h
    · simp at h
    · rename_i hkt
      have hkt : keyT P kt k = true := by simpa using hkt
      obtain ⟨d, hd1, hd2, hd3⟩ := keyT_check (w := w) hk hkt
      split at h
      · rename_i b
        split at h
        · rename_i es hb
          simp only [Option.bind_eq_some_iff] at h
          obtain ⟨q, hq, h⟩ := h
          cases hm with | map b hlt =>
          have hM := hi.mp b es hb
          obtain ⟨arr, cl, h1, h2, h3⟩ := hM.mem
          obtain ⟨q', hq1, hq2⟩ := findK_rel (es' := arr.toList) hk hd2 (by simpa using h2) (fun j a v hj => by simpa using h3 j a v hj) hq
          have hfk : (Instr.findKey kt k' arr.toList).run P w = .ok q' w := by
            unfold Instr.findKey; rw [run_bind_ok (run_underlying hd1)]
            simp only [hq1]; rfl
          have hgo := run_getObj_map (P := P) h1
          have hltc := lt_of_heap h1
          cases q with
          | none =>
            cases q' with
            | some p => exact hq2.elim
            | none =>
              simp at h; subst h
              have hrun : (Instr.mapUpdate t (.map (some (g.loc b))) k' v').run P w = .ok () (setBlk w (g.loc b) (.map (arr.push { key := k', val := v', born := cl }) (cl + 1))) := by
                simp [Instr.mapUpdate, run_underlying hu, hgo, hd3, hfk, run_setObj_map h1]
              obtain ⟨i1, x1⟩ := hi.writeMap hb (es' := es ++ [(k, v)]) (w' := setBlk w (g.loc b) (.map (arr.push { key := k', val := v', born := cl }) (cl + 1))) (arr := arr.push { key := k', val := v', born := cl }) (t := cl + 1)
                (fun k hk => by rw [setBlk_get, if_neg (by omega)]) (by simp [setBlk]) (by rw [setBlk_get, if_pos ⟨rfl, hltc⟩]) (by simp [h2]) (fun j a u hj => by
                  rcases get_snoc hj with ⟨hl, hj⟩ | ⟨hl, hj⟩
                  · obtain ⟨e, e1, e2, e3⟩ := h3 j a u hj
                    exact ⟨e, by rw [Array.getElem?_push, if_neg (by omega)]; exact e1, e2, e3⟩
                  · cases hj
                    exact ⟨_, by rw [Array.getElem?_push, if_pos (by omega)], hk, hv⟩)
              exact ⟨_, g, hrun, below_setBlk hM.old, x1, i1⟩
          | some p =>
            cases q' with
            | none => exact hq2.elim
            | some q =>
              obtain ⟨e0, e1, a0, e, f1, f2, f3, f4, f5, f6⟩ := hq2
              simp at h; subst h
              simp only [Nat.sub_zero] at f1 f2
              have hae : arr[p.1]? = some e := by simpa using f2
              have hst : (Instr.keyThatStays e.key k').run P w = .ok k' w := stays f5
              have hrun : (Instr.mapUpdate t (.map (some (g.loc b))) k' v').run P w = .ok () (setBlk w (g.loc b) (.map (arr.modify p.1 fun e => { e with key := k', val := v' }) cl)) := by
                simp only [Instr.mapUpdate]
                rw [run_bind_ok (run_underlying hu)]
                simp only
                rw [run_bind_ok hgo]
                simp only
                rw [run_bind_ok (hd3 false), run_bind_ok hfk]
                simp only
                rw [← e0, hae]
                simp only [Option.map_some, Option.getD_some]
                rw [run_bind_ok hst]
                exact run_setObj_map h1
              obtain ⟨i1, x1⟩ := hi.writeMap hb (es' := es.set p.1 (k, v)) (w' := setBlk w (g.loc b) (.map (arr.modify p.1 fun e => { e with key := k', val := v' }) cl)) (arr := arr.modify p.1 fun e => { e with key := k', val := v' }) (t := cl)
                (fun k hk => by rw [setBlk_get, if_neg (by omega)]) (by simp [setBlk]) (by rw [setBlk_get, if_pos ⟨rfl, hltc⟩]) (by simp [h2]) (fun j a u hj => by
                  rw [List.getElem?_set] at hj
                  rw [Array.getElem?_modify]
                  split at hj
                  · rename_i hpj
                    subst hpj
                    split at hj
                    · cases hj
                      rw [if_pos rfl, hae]
                      exact ⟨_, rfl, hk, hv⟩
                    · simp at hj
                  · rename_i hpj
                    obtain ⟨e', g1, g2, g3⟩ := h3 j a u hj
                    exact ⟨e', by rw [if_neg hpj]; exact g1, g2, g3⟩)
              exact ⟨_, g, hrun, below_setBlk hM.old, x1, i1⟩
        · simp at h
      · simp at h
  · simp at h

/-- A row that is written no more. -/
theorem freeze_ok (hi : Inv N0 S g w) {v r : AV} {v' : Value} (hv : Rel N0 g w v v') (h : freeze S v = some (r, S')) : ∃ g', Ext N0 g w g' w ∧ Inv N0 S' g' w ∧ Rel N0 g' w r v' := by
  have shut : ∀ {b sz : Nat} {es : List AV}, S[b]? = some (.cells sz es) → ∃ g', Ext N0 g w g' w ∧ Inv N0 (S.set b .dead) g' w ∧ RelM N0 g' w (flat es) (g.loc b) (g.off b) := by
    intro b sz es hb
    have hB := hi.blk b sz es hb
    obtain ⟨arr, ty, h1, h2, h3, h4⟩ := hB.mem
    have hlt := lt_of_heap h1
    obtain ⟨i1, x1⟩ := (hi.kill b).turn (hi.unclaimed_blk hb) hB.old (.imm arr.size) (.inl (by rw [hB.kind]; intro h; cases h)) (w' := w) (fun k hk => rfl) (Nat.le_refl _) hlt (.inl (Nat.le_refl _)) (fun h0 he => by rw [hB.kind] at he; cases he)
    refine ⟨_, x1, i1, fun j u hj => ?_⟩
    obtain ⟨o1, u', a1, r1⟩ := h4 j u hj
    exact ⟨o1, .inr ⟨arr.size, upd_same _ _ _, (Array.getElem?_eq_some_iff.1 a1).1⟩, u', by rw [cellA_heap h1]; exact a1, r1.mono x1⟩
  have weakM : ∀ {g : G} {cs : List AV} {c o : Nat}, RelM N0 g w cs c o → RelM N0 g w (cs.map AV.weak1) c o := by
    intro g cs c o hm j u hj
    rw [List.getElem?_map] at hj
    cases hc : cs[j]? with
    | none => simp [hc] at hj
    | some u0 =>
      simp [hc] at hj; subst hj
      obtain ⟨o1, o2, u', a1, r1⟩ := hm j u0 hc
      exact ⟨by rw [AV.one_weak1]; exact o1, o2, u', a1, r1.weak1⟩
  unfold freeze at h
  split at h
  · rename_i b off len rsz
    split at h
    · rename_i sz es hb
      split at h
      · rename_i hle
        simp only [Option.some.injEq, Prod.mk.injEq] at h; obtain ⟨rfl, rfl⟩ := h
        obtain ⟨g', x, i1, hm⟩ := shut hb
        refine ⟨g', x, i1, ?_⟩
        have hB := hi.blk b sz es hb
        cases hv with
        | rs b off len z cap A hlt hz hl hA =>
        have hlen : (((es.drop off).take len).map AV.weak).length = len := by simp; omega
        rcases Nat.eq_zero_or_pos len with h0 | h0
        · subst h0
          simp only [List.take_zero, List.map_nil]
          exact .vs0 _ _ _ trivial
        · rcases hA with h1 | ⟨rfl, hA⟩
          · omega
          · have hs1 : ∀ e ∈ (es.drop off).take len, e.cells.length = sz := fun e he => hB.len e (List.mem_of_mem_drop (List.mem_of_mem_take he))
            have hm2 := weakM ((hm.drop (off * sz)).take (len * sz))
            rw [← flat_drop off hB.len, ← flat_take len (fun e he => hB.len e (List.mem_of_mem_drop he)), ← flat_weak] at hm2
            have hrel := Rel.mk_vs (sz := sz) (tk := .dead) (cap := cap) (List.ne_nil_of_length_pos (by rw [hlen]; exact h0)) (weak_len hs1) (by rw [hlen]; exact hl) trivial hm2
            rw [hlen] at hrel
            rw [hB.size]
            exact hrel
      · simp at h
    · simp at h
  · rename_i b i o
    split at h
    · rename_i sz es hb
      simp only [Option.map_eq_some_iff] at h
      obtain ⟨e, he, h⟩ := h
      simp only [Prod.mk.injEq] at h; obtain ⟨rfl, rfl⟩ := h
      obtain ⟨g', x, i1, hm⟩ := shut hb
      have hB := hi.blk b sz es hb
      cases hv with
      | ptr b i o hlt =>
      refine ⟨g', x, i1, Rel.mk_pv (weakM (fun j u hj => ?_))⟩
      rw [List.getElem?_drop] at hj
      have hlen := hB.len e (List.mem_of_getElem? he)
      have hlt2 := lt_of_get hj
      have hf := flat_get hB.len he (o + j) (by omega)
      rw [hj] at hf
      have := hm _ u hf
      rw [hB.size]
      rwa [show g.off b + (i * sz + (o + j)) = g.off b + i * sz + o + j by omega] at this
    · simp at h
  · simp at h; obtain ⟨rfl, rfl⟩ := h
    exact ⟨g, Ext.refl, hi, hv⟩

theorem freezeL_ok : ∀ (cs r : List AV) {S S' : St} {g : G} {f : Nat → Value}, Inv N0 S g w → (∀ (j : Nat) (v : AV), cs[j]? = some v → v.one = true ∧ Rel N0 g w v (f j)) → freezeL S cs = some (r, S') →
    ∃ g', Ext N0 g w g' w ∧ Inv N0 S' g' w ∧ r.length = cs.length ∧ ∀ (j : Nat) (v : AV), r[j]? = some v → v.one = true ∧ Rel N0 g' w v (f j)
  | [], r, S, S', g, f, hi, hr, h => by
    simp only [freezeL, Option.some.injEq, Prod.mk.injEq] at h; obtain ⟨rfl, rfl⟩ := h
    exact ⟨g, Ext.refl, hi, rfl, fun j v hj => by simp at hj⟩
  | c :: cs, r, S, S', g, f, hi, hr, h => by
    have rest : ∀ (v : AV) (S1 : St) (g1 : G), Ext N0 g w g1 w → Inv N0 S1 g1 w → v.one = true → Rel N0 g1 w v (f 0) → ((freezeL S1 cs).map fun (r, S) => (v :: r, S)) = some (r, S') →
        ∃ g', Ext N0 g w g' w ∧ Inv N0 S' g' w ∧ r.length = (c :: cs).length ∧ ∀ (j : Nat) (v : AV), r[j]? = some v → v.one = true ∧ Rel N0 g' w v (f j) := by
      intro v S1 g1 x1 i1 ho hv h
      simp only [Option.map_eq_some_iff] at h
      obtain ⟨⟨r1, S2⟩, h1, h2⟩ := h
      simp only [Prod.mk.injEq] at h2; obtain ⟨rfl, rfl⟩ := h2
      obtain ⟨g2, x2, i2, hl, hr2⟩ := freezeL_ok cs r1 (f := fun j => f (j + 1)) i1 (fun j v hj => by
        obtain ⟨o1, r1⟩ := hr (j + 1) v (by simpa using hj)
        exact ⟨o1, r1.mono x1⟩) h1
      refine ⟨g2, x1.trans x2, i2, by simp [hl], fun j u hj => ?_⟩
      cases j with
      | zero => simp at hj; subst hj; exact ⟨ho, hv.mono x2⟩
      | succ j => exact hr2 j u (by simpa using hj)
    obtain ⟨oc, rc⟩ := hr 0 c rfl
    cases c with
    | rs b off len sz =>
      simp only [freezeL, Option.bind_eq_some_iff] at h
      obtain ⟨⟨v, S1⟩, h1, h⟩ := h
      obtain ⟨g1, x1, i1, r1⟩ := freeze_ok hi rc h1
      refine rest v S1 g1 x1 i1 ?_ r1 h
      unfold freeze at h1
      simp only at h1
      split at h1
      · split at h1
        · simp only [Option.some.injEq, Prod.mk.injEq] at h1; obtain ⟨rfl, _⟩ := h1; rfl
        · simp at h1
      · simp at h1
    | _ => exact rest _ S g Ext.refl hi oc rc (by simpa only [freezeL] using h)

theorem freezeAt_ok (hi : Inv N0 S g w) {p : AV} {p' : Value} (hp : Rel N0 g w p p') (h : freezeAt S p = some S') : ∃ g', Ext N0 g w g' w ∧ Inv N0 S' g' w := by
  unfold freezeAt at h
  split at h
  · rename_i b i o
    split at h
    · rename_i sz0 es hb
      simp only [Option.bind_eq_some_iff] at h
      obtain ⟨e, he, ⟨cs, S1⟩, h1, h⟩ := h
      simp only at h
      have hB := hi.blk b _ es hb
      obtain ⟨arr, ty, m1, m2, m3, m4⟩ := hB.mem
      have hlen := hB.len e (List.mem_of_getElem? he)
      have hg : ∀ (j : Nat) (v : AV), e.cells[j]? = some v → v.one = true ∧ ∃ v', arr[g.off b + (i * sz0 + j)]? = some v' ∧ Rel N0 g w v v' := by
        intro j v hj
        have := flat_get hB.len he j (by have := lt_of_get hj; omega)
        rw [hj] at this
        exact m4 _ v this
      obtain ⟨f, hf⟩ := choose_cells (R := Rel N0 g w) (get := fun j => arr[g.off b + (i * sz0 + j)]?) (fun j v hj => (hg j v hj).2)
      obtain ⟨g1, x1, i1, hl, hr⟩ := freezeL_ok e.cells cs (f := f) hi (fun j v hj => ⟨(hg j v hj).1, (hf j v hj).2⟩) h1
      split at h
      · rename_i sz es1 hb1
        split at h
        · rename_i hc
          obtain ⟨c1, c2⟩ := hc
          simp at h; subst h
          have hB1 := i1.blk b sz es1 hb1
          obtain ⟨arr1, ty1, n1, n2, n3, n4⟩ := hB1.mem
          have hblt : b < g.n := by rw [hi.n]; exact lt_of_get hb
          have eloc : g1.loc b = g.loc b := x1.1.loc b hblt
          have eoff : g1.off b = g.off b := x1.1.off b hblt
          have esz : g1.sz b = g.sz b := x1.1.sz b hblt
          rw [eloc, m1] at n1
          cases n1
          have hszz : sz = sz0 := by rw [← hB1.size, esz, hB.size]
          subst hszz
          have hcs : ∀ u ∈ cs, u.one = true := fun u hu => by
            obtain ⟨j, hj⟩ := List.getElem?_of_mem hu
            exact (hr j u hj).1
          have hmc := mkElem_cells e cs hcs
          have hel : (mkElem e cs).cells.length = sz := by rw [hmc]; exact c1
          obtain ⟨k1, k2⟩ := i1.write hb1 (es' := es1.set i (mkElem e cs)) (w' := w) (arr := arr) (t := ty) (fun _ _ => rfl) rfl (by rw [eloc]; exact m1) n2
            (fun x hx => by rcases List.mem_or_eq_of_mem_set hx with hx | hx
                            · exact hB1.len x hx
                            · rw [hx]; exact hel) (by rw [List.length_set]; exact n3) (fun j u hj => by
              rw [flat_set hB1.len (List.getElem?_eq_getElem c2) hel] at hj
              split at hj
              · rename_i hr1
                rw [hmc] at hj
                obtain ⟨o1, r1⟩ := hr _ u hj
                have hje : j - i * sz < e.cells.length := by omega
                have := (hf (j - i * sz) _ (List.getElem?_eq_getElem hje)).1
                refine ⟨o1, _, ?_, r1⟩
                rw [← this, eoff]; congr 1; omega
              · exact n4 j u hj)
          exact ⟨g1, x1.trans k2, k1⟩
        · simp at h
      · simp at h
    · simp at h
  · simp at h

theorem freezeV_ok (hi : Inv N0 S g w) {v r : AV} {v' : Value} (hv : Rel N0 g w v v') (h : freezeV S v = some (r, S')) : ∃ g', Ext N0 g w g' w ∧ Inv N0 S' g' w ∧ Rel N0 g' w r v' := by
  cases v with
  | agg cs =>
    simp only [freezeV, Option.map_eq_some_iff] at h
    obtain ⟨⟨r1, S1⟩, h1, h2⟩ := h
    simp only [Prod.mk.injEq] at h2; obtain ⟨rfl, rfl⟩ := h2
    cases hv with
    | agg _ cs' f hs ho he hr =>
    obtain ⟨g', x, i1, hl, hr'⟩ := freezeL_ok cs r1 hi (fun j v hj => ⟨ho j v hj, hr j v hj⟩) h1
    refine ⟨g', x, i1, .agg _ cs' f (by rw [hs, hl]) (fun j v hj => (hr' j v hj).1) (fun j v hj => ?_) (fun j v hj => (hr' j v hj).2)⟩
    have hlt := lt_of_get hj
    rw [hl] at hlt
    exact he j _ (List.getElem?_eq_getElem hlt)
  | ptr b i o =>
    simp only [freezeV, Option.bind_eq_some_iff] at h
    obtain ⟨S1, h1, h2⟩ := h
    obtain ⟨g1, x1, i1⟩ := freezeAt_ok hi hv h1
    obtain ⟨g2, x2, i2, r2⟩ := freeze_ok i1 (hv.mono x1) h2
    exact ⟨g2, x1.trans x2, i2, r2⟩
  | _ => exact freeze_ok hi hv (by simpa only [freezeV] using h)

end
end Go.Proofs.YtmicmlcfbmphfaaDoor.Ae

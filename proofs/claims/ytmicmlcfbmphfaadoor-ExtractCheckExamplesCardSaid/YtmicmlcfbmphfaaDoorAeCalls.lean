/- The interpreter's runs are the model's: control and calls.
   No conditions beyond those of each lemma; the program follows the looks that the translation bears. -/
import Derived.Test.YtmicmlcfbmphfaaDoorAeDraw
set_option linter.unusedSimpArgs false
set_option linter.unusedVariables false
set_option linter.unnecessarySimpa false
namespace Go.Proofs.YtmicmlcfbmphfaaDoor.Ae
open Go Go.RowKit

section
variable {N0 : Nat} {S S' : St} {g g0 : G} {w w0 : World} {P : Program} {gl : Gl} {e e' : Env} {a : Act} {n : Nat}

theorem code_ok {call : CallF} (hcall : CallOk P gl call) (hmix : P.follows .mixedOrders = true) {h : Hint} {k : Nat} (c : Code) : ∀ (cur : Nat), dstOk n c = true → BodyOk P N0 gl g0 w0 n (code P gl call h k cur c) c := by
  induction c with
  | skip =>
    intro cur _ e S x e' S' a w Q h1 hat hq
    simp [code] at h1; obtain ⟨rfl, rfl, rfl⟩ := h1
    exact wp_skip (hq a w hat)
  | region id ops draw =>
    intro cur hd e S x e' S' a w Q h1 hat hq
    have hat' : At N0 gl g0 w0 n (keepOnly h.keep e) S a w := hat.sub (fun t v ht => look_keep _ e t v ht)
    have hd' : ∀ o ∈ ops.toList, ∀ t, o.dst = some t → t < n := by
      intro o ho t ht
      simp only [dstOk, List.all_eq_true] at hd
      have := hd o ho
      rw [ht] at this
      have h4 : Nat.ble (t + 1) n = true := this
      exact Nat.le_of_ble_eq_true h4
    cases draw with
    | true =>
      simp only [code, Option.map_eq_some_iff] at h1
      obtain ⟨⟨e1, S1⟩, h2, h3⟩ := h1
      simp at h3; obtain ⟨rfl, rfl, rfl⟩ := h3
      exact drawn_wp hcall hmix hd' hat' h2 hq
    | false =>
      simp only [code, Option.map_eq_some_iff] at h1
      obtain ⟨⟨e1, S1⟩, h2, h3⟩ := h1
      simp at h3; obtain ⟨rfl, rfl, rfl⟩ := h3
      refine wp_region ?_
      have := ops_wp (Q := Q) hcall hd' ops.toList 0 _ S a w (fun j => by simp) (fun o ho => ho) hat' h2 hq
      rw [Array.length_toList] at this
      rw [List.range_eq_range']
      exact this
  | seq c1 c2 ih1 ih2 =>
    intro cur hd e S x e' S' a w Q h1 hat hq
    simp only [dstOk, Bool.and_eq_true] at hd
    simp only [code, Option.bind_eq_some_iff] at h1
    obtain ⟨⟨y, e1, S1⟩, h2, h3⟩ := h1
    refine wp_seq (ih1 cur hd.1 e S y e1 S1 a w _ h2 hat (fun a' w' hat' => ?_))
    cases y with
    | normal =>
      simp only at h3
      exact ih2 cur hd.2 e1 S1 x e' S' a' w' Q h3 hat' hq
    | exit id => simp at h3; obtain ⟨rfl, rfl, rfl⟩ := h3; exact hq a' w' hat'
    | ret => simp at h3; obtain ⟨rfl, rfl, rfl⟩ := h3; exact hq a' w' hat'
  | cond cc c1 c2 ih1 ih2 =>
    intro cur hd e S x e' S' a w Q h1 hat hq
    simp only [dstOk, Bool.and_eq_true] at hd
    simp only [code, Option.bind_eq_some_iff] at h1
    obtain ⟨v, hv, h2⟩ := h1
    obtain ⟨g, k1, k2, k3, k4, k5, k6, k7⟩ := hat
    have rv := rel_opnd k4 k5 hv
    have hat : At N0 gl g0 w0 n e S a w := ⟨g, k1, k2, k3, k4, k5, k6, k7⟩
    split at h2
    · have hb : a.eval cc = .bool true := by generalize a.eval cc = z at rv; cases rv; rfl
      exact wp_cond_true hb (ih1 cur hd.1 e S x e' S' a w Q h2 hat hq)
    · have hb : a.eval cc = .bool false := by generalize a.eval cc = z at rv; cases rv; rfl
      exact wp_cond_false hb (ih2 cur hd.2 e S x e' S' a w Q h2 hat hq)
    · simp at h2
  | block id c ih =>
    intro cur hd e S x e' S' a w Q h1 hat hq
    simp only [dstOk] at hd
    simp only [code, Option.map_eq_some_iff] at h1
    obtain ⟨⟨y, e1, S1⟩, h2, h3⟩ := h1
    refine wp_block (ih id hd e S y e1 S1 a w _ h2 hat (fun a' w' hat' => ?_))
    cases y with
    | normal => simp at h3; obtain ⟨rfl, rfl, rfl⟩ := h3; exact hq a' w' hat'
    | exit id' =>
      simp only [exitOf, Exit.inBlock]
      by_cases hid : id' = id
      · simp [hid] at h3; obtain ⟨rfl, rfl, rfl⟩ := h3
        rw [if_pos hid]; exact hq a' w' hat'
      · simp [hid] at h3; obtain ⟨rfl, rfl, rfl⟩ := h3
        rw [if_neg hid]; exact hq a' w' hat'
    | ret => simp at h3; obtain ⟨rfl, rfl, rfl⟩ := h3; exact hq a' w' hat'
  | loop c ih =>
    intro cur hd e S x e' S' a w Q h1 hat hq
    simp only [dstOk] at hd
    simp only [code] at h1
    intro b kk cs
    obtain ⟨ex, a', w', q, r⟩ := loop_ok (ih cur hd) hq k e S a w h1 hat b kk cs
    exact ⟨ex, a', w', q, .of_steps (.one step_loop) r⟩
  | exit id =>
    intro cur _ e S x e' S' a w Q h1 hat hq
    simp [code] at h1; obtain ⟨rfl, rfl, rfl⟩ := h1
    exact wp_exit (hq a w hat)
  | ret =>
    intro cur _ e S x e' S' a w Q h1 hat hq
    simp [code] at h1; obtain ⟨rfl, rfl, rfl⟩ := h1
    exact wp_ret (hq a w hat)
  | _ =>
    intro cur _ e S x e' S' a w Q h1 hat hq
    simp [code] at h1

theorem look_params : ∀ (l : List AV) (i t : Nat) (v : AV), look (params i l) t = some v → i ≤ t ∧ l[t - i]? = some v
  | [], i, t, v, h => by simp [params, look] at h
  | x :: r, i, t, v, h => by
    simp only [params, look] at h
    split at h
    · rename_i hb
      have := Nat.eq_of_beq_eq_true hb; subst this
      simp at h; subst h
      exact ⟨Nat.le_refl _, by simp⟩
    · obtain ⟨h1, h2⟩ := look_params r (i + 1) t v h
      refine ⟨by omega, ?_⟩
      rw [show t - i = (t - (i + 1)) + 1 by omega]
      simpa using h2

theorem res_ok (hi : Inv N0 S g w) (he : EnvRel N0 g w e a.tmps) : ∀ {rs : List ResultVar} {vs : List AV}, resOfs P e S rs = some vs →
    ∃ l : List Value, (rs.mapM fun | .tmp t => pure (a.tmps.getD t undef) | .cell x t => (do loadVar t (← asAddr (a.tmps.getD x undef))) : Sem (List Value)).run P w = .ok l w ∧ RelL N0 g w vs l.toArray
  | [], vs, h => by simp [resOfs] at h; subst h; exact ⟨[], rfl, RelL.nil⟩
  | r :: rs, vs, h => by
    simp only [resOfs, Option.bind_eq_some_iff] at h
    obtain ⟨v, h1, vs', h2, h3⟩ := h
    simp at h3; subst h3
    obtain ⟨l, k1, k2⟩ := res_ok hi he h2
    have one : ∃ v', ((fun | .tmp t => pure (a.tmps.getD t undef) | .cell x t => (do loadVar t (← asAddr (a.tmps.getD x undef))) : ResultVar → Sem Value) r).run P w = .ok v' w ∧ Rel N0 g w v v' := by
      cases r with
      | tmp t => exact ⟨_, rfl, (he t v h1).2⟩
      | cell x t =>
        simp only [resOf, Option.bind_eq_some_iff] at h1
        obtain ⟨p, hp, h1⟩ := h1
        have rp := (he x p hp).2
        simp only [loadP, Option.bind_eq_some_iff] at h1
        obtain ⟨cs, hcs, h1⟩ := h1
        obtain ⟨c, o, ep, hc⟩ := place_rel hi rp hcs
        obtain ⟨v', k3, k4⟩ := take1_rel (P := P) hc h1
        refine ⟨v', ?_, k4⟩
        simp only [ep]
        rw [run_bind_ok (show (asAddr (.pointer (some ⟨c, o, none⟩))).run P w = .ok ⟨c, o, none⟩ w from rfl)]
        exact k3
    obtain ⟨v', k3, k4⟩ := one
    refine ⟨v' :: l, ?_, by simpa using k2.1, fun j u hj => ?_⟩
    · rw [List.mapM_cons, run_bind_ok k3, run_bind_ok k1]; rfl
    · cases j with
      | zero => simp at hj; subst hj; exact ⟨v', by simp, k4⟩
      | succ j => simp at hj; simpa using k2.2 j u hj

theorem acall_ok (hmix : P.follows .mixedOrders = true) (H : Nat → Hint) : ∀ k : Nat, CallOk P gl (acall P gl H k)
  | 0 => by intro f args S r S' h; simp [acall] at h
  | k + 1 => by
    intro f args S r S' h
    simp only [acall, Option.bind_eq_some_iff] at h
    obtain ⟨⟨fn, c⟩, hb, h⟩ := h
    refine ⟨⟨fn, c, hb⟩, fun N0 g w args' hi hg hl => ?_⟩
    obtain ⟨b1, b2, b3, b4⟩ := fbody_some hb
    simp only at h
    split at h
    · simp at h
    · rename_i hnt
      simp only [Option.bind_eq_some_iff] at h
      obtain ⟨⟨x, e1, S1⟩, h1, h2⟩ := h
      have hsz : args'.size ≤ fn.ntmps := by rw [hl.1]; omega
      refine calls_of_wp b1 b2 ?_
      have hat : At N0 gl g w fn.ntmps (params 0 args) S { tmps := args' ++ Array.replicate (fn.ntmps - args'.size) undef, defers := [] } w := by
        refine ⟨g, Below.refl _ _, Ext.refl, hi, hg, fun t v ht => ?_, by simp; omega, rfl⟩
        obtain ⟨_, h4⟩ := look_params args 0 t v ht
        simp only [Nat.sub_zero] at h4
        obtain ⟨v', e5, r5⟩ := hl.2 t v h4
        have hlt := lt_of_get h4
        have hlt' : t < args'.size := by rw [hl.1]; exact hlt
        refine ⟨by simp; omega, ?_⟩
        rw [Array.getD_eq_getD_getElem?, Array.getElem?_append_left hlt', e5]
        exact r5
      refine code_ok (acall_ok hmix H k) hmix c 0 b4 _ S x e1 S1 _ w _ h1 hat (fun a' w' hat' => ?_)
      obtain ⟨g', k1, k2, k3, k4, k5, k6, k7⟩ := hat'
      have fin : (resOfs P e1 S1 fn.results.toList).map (fun vs => (match vs with | [v] => v | vs => AV.tuple vs, S1)) = some (r, S') →
          a'.defers = [] ∧ ∃ v, (results fn a'.tmps).run P w' = .ok v w' ∧ ∃ v' g'', Ending.returned v = .returned v' ∧ Below N0 w w' ∧ Ext N0 g w g'' w' ∧ Inv N0 S' g'' w' ∧ Rel N0 g'' w' r v' := by
        intro h3
        simp only [Option.map_eq_some_iff, Prod.mk.injEq] at h3
        obtain ⟨vs, h4, h5, rfl⟩ := h3
        obtain ⟨l, m1, m2⟩ := res_ok (P := P) k3 k5 h4
        have hrun : (results fn a'.tmps).run P w' = .ok (if h : l.toArray.size = 1 then l.toArray[0] else .tuple l.toArray) w' := by
          unfold results
          rw [Array.mapM_eq_mapM_toList]
          simp only [bind_map_left]
          exact Eq.trans (run_bind_ok m1) rfl
        refine ⟨k7, _, hrun, _, g', rfl, k1, k2, k3, ?_⟩
        cases vs with
        | nil =>
          have : l = [] := List.eq_nil_of_length_eq_zero (by simpa using m2.1)
          subst this; subst h5
          exact Rel.mk_tuple m2
        | cons v vr =>
          cases vr with
          | nil =>
            subst h5
            obtain ⟨v', e6, r6⟩ := m2.2 0 v rfl
            have hs1 : l.toArray.size = 1 := m2.1
            rw [dif_pos hs1]
            have : l.toArray[0] = v' := by
              have := e6
              rw [Array.getElem?_eq_getElem (by omega)] at this
              simpa using this
            rw [this]; exact r6
          | cons u vr =>
            subst h5
            have hs1 : ¬ l.toArray.size = 1 := by rw [m2.1]; simp
            rw [dif_neg hs1]
            exact Rel.mk_tuple m2
      cases x with
      | normal => exact fin h2
      | ret => exact fin h2
      | exit id => simp at h2

end
end Go.Proofs.YtmicmlcfbmphfaaDoor.Ae

/- Each operation of the interpreter is what the model's operation comes to: slices, lengths, arithmetic, look-ups.
   No conditions beyond those of each lemma. -/
import Derived.Test.YtmicmlcfbmphfaaDoorAeOps
set_option linter.unusedSimpArgs false
set_option linter.unusedVariables false
set_option linter.unnecessarySimpa false
namespace Go.Proofs.YtmicmlcfbmphfaaDoor.Ae
open Go Go.RowKit

section
variable {N0 : Nat} {S : St} {g : G} {w : World} {P : Program}

theorem str_get {s : ByteArray} {l : List UInt8} (h : s.data.toList = l) (i : Nat) : s[i]? = l[i]? := by
  subst h
  by_cases hi : i < s.size
  · have hl : i < s.data.toList.length := by simpa using hi
    rw [List.getElem?_eq_getElem hl, getElem?_pos s i hi]
    rfl
  · rw [getElem?_neg s i hi, List.getElem?_eq_none (by simpa using hi)]

theorem str_size {s : ByteArray} {l : List UInt8} (h : s.data.toList = l) : s.size = l.length := by subst h; rfl

theorem index_ok {t : TypeId} {x ix v : AV} {x' ix' : Value} (hr : Rel N0 g w x x') (hx : Rel N0 g w ix ix') (h : indexP P t x ix = some v) :
    ∃ v', (Instr.index t x' ix').run P w = .ok v' w ∧ Rel N0 g w v v' := by
  unfold indexP at h
  split at h
  · rename_i k i
    cases hx
    split at h
    · simp at h
    · rename_i hi0
      have hi : 0 ≤ i := by omega
      split at h
      · rename_i s hu
        simp only [Option.map_eq_some_iff] at h
        obtain ⟨b, hb, rfl⟩ := h
        cases hr with
        | str l s' hs =>
          have := str_get hs i.toNat
          rw [hb] at this
          refine ⟨.int .u8 b.toNat, ?_, .int _ _⟩
          simp [Instr.index, asIntOf, run_underlying hu, hi, this]
      · rename_i n e cs hu
        simp only [Option.bind_eq_some_iff] at h
        obtain ⟨sz, hsz, h⟩ := h
        split at h
        · rename_i hn
          obtain ⟨cs', rfl, hl, ho⟩ := RelL.of_agg hr
          obtain ⟨v', h1, h2⟩ := part_rel hl ho h
          refine ⟨v', ?_, h2⟩
          have hlt : i < (n : Int) := by omega
          simp [Instr.index, asIntOf, run_underlying hu, hi, hlt, run_sizeOf hsz, h1]
        · simp at h
      · simp at h
  · simp at h

theorem natOf_rel {a : AV} {v : Value} {n : Nat} (hr : Rel N0 g w a v) (h : natOf a = some n) : ∃ k, v = .int k (n : Int) := by
  unfold natOf at h
  split at h
  · rename_i k i
    cases hr
    split at h
    · simp at h
    · simp at h; exact ⟨k, by congr 1; omega⟩
  · simp at h

theorem bound_run {k : IntKind} {n m : Nat} {code : BoundsCode} (h : n ≤ m) : (Instr.sliceBound (.int k (n : Int)) m code).run P w = .ok n w := by
  have : (n : Int) ≤ m := by omega
  simp [Instr.sliceBound, asIntOf, this]

def OptRel (N0 : Nat) (g : G) (w : World) : Option AV → Option Value → Prop
  | none, none => True
  | some a, some v => Rel N0 g w a v
  | _, _ => False

/-- The bounds of a slice expression without a third index, where the end is known to lie in it. -/
theorem bounds_run {lo hi : Option AV} {lo' hi' : Option Value} {l h len cap : Nat} {b : Bool} (rl : OptRel N0 g w lo lo') (rh : OptRel N0 g w hi hi')
    (e1 : optNat len hi = some h) (e2 : optNat 0 lo = some l) (h1 : l ≤ h) (h2 : h ≤ len) (h3 : len ≤ cap) :
    (Instr.sliceBounds b len cap lo' hi' none).run P w = .ok (l, h, cap) w := by
  unfold Instr.sliceBounds
  cases hi with
  | none =>
    simp [optNat] at e1; subst e1
    cases hi' with
    | some v => exact rh.elim
    | none =>
      cases lo with
      | none =>
        cases lo' with
        | none => simp [optNat] at e2; subst e2; simp
        | some v => exact rl.elim
      | some b =>
        cases lo' with
        | none => exact rl.elim
        | some u =>
          obtain ⟨k2, rfl⟩ := natOf_rel rl e2
          simp [bound_run h1]
  | some a =>
    cases hi' with
    | none => exact rh.elim
    | some v =>
      obtain ⟨k1, rfl⟩ := natOf_rel rh e1
      cases lo with
      | none =>
        cases lo' with
        | none =>
          simp [optNat] at e2; subst e2
          simp [bound_run (Nat.le_trans h2 h3)]
        | some v => exact rl.elim
      | some b =>
        cases lo' with
        | none => exact rl.elim
        | some u =>
          obtain ⟨k2, rfl⟩ := natOf_rel rl e2
          simp [bound_run (Nat.le_trans h2 h3), bound_run h1]

theorem bounds3_run {lo hi : Option AV} {lo' hi' : Option Value} {k : IntKind} {l h m len cap : Nat} (rl : OptRel N0 g w lo lo') (rh : OptRel N0 g w hi hi')
    (e1 : optNat len hi = some h) (e2 : optNat 0 lo = some l) (hhi : hi.isSome = true) (h1 : l ≤ h) (h2 : h ≤ m) (h3 : m ≤ cap) :
    (Instr.sliceBounds true len cap lo' hi' (some (.int k (m : Int)))).run P w = .ok (l, h, m) w := by
  unfold Instr.sliceBounds
  cases hi with
  | none => simp at hhi
  | some a =>
    cases hi' with
    | none => exact rh.elim
    | some v =>
      obtain ⟨k1, rfl⟩ := natOf_rel rh e1
      cases lo with
      | none =>
        cases lo' with
        | none =>
          simp [optNat] at e2; subst e2
          simp [bound_run h3, bound_run h2]
        | some v => exact rl.elim
      | some b =>
        cases lo' with
        | none => exact rl.elim
        | some u =>
          obtain ⟨k2, rfl⟩ := natOf_rel rl e2
          simp [bound_run h3, bound_run h2, bound_run h1]

theorem allSize_iff {sz : Nat} : ∀ {es : List AV}, allSize sz es = true ↔ ∀ e ∈ es, e.cells.length = sz
  | [] => by simp [allSize]
  | e :: r => by
    unfold allSize
    split
    · rename_i h
      have h' := Nat.eq_of_beq_eq_true h
      rw [allSize_iff (es := r)]; simp [h']
    · rename_i h
      have h' := Nat.ne_of_beq_eq_false h
      simp [h']

theorem mul_le_of {a b c : Nat} (h : a ≤ b) : a * c ≤ b * c := Nat.mul_le_mul_right c h

/-- A part of a slice that nobody writes. -/
theorem cut_rel {es : List AV} {tk : Tk} {x' : Value} {sz l h : Nat} (hr : Rel N0 g w (.vs es tk) x') (hs : ∀ e ∈ es, e.cells.length = sz) (h1 : l ≤ h) (h2 : h ≤ es.length) :
    ∃ A cap, x' = .slice A es.length cap ∧ es.length ≤ cap ∧
      Rel N0 g w (.vs ((es.take h).drop l) (cutTk tk l h es.length none)) (.slice (if cap = l then A else A.map (·.add (l * sz))) (h - l) (cap - l)) ∧
      (∀ m, h ≤ m → m ≤ es.length → Rel N0 g w (.vs ((es.take h).drop l) (cutTk tk l h es.length (some m))) (.slice (if m = l then A else A.map (·.add (l * sz))) (h - l) (m - l))) := by
  rcases Rel.of_vs hr with ⟨rfl, A, cap, rfl, ht⟩ | ⟨hne, c, o, cap, sz', rfl, hs', hcap, htk, hm⟩
  · have e1 : l = 0 := by simp at h2; omega
    have e2 : h = 0 := by simp at h2; omega
    subst e1 e2
    refine ⟨A, cap, rfl, by simp, ?_, fun m hm1 hm2 => ?_⟩
    · simp only [cutTk, if_true, List.take_nil, List.drop_nil, Nat.sub_self, Nat.zero_mul, Nat.sub_zero]
      refine .vs0 _ _ _ ?_
      cases tk <;> first | (simp only [Tk0Ok] at ht ⊢; done) | trivial | (obtain ⟨rfl, rfl⟩ := ht; exact ⟨by simp, rfl⟩)
    · simp at hm2; subst hm2
      simp only [cutTk, if_true, List.take_nil, List.drop_nil, Nat.sub_self]
      refine .vs0 _ _ _ ?_
      cases tk <;> first | trivial | (obtain ⟨rfl, rfl⟩ := ht; exact ⟨rfl, rfl⟩)
  · have hzz : sz' = sz := by
      cases es with
      | nil => exact absurd rfl hne
      | cons e r => rw [← hs' e (by simp), hs e (by simp)]
    subst hzz
    have hlen : ((es.take h).drop l).length = h - l := by simp; omega
    refine ⟨some ⟨c, o, none⟩, cap, rfl, hcap, ?_⟩
    have main : ∀ (tk' : Tk) (m : Nat), h ≤ m → (l = h → ∀ A, Tk0Ok A (m - l) tk' ∨ tk' = .dead) → (l < h → TkOk g c (o + l * sz') (h - l) (m - l) sz' tk') →
        Rel N0 g w (.vs ((es.take h).drop l) tk') (.slice (if m = l then some ⟨c, o, none⟩ else (some (⟨c, o, none⟩ : Addr)).map (·.add (l * sz'))) (h - l) (m - l)) := by
      intro tk' m hm' h0 hk
      rcases Nat.eq_or_lt_of_le h1 with he | hlt
      · have : (es.take h).drop l = [] := List.eq_nil_of_length_eq_zero (by rw [hlen]; omega)
        rw [this, show h - l = 0 by omega]
        refine .vs0 _ _ _ ?_
        rcases h0 he (if m = l then some ⟨c, o, none⟩ else (some (⟨c, o, none⟩ : Addr)).map (·.add (l * sz'))) with hh | hh
        · exact hh
        · rw [hh]; trivial
      · rw [if_neg (by omega)]
        simp only [Option.map_some, add_cell]
        rw [← hlen]
        refine Rel.mk_vs (sz := sz') (List.ne_nil_of_length_pos (by rw [hlen]; omega)) (fun e he => hs' e (List.mem_of_mem_take (List.mem_of_mem_drop he))) (by rw [hlen]; omega) (by rw [hlen]; exact hk hlt) ?_
        rw [flat_drop l (fun e he => hs' e (List.mem_of_mem_take he)), flat_take h hs']
        exact (hm.take _).drop _
    refine ⟨main _ _ (by omega) ?_ ?_, fun m hm1 hm2 => main _ m hm1 ?_ ?_⟩
    · intro he A
      subst he
      simp only [cutTk, if_true]
      cases tk <;> first | exact htk.elim | exact .inr rfl
    · intro hlt
      simp only [cutTk, if_neg (show ¬ l = h by omega)]
      by_cases hh : h = es.length
      · subst hh
        simp only [if_true]
        cases tk with
        | nil => exact htk.elim
        | exact => simp only [TkOk] at htk ⊢; omega
        | dead => trivial
        | live t =>
          by_cases hl : l = 0
          · subst hl; simp only [if_true]; simpa using htk
          · simp only [if_neg hl]; trivial
      · simp only [if_neg hh]; trivial
    · intro he A
      subst he
      simp only [cutTk, if_true]
      cases tk <;> first | exact htk.elim | exact .inr rfl
    · intro hlt
      simp only [cutTk, if_neg (show ¬ l = h by omega)]
      by_cases hh : h = m
      · subst hh; simp only [if_true]; rfl
      · simp only [if_neg hh]; trivial

theorem slice_run {t e : TypeId} {sz : Nat} {A : Option Addr} {len cap l h m : Nat} {lo hi mx : Option Value} (hu : P.underlying t = some (.slice e)) (hsz : sizeT P e = some sz)
    (hb : (Instr.sliceBounds true len cap lo hi mx).run P w = .ok (l, h, m) w) :
    (Instr.sliceAt t (.slice A len cap) lo hi mx).run P w = .ok (.slice (if m = l then A else A.map (·.add (l * sz))) (h - l) (m - l)) w := by
  simp [Instr.sliceAt, Instr.slice, run_underlying hu, hb, run_sizeOf hsz]

theorem slice_ok {t : TypeId} {x v : AV} {x' : Value} {lo hi mx : Option AV} {lo' hi' mx' : Option Value} (hr : Rel N0 g w x x') (rl : OptRel N0 g w lo lo') (rh : OptRel N0 g w hi hi')
    (rm : OptRel N0 g w mx mx') (h : sliceP P t x lo hi mx = some v) : ∃ v', (Instr.sliceAt t x' lo' hi' mx').run P w = .ok v' w ∧ Rel N0 g w v v' := by
  unfold sliceP at h
  split at h
  · rename_i n e b off m asz hu
    split at h
    · simp at h
    · cases mx' with
      | some _ => exact rm.elim
      | none =>
        simp only [Option.bind_eq_some_iff] at h
        obtain ⟨sz, hsz, hh, e1, l, e2, h⟩ := h
        split at h
        · rename_i hc
          simp at h; subst h
          cases hr with
          | aptr b off n' z hb hz ht =>
            obtain ⟨c1, c2, c3, c4⟩ := hc
            subst c4 c3
            have hb' := bounds_run (P := P) (b := false) (cap := n) rl rh e1 e2 c1 c2 (Nat.le_refl _)
            refine ⟨.slice (some (if n = l then ⟨g.loc b, g.off b + off * g.sz b, none⟩ else ⟨g.loc b, g.off b + (off + l) * g.sz b, none⟩)) (hh - l) (n - l), ?_, ?_⟩
            · simp [Instr.sliceAt, run_underlying hu, hb', run_sizeOf hsz, Instr.sureAddr, add_cell, ← hz, Nat.add_mul, Nat.add_assoc]
            · refine .rs b (off + l) (hh - l) asz (n - l) _ hb hz (by omega) ?_
              by_cases hnl : n = l
              · exact .inl (by omega)
              · refine .inr ⟨if_neg hnl, ?_⟩
                rw [hz, show off + l + (n - l) = off + n by omega]; exact ht
        · simp at h
  · rename_i e es tk hu
    simp only [Option.bind_eq_some_iff] at h
    obtain ⟨sz, hsz, h⟩ := h
    split at h
    · simp at h
    · rename_i has
      have hs := allSize_iff.1 (by simpa using has : allSize sz es = true)
      simp only [Option.bind_eq_some_iff] at h
      obtain ⟨hh, e1, l, e2, h⟩ := h
      split at h
      · split at h
        · rename_i hc
          simp at h; subst h
          cases mx' with
          | some _ => exact rm.elim
          | none =>
            obtain ⟨A, cap, rfl, hcap, h3, _⟩ := cut_rel hr hs hc.1 hc.2
            exact ⟨_, slice_run hu hsz (bounds_run rl rh e1 e2 hc.1 hc.2 hcap), h3⟩
        · simp at h
      · rename_i mv
        simp only [Option.bind_eq_some_iff] at h
        obtain ⟨m, e3, h⟩ := h
        split at h
        · rename_i hc
          simp at h; subst h
          cases mx' with
          | none => exact rm.elim
          | some mv' =>
            obtain ⟨k, rfl⟩ := natOf_rel rm e3
            obtain ⟨c1, c2, c3, c4⟩ := hc
            obtain ⟨A, cap, rfl, hcap, _, h3⟩ := cut_rel hr hs c1 (Nat.le_trans c2 c3)
            exact ⟨_, slice_run hu hsz (bounds3_run rl rh e1 e2 c4 c1 c2 (Nat.le_trans c3 hcap)), h3 m c2 c3⟩
        · simp at h
  · rename_i e b off len rsz hu
    split at h
    · simp at h
    · cases mx' with
      | some _ => exact rm.elim
      | none =>
        simp only [Option.bind_eq_some_iff] at h
        obtain ⟨sz, hsz, hh, e1, l, e2, h⟩ := h
        split at h
        · rename_i hc
          simp at h; subst h
          obtain ⟨c1, c2, c3⟩ := hc
          subst c3
          cases hr with
          | rs b off len z cap A hb hz hl hA =>
            refine ⟨_, slice_run hu hsz (bounds_run rl rh e1 e2 c1 c2 hl), ?_⟩
            by_cases hnl : cap = l
            · rw [if_pos hnl]
              exact .rs b (off + l) (hh - l) rsz (cap - l) A hb hz (by omega) (.inl (by omega))
            · rw [if_neg hnl]
              rcases hA with h0 | ⟨rfl, hA⟩
              · omega
              · simp only [Option.map_some, add_cell]
                refine .rs b (off + l) (hh - l) rsz (cap - l) _ hb hz (by omega) (.inr ⟨?_, ?_⟩)
                · rw [← hz, Nat.add_assoc, ← Nat.add_mul]
                · rw [show off + l + (cap - l) = off + cap by omega]; exact hA
        · simp at h
  · rename_i s hu
    split at h
    · simp at h
    · cases mx' with
      | some _ => exact rm.elim
      | none =>
        simp only [Option.bind_eq_some_iff] at h
        obtain ⟨hh, e1, l, e2, h⟩ := h
        split at h
        · rename_i hc
          simp at h; subst h
          cases hr with
          | str _ s' hs =>
            have hsz : s'.size = s.length := str_size hs
            have hb := bounds_run (P := P) (b := false) (cap := s'.size) (len := s'.size) rl rh (by rw [hsz]; exact e1) e2 hc.1 (by rw [hsz]; exact hc.2) (Nat.le_refl _)
            refine ⟨.string (s'.extract l hh), ?_, .str _ _ ?_⟩
            · simp [Instr.sliceAt, Instr.slice, run_underlying hu, hb]
            · subst hs
              rw [ByteArray.data_extract, Array.toList_extract, List.extract_eq_take_drop, List.drop_take]
        · simp at h
  · simp at h

end
end Go.Proofs.YtmicmlcfbmphfaaDoor.Ae

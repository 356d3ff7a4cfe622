/- Each operation of the interpreter is what the model's operation comes to: the binary operators, conversions, look-ups, building.
   No conditions beyond those of each lemma. -/
import Derived.Test.YtmicmlcfbmphfaaDoorAeOps3
set_option linter.unusedSimpArgs false
set_option linter.unusedVariables false
set_option linter.unnecessarySimpa false
namespace Go.Proofs.YtmicmlcfbmphfaaDoor.Ae
open Go Go.RowKit

section
variable {N0 : Nat} {S : St} {g : G} {w : World} {P : Program}

theorem noIface {v : AV} {v' : Value} (h : Rel N0 g w v v') : v' ≠ .nilIface := by cases h <;> simp

theorem str_data {s : ByteArray} {l : List UInt8} (h : s.data.toList = l) : s.toList = l := by rw [toList_eq, h]

theorem noAgg {d : TypeDesc} {v : AV} {v' : Value} (h : Rel N0 g w v v') (hf : fitT d v = true) : ∀ cs, v' ≠ .agg cs := by
  cases h <;> first | (intro cs hc; cases hc; done) | (cases d <;> simp [fitT] at hf)

theorem noAgg2 {d : TypeDesc} {v : AV} {v' : Value} (h : Rel N0 g w v v') (hf : nilT d v = true) : ∀ cs, v' ≠ .agg cs := by
  cases h <;> first | (intro cs hc; cases hc; done) | (cases d <;> simp [nilT] at hf)

theorem eqlP_noAgg {t : TypeId} {x y : AV} {x' : Value} {b : Bool} (hx : Rel N0 g w x x') (h : eqlP P t x y = some b) : ∀ cs, x' ≠ .agg cs := by
  unfold eqlP at h
  split at h
  · split at h
    · cases hx; intro cs hc; cases hc
    · split at h
      · rename_i hc
        simp only [Bool.and_eq_true] at hc
        exact noAgg hx hc.2
      · split at h
        · rename_i hc
          simp only [Bool.and_eq_true] at hc
          exact noAgg2 hx hc.1
        · simp at h
  · simp at h

/-- '==' and '!=' of values that are neither integers nor strings come to Go's '=='. -/
theorem binOp_eql {t : TypeId} {x y : AV} {x' y' : Value} (hx : Rel N0 g w x x') (hy : Rel N0 g w y y') (hi : ∀ k a k' b, ¬ (x = .int k a ∧ y = .int k' b)) (hs : ∀ a b, ¬ (x = .str a ∧ y = .str b)) :
    Go.binOp .eql t x' y' = (do pure (.bool (← Op.equal t x' y'))) ∧ Go.binOp .neq t x' y' = (do pure (.bool (!(← Op.equal t x' y')))) := by
  cases hx <;> cases hy <;> first
    | exact ⟨rfl, rfl⟩
    | exact absurd ⟨rfl, rfl⟩ (hi _ _ _ _)
    | exact absurd ⟨rfl, rfl⟩ (hs _ _)

theorem bin_ok {op : BinOp} {t : TypeId} {a b : Operand} {x y v : AV} {x' y' : Value} (hx : Rel N0 g w x x') (hy : Rel N0 g w y y') (h : binP P op t x y = some v) :
    ∃ v', (do eqGuard op t a b x' y'; Go.binOp op t x' y' : Sem Value).run P w = .ok v' w ∧ Rel N0 g w v v' := by
  unfold binP at h
  split at h
  · rename_i k i k' j
    cases hx; cases hy
    rw [run_bind_ok (guard_int (by intro cs hc; cases hc) (by simp))]
    split at h
    · obtain ⟨v', h1, h2⟩ := shift_ok (P := P) (N0 := N0) (g := g) (w := w) (k' := k') (.inl rfl) h
      exact ⟨v', h1 t, h2⟩
    · obtain ⟨v', h1, h2⟩ := shift_ok (P := P) (N0 := N0) (g := g) (w := w) (k' := k') (.inr rfl) h
      exact ⟨v', h1 t, h2⟩
    · rename_i h1 h2
      split at h
      · rename_i hk
        subst hk
        obtain ⟨v', h3, h4⟩ := intBin_ok (P := P) (N0 := N0) (g := g) (w := w) ⟨fun e => h1 e, fun e => h2 e⟩ h
        exact ⟨v', h3 t, h4⟩
      · simp at h
  · rename_i s1 s2
    cases hx with
    | str _ a hs1 =>
    cases hy with
    | str _ b hs2 =>
    rw [run_bind_ok (guard_int (by intro cs hc; cases hc) (by simp))]
    split at h
    · simp at h; subst h
      refine ⟨.bool (s1 == s2), ?_, .bool _⟩
      simp [Go.binOp, Op.stringOp, str_data hs1, str_data hs2]
    · simp at h; subst h
      refine ⟨.bool (!(s1 == s2)), ?_, .bool _⟩
      simp [Go.binOp, Op.stringOp, str_data hs1, str_data hs2]
    · split at h
      · rename_i hlt
        simp at h; subst h
        refine ⟨.string (a ++ b), ?_, .str _ _ ?_⟩
        · have : ¬ ((a.size + b.size : Nat) : Int) > IntKind.i64.max := by
            rw [str_size hs1, str_size hs2]
            have : IntKind.i64.max = 9223372036854775807 := by decide
            rw [this]; omega
          simp only [Go.binOp, Op.stringOp, this, if_false]
          rfl
        · subst hs1 hs2
          simp
      · simp at h
    · simp at h
  · rename_i h1 h2
    split at h
    · simp only [Option.map_eq_some_iff] at h
      obtain ⟨b', hb, rfl⟩ := h
      rw [run_bind_ok (guard_int (eqlP_noAgg hx hb) (noIface hx)), (binOp_eql hx hy (fun k a k' b hc => h1 k a k' b hc.1 hc.2) (fun a b hc => h2 a b hc.1 hc.2)).1, run_bind_ok (eql_ok hx hy hb)]
      exact ⟨.bool b', rfl, .bool _⟩
    · simp only [Option.map_eq_some_iff] at h
      obtain ⟨b', hb, rfl⟩ := h
      rw [run_bind_ok (guard_int (eqlP_noAgg hx hb) (noIface hx)), (binOp_eql hx hy (fun k a k' b hc => h1 k a k' b hc.1 hc.2) (fun a b hc => h2 a b hc.1 hc.2)).2, run_bind_ok (eql_ok hx hy hb)]
      exact ⟨.bool (!b'), rfl, .bool _⟩
    · simp at h

/-- The cells that append, copy and string(..) read. -/
theorem elems_rel (hi : Inv N0 S g w) {x : AV} {x' : Value} {es : List AV} {sz : Nat} (hr : Rel N0 g w x x') (h : elemsOf S x = some es) (hs : ∀ e ∈ es, e.cells.length = sz) (hne : es ≠ []) :
    (∃ c o cap, x' = .slice (some ⟨c, o, none⟩) es.length cap ∧ RelC N0 g w (flat es) c o) ∨ (∃ s, x = .str s ∧ es = s.map fun b => .int .u8 b.toNat) := by
  cases x <;> simp [elemsOf] at h
  · rename_i s; subst h; exact .inr ⟨s, rfl, rfl⟩
  · rename_i es' tk
    subst h
    rcases Rel.of_vs hr with ⟨rfl, _⟩ | ⟨_, c, o, cap, sz', rfl, _, _, _, hm⟩
    · exact absurd rfl hne
    · exact .inl ⟨c, o, cap, rfl, hm.relC⟩
  · rename_i b off len rsz
    split at h
    · rename_i bsz bes hb
      split at h
      · rename_i hle
        simp at h; subst h
        have hlen : (List.take len (List.drop off bes)).length = len := by simp; omega
        have hpos : 0 < len := by
          rcases Nat.eq_zero_or_pos len with h0 | h0
          · subst h0; simp at hne
          · exact h0
        have hB := hi.blk b bsz bes hb
        have hzz : bsz = sz := by
          have hmem : (List.take len (List.drop off bes))[0]'(by omega) ∈ List.take len (List.drop off bes) := List.getElem_mem _
          rw [← hs _ hmem]
          exact (hB.len _ (List.mem_of_mem_drop (List.mem_of_mem_take hmem))).symm
        cases hr with
        | rs b off len z cap A hlt hz hl hA =>
          rcases hA with h0 | ⟨rfl, hA⟩
          · omega
          · refine .inl ⟨g.loc b, g.off b + off * g.sz b, cap, by rw [hlen], ?_⟩
            obtain ⟨arr, t, h1, h2, h3, h4⟩ := hB.mem
            rw [flat_take len (sz := bsz) (fun e he => hB.len e (List.mem_of_mem_drop he)), flat_drop off hB.len]
            intro j v hj
            have hj0 := lt_of_get hj
            simp only [List.length_take] at hj0
            rw [List.getElem?_take_of_lt (by omega), List.getElem?_drop] at hj
            obtain ⟨ho, v', ha, hv⟩ := h4 _ v hj
            refine ⟨ho, v', ?_, hv⟩
            rw [cellA_heap h1, hB.size, Nat.add_assoc]
            exact ha
      · simp at h
    · simp at h

theorem elems_len (_hi : Inv N0 S g w) {x : AV} {x' : Value} {es : List AV} (hr : Rel N0 g w x x') (h : elemsOf S x = some es) : (Builtin.lenOf x').run P w = .ok es.length w := by
  cases x <;> simp [elemsOf] at h
  · subst h; cases hr with | str l s hs => simp [Builtin.lenOf, str_size hs]
  · subst h
    rcases Rel.of_vs hr with ⟨rfl, A, cap, rfl, _⟩ | ⟨_, c, o, cap, sz', rfl, _⟩
    · simp [Builtin.lenOf]
    · simp [Builtin.lenOf]
  · split at h
    · split at h
      · rename_i hle
        simp at h; subst h
        cases hr with | rs => simp [Builtin.lenOf]; omega
      · simp at h
    · simp at h

/-- The first cells of what append and copy read. -/
theorem first_rel (hi : Inv N0 S g w) {x : AV} {x' : Value} {es : List AV} {sz : Nat} (hr : Rel N0 g w x x') (h : elemsOf S x = some es) (hs : ∀ e ∈ es, e.cells.length = sz) (hsz : ∀ s, x = .str s → es ≠ [] → sz = 1) (n : Nat) (hn : n ≤ es.length) :
    ∃ arr : Array Value, (Builtin.firstCells sz n x').run P w = .ok arr w ∧ RelL N0 g w (flat (es.take n)) arr ∧ ∀ v ∈ flat (es.take n), v.one = true := by
  by_cases hne : es = []
  · subst hne
    have hn0 : n = 0 := by simpa using hn
    subst hn0
    refine ⟨#[], ?_, by simp [flat]; exact RelL.nil, by simp [flat]⟩
    cases x <;> simp [elemsOf] at h
    · subst h; cases hr with | str l s hss =>
        simp [Builtin.firstCells]
    · subst h
      rcases Rel.of_vs hr with ⟨_, A, cap, rfl, _⟩ | ⟨h0, _⟩
      · cases A <;> simp [Builtin.firstCells, loadCells, loadCellsFrom]
      · exact absurd rfl h0
    · cases hr with | rs => simp [Builtin.firstCells, loadCells, loadCellsFrom]
  · rcases elems_rel hi hr h hs hne with ⟨c, o, cap, rfl, hc⟩ | ⟨s, rfl, rfl⟩
    · have h2 := hc.take (n * sz)
      rw [← flat_take n hs] at h2
      obtain ⟨arr, h3, h4⟩ := run_loadRelC (P := P) h2
      have hlen : (flat (es.take n)).length = n * sz := by
        rw [flat_length (sz := sz) (fun e he => hs e (List.mem_of_mem_take he)), List.length_take, Nat.min_eq_left hn]
      rw [hlen] at h3
      exact ⟨arr, by simp [Builtin.firstCells, h3], h4, h2.one⟩
    · have := hsz s rfl hne; subst this
      cases hr with
      | str l s' hss =>
        have hfl : ∀ l : List UInt8, flat (l.map fun b => AV.int .u8 b.toNat) = l.map fun b => AV.int .u8 b.toNat := by
          intro l; induction l with
          | nil => rfl
          | cons a r ih => rw [List.map_cons, flat_cons, ih]; rfl
        rw [← List.map_take, hfl]
        refine ⟨(s'.extract 0 n).data.map fun b => .int .u8 b.toNat, by simp [Builtin.firstCells], ⟨?_, fun j v hj => ?_⟩, ?_⟩
        · simp [ByteArray.data_extract]; subst hss; simp
        · rw [List.getElem?_map] at hj
          cases hb : (s.take n)[j]? with
          | none => simp [hb] at hj
          | some b =>
            simp [hb] at hj; subst hj
            refine ⟨.int .u8 b.toNat, ?_, .int _ _⟩
            rw [Array.getElem?_map, ByteArray.data_extract, ← Array.getElem?_toList, Array.toList_extract, List.extract_eq_take_drop, hss]
            simp [hb]
        · intro v hv
          obtain ⟨b, _, rfl⟩ := List.mem_map.1 hv
          rfl

theorem len_ok (hi : Inv N0 S g w) {t : TypeId} {ts : Array TypeId} {ty : TypeId} {x v : AV} {x' : Value} (ht : ts[0]? = some t) (hr : Rel N0 g w x x') (h : lenP P S t x = some v) :
    ∃ v', (Builtin.len_ ts ty #[x']).run P w = .ok v' w ∧ Rel N0 g w v v' := by
  unfold lenP at h
  split at h
  · rename_i s hu
    cases hr with | str l s' hs =>
    simp at h; subst h
    exact ⟨_, by simp [Builtin.len_, ht, run_underlying hu, goInt, str_size hs], .int _ _⟩
  · rename_i n e hu
    simp at h; subst h
    exact ⟨_, by simp [Builtin.len_, ht, run_underlying hu, goInt], .int _ _⟩
  · rename_i e es tk hu
    simp at h; subst h
    rcases Rel.of_vs hr with ⟨rfl, A, cap, rfl, _⟩ | ⟨_, c, o, cap, sz', rfl, _⟩
    · exact ⟨_, by simp [Builtin.len_, ht, run_underlying hu, goInt], .int _ _⟩
    · exact ⟨_, by simp [Builtin.len_, ht, run_underlying hu, goInt], .int _ _⟩
  · rename_i e b o len z hu
    simp at h; subst h
    cases hr with | rs => exact ⟨_, by simp [Builtin.len_, ht, run_underlying hu, goInt], .int _ _⟩
  · rename_i k e hu
    simp only [Option.map_eq_some_iff] at h
    obtain ⟨es, he, rfl⟩ := h
    unfold entsOf at he
    split at he
    · cases hr; simp at he; subst he
      exact ⟨_, by simp [Builtin.len_, ht, run_underlying hu, goInt], .int _ _⟩
    · rename_i b
      split at he
      · rename_i es' hb
        simp at he; subst he
        cases hr with | map b hlt =>
        obtain ⟨arr, cl, h1, h2, h3⟩ := (hi.mp b es' hb).mem
        exact ⟨_, by simp [Builtin.len_, ht, run_underlying hu, goInt, getObj, Sem.run, h1, h2], .int _ _⟩
      · simp at he
    · simp at he
  · simp at h

theorem minmax_ok {mx : Bool} {a b v : AV} {a' b' : Value} (ha : Rel N0 g w a a') (hb : Rel N0 g w b b') (h : minmax mx a b = some v) :
    ∃ v', ((if mx then Builtin.max2 else Builtin.min2) a' b').run P w = .ok v' w ∧ Rel N0 g w v v' := by
  unfold minmax at h
  split at h
  · cases ha; cases hb
    simp at h; subst h
    cases mx <;> exact ⟨_, rfl, .int _ _⟩
  · simp at h

theorem minmaxs_ok {mx : Bool} : ∀ {r : List AV} {r' : List Value} {a v : AV} {a' : Value}, RelL N0 g w r r'.toArray → Rel N0 g w a a' → minmaxs mx r a = some v →
    ∃ v', (r'.foldlM (if mx then Builtin.max2 else Builtin.min2) a').run P w = .ok v' w ∧ Rel N0 g w v v'
  | [], r', a, v, a', hl, ha, h => by
    have : r' = [] := List.eq_nil_of_length_eq_zero (by simpa using hl.1)
    subst this
    simp [minmaxs] at h; subst h
    exact ⟨a', rfl, ha⟩
  | y :: r, [], a, v, a', hl, ha, h => by have := hl.1; simp at this
  | y :: r, y' :: r', a, v, a', hl, ha, h => by
    simp only [minmaxs, Option.bind_eq_some_iff] at h
    obtain ⟨m, h1, h2⟩ := h
    obtain ⟨u, hu, ry⟩ := hl.2 0 y rfl
    simp at hu; subst hu
    obtain ⟨m', h3, h4⟩ := minmax_ok (P := P) ha ry h1
    have hl' : RelL N0 g w r r'.toArray := ⟨by simpa using hl.1, fun j v hj => by simpa using hl.2 (j + 1) v (by simpa using hj)⟩
    obtain ⟨v', h5, h6⟩ := minmaxs_ok (r := r) (r' := r') hl' h4 h2
    exact ⟨v', by rw [List.foldlM_cons, run_bind_ok h3]; exact h5, h6⟩

theorem bytesOf_nums : ∀ {es : List AV} {s : List UInt8}, bytesOf es = some s → ∃ ns : List Int, es = ns.map (AV.int .u8) ∧ s = ns.map fun n => UInt8.ofNat n.toNat
  | [], s, h => by simp [bytesOf] at h; exact ⟨[], rfl, h ▸ rfl⟩
  | e :: r, s, h => by
    unfold bytesOf at h
    split at h
    · rename_i heq; cases heq
    · rename_i n r' heq
      cases heq
      simp only [Option.map_eq_some_iff] at h
      obtain ⟨s', h1, rfl⟩ := h
      obtain ⟨ns, rfl, rfl⟩ := bytesOf_nums h1
      exact ⟨n :: ns, rfl, rfl⟩
    · simp at h

theorem push_list : ∀ (ns : List Int) (s : ByteArray), (ns.foldl (fun (r : ByteArray) n => r.push (UInt8.ofNat n.toNat)) s).data.toList = s.data.toList ++ ns.map fun n => UInt8.ofNat n.toNat
  | [], s => by simp
  | n :: ns, s => by
    rw [List.foldl_cons, push_list ns]
    simp [ByteArray.push]

theorem conv_ok (hi : Inv N0 S g w) {src dst : TypeId} {x v : AV} {x' : Value} (hr : Rel N0 g w x x') (h : convP P S src dst x = some v) :
    ∃ v', (convert src dst x').run P w = .ok v' w ∧ Rel N0 g w v v' := by
  unfold convP at h
  split at h
  · rename_i k' k hs hd
    split at h
    · cases hr
      simp at h; subst h
      exact ⟨_, by simp [convert, run_underlying hs, run_underlying hd, Conv.intToInt], .int _ _⟩
    · simp at h
  · rename_i hs hd
    split at h
    · cases hr with | str l s' hss =>
      simp at h; subst h
      exact ⟨_, by simp [convert, run_underlying hs, run_underlying hd], .str _ _ hss⟩
    · simp at h
  · rename_i e hs hd
    have main : ∀ (_ : P.underlying e = some (.int .u8)) {es : List AV} {s : List UInt8}, elemsOf S x = some es → bytesOf es = some s → (∀ l, x ≠ .str l) → v = .str s →
        ∃ v', (convert src dst x').run P w = .ok v' w ∧ Rel N0 g w v v' := by
      intro he es s h1 h2 hns hv
      subst hv
      obtain ⟨ns, rfl, rfl⟩ := bytesOf_nums h2
      have hone : ∀ e ∈ ns.map (AV.int .u8), e.cells.length = 1 := by intro e he; obtain ⟨n, _, rfl⟩ := List.mem_map.1 he; rfl
      have hfl : ∀ l : List Int, flat (l.map (AV.int .u8)) = l.map (AV.int .u8) := by
        intro l; induction l with
        | nil => rfl
        | cons a r ih => rw [List.map_cons, flat_cons, ih]; rfl
      by_cases hne : ns.map (AV.int .u8) = []
      · have hn0 : ns = [] := by simpa using hne
        subst hn0
        have hl := elems_len (P := P) hi hr h1
        cases x <;> simp [elemsOf] at h1
        · exact absurd rfl (hns _)
        · subst h1
          rcases Rel.of_vs hr with ⟨_, A, cap, rfl, _⟩ | ⟨h0, _⟩
          · refine ⟨.string ByteArray.empty, ?_, .str _ _ rfl⟩
            rw [run_convert_bytes_string w src dst e _ 0 cap hs he hd]
            cases A <;> simp [Conv.bytesToString, loadCells, loadCellsFrom]
          · exact absurd rfl h0
        · cases hr with | rs b off len z cap A hlt hz hle hA =>
          simp [Builtin.lenOf] at hl
          subst hl
          refine ⟨.string ByteArray.empty, ?_, .str _ _ rfl⟩
          rw [run_convert_bytes_string w src dst e _ 0 cap hs he hd]
          simp [Conv.bytesToString, loadCells, loadCellsFrom]
      · rcases elems_rel hi hr h1 hone hne with ⟨c, o, cap, rfl, hc⟩ | ⟨s, rfl, _⟩
        · rw [hfl] at hc
          obtain ⟨arr, h3, h4⟩ := run_loadRelC (P := P) hc
          have harr : arr = (ns.map (Value.int .u8)).toArray := by
            apply Array.ext_getElem?
            intro i
            cases hi : (ns.map (AV.int .u8))[i]? with
            | none =>
              have h5 := List.getElem?_eq_none_iff.1 hi
              have h6 := h4.1
              rw [Array.getElem?_eq_none (by rw [h6]; exact h5)]
              simp at h5 ⊢; rw [List.getElem?_eq_none h5]; rfl
            | some u =>
              obtain ⟨u', hu, ru⟩ := h4.2 i u hi
              rw [List.getElem?_map] at hi
              cases hn : ns[i]? with
              | none => simp [hn] at hi
              | some n =>
                simp [hn] at hi; subst hi
                cases ru
                rw [hu]; simp [hn]
          subst harr
          refine ⟨.string (ns.foldl (fun r n => r.push (UInt8.ofNat n.toNat)) ByteArray.empty), ?_, .str _ _ ?_⟩
          · rw [run_convert_bytes_string w src dst e _ _ cap hs he hd]
            exact run_bytesToString w _ _ cap ns (by simpa using h3)
          · rw [push_list]; simp
        · exact absurd rfl (hns s)
    split at h
    · rename_i he
      split at h
      · rename_i hsl
        simp only [Option.bind_eq_some_iff, Option.map_eq_some_iff] at h
        obtain ⟨es', h1, s, h2, rfl⟩ := h
        exact main he h1 h2 (by intro l hc; rw [hc] at hsl; simp [isSl] at hsl) rfl
      · simp at h
    · simp at h
  · simp at h

end
end Go.Proofs.YtmicmlcfbmphfaaDoor.Ae

/- Each operation of the interpreter is what the model's operation comes to: make, append, copy.
   No conditions beyond those of each lemma. -/
import Derived.Test.YtmicmlcfbmphfaaDoorAeOps5
set_option linter.unusedSimpArgs false
set_option linter.unusedVariables false
set_option linter.unnecessarySimpa false
namespace Go.Proofs.YtmicmlcfbmphfaaDoor.Ae
open Go Go.RowKit

section
variable {N0 : Nat} {S S' : St} {g : G} {w : World} {P : Program}

theorem run_askRoom (n : Nat) : (askRoom n).run P w = .ok () w := by
  unfold askRoom
  split <;> rfl

theorem wrap_small {n : Int} (h0 : 0 ≤ n) (h1 : n < 9223372036854775808) : IntKind.i64.wrap n = n := by
  simp only [IntKind.wrap, IntKind.bits, IntKind.signed]
  have : n % 2 ^ 64 = n := Int.emod_eq_of_lt h0 (by omega)
  simp only [this, Bool.true_and]
  split
  · rename_i h; simp at h; omega
  · rfl

theorem roomOk_iff {n b : Nat} (h : roomOk n b = true) : n * b ≤ 211106232532992 ∧ b ≤ 1048576 := by
  simpa [roomOk] using h

theorem info_of_size {t : TypeId} {n : Nat} (h : sizeT P t = some n) : ∃ i, P.info? t = some i ∧ i.size = n := by
  unfold sizeT at h
  cases hi : P.info? t with
  | none => simp [hi] at h
  | some i => exact ⟨i, rfl, by simpa [hi] using h⟩

theorem info_of_bytes {t : TypeId} {n : Nat} {i : TypeInfo} (hi : P.info? t = some i) (h : bytesT P t = some n) : i.bytes = n := by
  unfold bytesT at h
  simpa [hi] using h

theorem range_map_get (z : Array Value) (n k : Nat) (h : k < n) (hz : 0 < z.size) : ((Array.range n).map (fun i => z[i % z.size]!))[k]? = z[k % z.size]? := by
  rw [Array.getElem?_map, Array.getElem?_range, if_pos h]
  have : k % z.size < z.size := Nat.mod_lt _ hz
  simp [this]

theorem makeSlice_new {t : TypeId} {l c r : AV} {l' c' : Value} (hl : Rel N0 g w l l') (hc : Rel N0 g w c c') (h : makeSliceP P S t l c = some (r, S')) :
    NewRow N0 S S' g w P (Instr.makeSlice t l' c') r := by
  unfold makeSliceP at h
  split at h
  · rename_i e hu
    simp only [Option.bind_eq_some_iff] at h
    obtain ⟨sz, hsz, bytes, hby, z, hz, n, hn, c, hcc, h⟩ := h
    split at h
    · rename_i hcond
      obtain ⟨c1, c2, c3, c4, c5⟩ := hcond
      obtain ⟨c4, c6⟩ := roomOk_iff c4
      simp at h; obtain ⟨rfl, rfl⟩ := h
      obtain ⟨k1, rfl⟩ := natOf_rel hl hn
      obtain ⟨k2, rfl⟩ := natOf_rel hc hcc
      obtain ⟨info, hinfo, hisz⟩ := info_of_size hsz
      have hib := info_of_bytes hinfo hby
      obtain ⟨z', h0, hr, ho, _⟩ := run_zero (P := P) (N0 := N0) (g := g) (w := w) hz
      have hzs : z'.cells.size = sz := by rw [hr.cells.1, c1]
      have e6 : ¬ (281474976710656 < (bytes : Int) * (c : Int)) := by
        have : ((c * bytes : Nat) : Int) ≤ 211106232532992 := Int.ofNat_le.2 c4
        rw [Int.natCast_mul, Int.mul_comm] at this
        omega
      let arr := (Array.range (c * sz)).map (fun i => z'.cells[i % z'.cells.size]!)
      have harr : arr.size = c * sz := by simp [arr]
      refine ⟨.slice (some ⟨w.heap.size, 0, none⟩) n c, arr, e, sz, List.replicate n z, ?_, rfl, fun e he => by rw [List.eq_of_mem_replicate he]; exact c1,
        by rw [List.length_replicate, harr]; exact Nat.mul_le_mul_right _ c3, zero_row hr c1 ho (by rw [harr]; exact Nat.mul_le_mul_right _ c3) (fun k hk => by
          have : k < c * sz := Nat.lt_of_lt_of_le hk (Nat.mul_le_mul_right _ c3)
          rw [range_map_get _ _ _ this (by omega), hzs]), fun g' w' h2 h3 h4 h5 h6 => ?_⟩
      · have e1 : IntKind.i64.wrap (n : Int) = n := wrap_small (by omega) (by omega)
        have e2 : IntKind.i64.wrap (c : Int) = c := wrap_small (by omega) (by omega)
        have e3 : ¬ ((c : Int) < 0) := by omega
        have e4 : ¬ ((n : Int) < 0) := by omega
        have e5 : ¬ ((n : Int) > (c : Int)) := by omega
        by_cases hc0 : c * sz = 0
        · have hae : arr = #[] := Array.eq_empty_of_size_eq_zero (by rw [harr, hc0])
          simp only [Instr.makeSlice]
          rw [run_bind_ok (run_underlying hu)]
          simp [asInt, asIntOf, run_typeInfo hinfo, hib, e1, e2, e3, e4, e5, e6, run_sizeOf hsz, hc0, hae, newRow, newObj, Sem.run, pushBlk]
          congr 2
          exact Array.eq_empty_of_size_eq_zero (by simp)
        · simp only [Instr.makeSlice]
          rw [run_bind_ok (run_underlying hu)]
          simp [asInt, asIntOf, run_typeInfo hinfo, hib, e1, e2, e3, e4, e5, e6, run_sizeOf hsz, hc0, h0, newRow, newObj, Sem.run, pushBlk, arr]
      · have hrel := Rel.rs (N0 := N0) (g := g') (w := w') S.length 0 n sz c ⟨w.heap.size, 0, none⟩ h2 h5 c3 (.inr ⟨by rw [h3, h4, Nat.zero_mul], by rw [h4, h5, h6, harr]; simp⟩)
        exact hrel
    · simp at h
  · simp at h

/-- The cells that append reads of what it appends. -/
theorem makeSlice_ok (hi : Inv N0 S g w) {t : TypeId} {l c r : AV} {l' c' : Value} (hl : Rel N0 g w l l') (hc : Rel N0 g w c c') (h : makeSliceP P S t l c = some (r, S')) :
    Made N0 S' g w P (Instr.makeSlice t l' c') r := (makeSlice_new hl hc h).made hi

theorem append_in {t u e : TypeId} {sz n len cap : Nat} {A : Option Addr} {x : Value} {d : TypeDesc} {new : Array Value} {w' : World} (hu : P.underlying t = some (.slice e)) (hsz : sizeT P e = some sz)
    (hd : P.underlying u = some d) (hni : ∀ k, d ≠ .int k) (hl : (Builtin.lenOf x).run P w = .ok n w) (hf : (Builtin.firstCells sz n x).run P w = .ok new w) (hroom : len + n ≤ cap)
    (hst : ∀ a, A = some a → (storeCells (a.add (len * sz)) new.toList).run P w = .ok () w') (hno : A = none → w' = w) (ty : TypeId) :
    (Builtin.append_ #[t, u] ty #[.slice A len cap, x]).run P w = .ok (.slice A (len + n) cap) w' := by
  have hm : (match d with | .int _ => true | _ => false) = false := by cases d <;> first | rfl | exact absurd rfl (hni _)
  simp only [Builtin.append_]
  cases A with
  | none =>
    have := hno rfl; subst this
    simp [run_underlying hu, run_sizeOf hsz, run_underlying hd, hl, hroom, hf]
  | some a =>
    have := hst a rfl
    simp [run_underlying hu, run_sizeOf hsz, run_underlying hd, hl, hroom, hf, this]

theorem next_le (need old : Nat) (h : old < need) : 4 * Builtin.nextslicecap need old ≤ 5 * need + 3072 := by
  unfold Builtin.nextslicecap
  split
  · omega
  · split
    · omega
    · simp only [Builtin.growBy]
      repeat' split
      all_goals omega

theorem append_new {t u e : TypeId} {sz bytes n len cap : Nat} {A : Option Addr} {x z' : Value} {d : TypeDesc} {old new : Array Value} (hu : P.underlying t = some (.slice e)) (hsz : sizeT P e = some sz)
    (hby : bytesT P e = some bytes) (hz : ∀ w, (zeroValue e).run P w = .ok z' w)
    (hd : P.underlying u = some d) (hni : ∀ k, d ≠ .int k) (hl : (Builtin.lenOf x).run P w = .ok n w) (hroom : ¬ len + n ≤ cap) (hb : roomOk (len + n) bytes = true) (hpos : 0 < bytes ∨ (len + n) < 9223372036854775808)
    (hf : (Builtin.firstCells sz n x).run P w.drew = .ok new w.drew) (ho : (Builtin.firstCells sz len (.slice A len cap)).run P w.drew = .ok old w.drew) (ty : TypeId) :
    ∃ newCap, len + n ≤ newCap ∧ (Builtin.append_ #[t, u] ty #[.slice A len cap, x]).run P w =
      .ok (.slice (some ⟨w.heap.size, 0, none⟩) (len + n) newCap) (pushBlk w.drew (.cells (old ++ new ++ Builtin.zeroCells z'.cells (newCap - (len + n))) e (0, 0))) := by
  have hm : (match d with | .int _ => true | _ => false) = false := by cases d <;> first | rfl | exact absurd rfl (hni _)
  obtain ⟨info, hinfo, hisz⟩ := info_of_size hsz
  have hib := info_of_bytes hinfo hby
  obtain ⟨hb1, hb2⟩ := roomOk_iff hb
  have hnext : ¬ Builtin.nextslicecap (len + n) cap * bytes > 2 ^ 48 := by
    have h1 := next_le (len + n) cap (by omega)
    have h2 : 4 * (Builtin.nextslicecap (len + n) cap * bytes) ≤ 5 * ((len + n) * bytes) + 3072 * bytes := by
      have := Nat.mul_le_mul_right bytes h1
      rw [Nat.add_mul, Nat.mul_assoc, Nat.mul_assoc] at this; exact this
    have : (2 : Nat) ^ 48 = 281474976710656 := by decide
    omega
  have hbig : ¬ (9223372036854775807 < (len : Int) + (n : Int) ∧ bytes = 0) := by
    rintro ⟨h1, h2⟩
    rcases hpos with h | h
    · omega
    · omega
  have hnext' : ¬ (281474976710656 < Builtin.nextslicecap (len + n) cap * bytes) := hnext
  refine ⟨(Question.appendCap (len + n) cap e).cut (w.tape w.drawn (Question.appendCap (len + n) cap e)), by simp [Question.cut], ?_⟩
  simp only [Builtin.append_]
  simp [run_underlying hu, run_sizeOf hsz, run_underlying hd, hl, hroom, run_typeInfo hinfo, hib, hnext', hbig, choose, Sem.run, Question.forced, ho, hf, hz, newRow, newObj, pushBlk]
  rfl

theorem zeroCells_size (z : Array Value) (n : Nat) : (Builtin.zeroCells z n).size = n * z.size := by simp [Builtin.zeroCells]

theorem weak_flat_get {es : List AV} {j : Nat} {v : AV} (h : (flat (es.map AV.weak))[j]? = some v) : ∃ u, (flat es)[j]? = some u ∧ v = u.weak1 := by
  rw [flat_weak, List.getElem?_map] at h
  cases hc : (flat es)[j]? with
  | none => simp [hc] at h
  | some u => simp [hc] at h; exact ⟨u, rfl, h.symm⟩

theorem weak_len {es : List AV} {sz : Nat} (h : ∀ e ∈ es, e.cells.length = sz) : ∀ e ∈ es.map AV.weak, e.cells.length = sz := by
  intro e he
  obtain ⟨u, hu, rfl⟩ := List.mem_map.1 he
  rw [AV.cells_weak, List.length_map]; exact h u hu

/-- Two rows one behind the other, as one. -/
theorem two_rows {xs ys : List AV} {a b c : Array Value} {g1 : G} {w1 : World} (ha : RelL N0 g w xs a) (hb : RelL N0 g1 w1 ys b) :
    ∀ (j : Nat) (v : AV), (xs ++ ys)[j]? = some v → (∃ v' : Value, (a ++ b ++ c)[j]? = some v' ∧ (Rel N0 g w v v' ∨ Rel N0 g1 w1 v v')) := by
  intro j v hj
  have h1 := ha.1
  have h2 := hb.1
  by_cases hlt : j < xs.length
  · rw [List.getElem?_append_left hlt] at hj
    obtain ⟨v', e, r⟩ := ha.2 j v hj
    refine ⟨v', ?_, .inl r⟩
    rw [Array.append_assoc, Array.getElem?_append_left (by omega)]; exact e
  · rw [List.getElem?_append_right (by omega)] at hj
    obtain ⟨v', e, r⟩ := hb.2 _ v hj
    have := lt_of_get hj
    refine ⟨v', ?_, .inr r⟩
    rw [Array.append_assoc, Array.getElem?_append_right (by omega), Array.getElem?_append_left (by omega), h1]; exact e

/-- append where the row must be made anew, and no one writes it later. -/
theorem append_tok {es ws : List AV} {old new z : Array Value} {sz newCap : Nat} (e : TypeId) (hi : Inv N0 S g w) (hes : ∀ x ∈ es, x.cells.length = sz) (hws : ∀ x ∈ ws, x.cells.length = sz) (hpos : 0 < sz) (hne : ws ≠ [])
    (ho : RelL N0 g w (flat es) old) (hn : RelL N0 g w (flat ws) new) (h1 : ∀ v ∈ flat es, v.one = true) (h2 : ∀ v ∈ flat ws, v.one = true) (hz : z.size = sz) (hcap : es.length + ws.length ≤ newCap) :
    ∃ g', Ext N0 g w g' (pushBlk w (.cells (old ++ new ++ Builtin.zeroCells z (newCap - (es.length + ws.length))) e (0, 0))) ∧
      Inv N0 (S ++ [.tok]) g' (pushBlk w (.cells (old ++ new ++ Builtin.zeroCells z (newCap - (es.length + ws.length))) e (0, 0))) ∧
      Rel N0 g' (pushBlk w (.cells (old ++ new ++ Builtin.zeroCells z (newCap - (es.length + ws.length))) e (0, 0))) (.vs (es ++ ws.map AV.weak) (.live S.length)) (.slice (some ⟨w.heap.size, 0, none⟩) (es.length + ws.length) newCap) := by
  have lo : old.size = es.length * sz := by rw [ho.1, flat_length hes]
  have ln : new.size = ws.length * sz := by rw [hn.1, flat_length hws]
  have hnl : new.toList.length = ws.length * sz := by simpa using ln
  have hsz : (old ++ new ++ Builtin.zeroCells z (newCap - (es.length + ws.length))).size = newCap * sz := by
    simp only [Array.size_append, zeroCells_size, lo, ln, hz]
    rw [← Nat.add_mul, ← Nat.add_mul]; congr 1; omega
  have hall : ∀ x ∈ es ++ ws.map AV.weak, x.cells.length = sz := fun x hx => by
    rcases List.mem_append.1 hx with h | h
    · exact hes x h
    · exact weak_len hws x h
  have hlen : (es ++ ws.map AV.weak).length = es.length + ws.length := by simp
  have hfl : (flat (es ++ ws.map AV.weak)).length = (es.length + ws.length) * sz := by rw [flat_length hall, hlen]
  obtain ⟨g', x, k1, k2, k3, k4, k5, k6⟩ := push_tok hi e (cs := flat (es ++ ws.map AV.weak)) (arr := old ++ new ++ Builtin.zeroCells z (newCap - (es.length + ws.length))) (fun v hv => by
      rw [flat_append] at hv
      rcases List.mem_append.1 hv with h | h
      · exact h1 v h
      · rw [flat_weak] at h; obtain ⟨u, hu, rfl⟩ := List.mem_map.1 h; rw [AV.one_weak1]; exact h2 u hu)
    (by rw [hfl, hsz]; exact Nat.mul_le_mul_right _ hcap) (fun j v hj => by
      rw [flat_append, flat_weak] at hj
      have hn' : RelL N0 g w ((flat ws).map AV.weak1) new := ⟨by rw [List.length_map]; exact hn.1, fun j v hj => by
        rw [List.getElem?_map] at hj
        cases hc : (flat ws)[j]? with
        | none => simp [hc] at hj
        | some u =>
          simp [hc] at hj; subst hj
          obtain ⟨v', e, r⟩ := hn.2 j u hc
          exact ⟨v', e, r.weak1⟩⟩
      obtain ⟨v', e, r⟩ := two_rows (c := Builtin.zeroCells z (newCap - (es.length + ws.length))) ho hn' j v hj
      exact ⟨v', e, r.elim id id⟩)
  refine ⟨g', x, k1, ?_⟩
  have hrel := Rel.mk_vs (sz := sz) (tk := .live S.length) (cap := newCap) (by simp [hne]) hall (by rw [hlen]; exact hcap) ⟨k3, k4, rfl, by rw [k5, hfl, hlen], by rw [k6, hsz], hpos⟩ k2
  rw [hlen] at hrel
  exact hrel

/-- append where the row must be made anew, and may be written later. -/
theorem append_mine {es ws : List AV} {old new z : Array Value} {sz newCap : Nat} (e : TypeId) (hi : Inv N0 S g w) (hes : ∀ x ∈ es, x.cells.length = sz) (hws : ∀ x ∈ ws, x.cells.length = sz)
    (ho : RelL N0 g w (flat es) old) (hn : RelL N0 g w (flat ws) new) (h1 : ∀ v ∈ flat es, v.one = true) (h2 : ∀ v ∈ flat ws, v.one = true) (hz : z.size = sz) (hcap : es.length + ws.length ≤ newCap) :
    ∃ g', Ext N0 g w g' (pushBlk w (.cells (old ++ new ++ Builtin.zeroCells z (newCap - (es.length + ws.length))) e (0, 0))) ∧
      Inv N0 (S ++ [.cells sz (es ++ ws)]) g' (pushBlk w (.cells (old ++ new ++ Builtin.zeroCells z (newCap - (es.length + ws.length))) e (0, 0))) ∧
      Rel N0 g' (pushBlk w (.cells (old ++ new ++ Builtin.zeroCells z (newCap - (es.length + ws.length))) e (0, 0))) (.rs S.length 0 (es.length + ws.length) sz) (.slice (some ⟨w.heap.size, 0, none⟩) (es.length + ws.length) newCap) := by
  have lo : old.size = es.length * sz := by rw [ho.1, flat_length hes]
  have ln : new.size = ws.length * sz := by rw [hn.1, flat_length hws]
  have hnl : new.toList.length = ws.length * sz := by simpa using ln
  have hsz : (old ++ new ++ Builtin.zeroCells z (newCap - (es.length + ws.length))).size = newCap * sz := by
    simp only [Array.size_append, zeroCells_size, lo, ln, hz]
    rw [← Nat.add_mul, ← Nat.add_mul]; congr 1; omega
  have hall : ∀ x ∈ es ++ ws, x.cells.length = sz := fun x hx => by
    rcases List.mem_append.1 hx with h | h
    · exact hes x h
    · exact hws x h
  obtain ⟨g', x, k1, k2, k3, k4, k5, k6⟩ := push_mine hi e (es := es ++ ws) (arr := old ++ new ++ Builtin.zeroCells z (newCap - (es.length + ws.length))) (sz := sz) hall
    (by rw [hsz, List.length_append]; exact Nat.mul_le_mul_right _ hcap) (fun j v hj => by
      rw [flat_append] at hj
      obtain ⟨v', e, r⟩ := two_rows (c := Builtin.zeroCells z (newCap - (es.length + ws.length))) ho hn j v hj
      refine ⟨?_, v', e, r.elim id id⟩
      rcases List.mem_append.1 (List.mem_of_getElem? hj) with h | h
      · exact h1 v h
      · exact h2 v h)
  refine ⟨g', x, k1, ?_⟩
  exact Rel.rs S.length 0 _ sz newCap ⟨w.heap.size, 0, none⟩ k2 k5 hcap (.inr ⟨by rw [k3, k4, Nat.zero_mul], by rw [k4, k5, k6, hsz]; simp⟩)

/-- append in place: the cells behind a row that nobody writes. -/
theorem append_here {es ws : List AV} {new arr : Array Value} {sz c cap b : Nat} {ty : TypeId} (hi : Inv N0 S g w) (hb : S[b]? = some .tok) (hes : ∀ x ∈ es, x.cells.length = sz) (hws : ∀ x ∈ ws, x.cells.length = sz) (hpos : 0 < sz) (hne : ws ≠ [])
    (hm : RelM N0 g w (flat es) c 0) (hk : TkOk g c 0 es.length cap sz (.live b)) (hn : RelL N0 g w (flat ws) new) (h2 : ∀ v ∈ flat ws, v.one = true) (hcap : es.length + ws.length ≤ cap)
    (harr : w.heap[c]? = some (.cells arr ty (0, 0))) :
    ∃ g', Ext N0 g w g' (setBlk w c (.cells (putCells arr (es.length * sz) new.toList) ty (0, 0))) ∧
      Inv N0 (S.set b .dead ++ [.tok]) g' (setBlk w c (.cells (putCells arr (es.length * sz) new.toList) ty (0, 0))) ∧
      Rel N0 g' (setBlk w c (.cells (putCells arr (es.length * sz) new.toList) ty (0, 0))) (.vs (es ++ ws.map AV.weak) (.live S.length)) (.slice (some ⟨c, 0, none⟩) (es.length + ws.length) cap) := by
  obtain ⟨t1, t2, _, t3, t4, _⟩ := hk
  subst t2
  have hT := hi.tk b hb
  obtain ⟨arr', ty', m1, m2, m3⟩ := hT.mem
  rw [harr] at m1; injection m1 with m1; injection m1 with e1 e2; subst e1 e2
  have ln : new.size = ws.length * sz := by rw [hn.1, flat_length hws]
  have hnl : new.toList.length = ws.length * sz := by simpa using ln
  have hfit : es.length * sz + new.toList.length ≤ arr.size := by
    rw [hnl, ← Nat.add_mul, ← m2, t4]; exact Nat.mul_le_mul_right _ hcap
  have hlt := lt_of_heap harr
  obtain ⟨i1, x1⟩ := (hi.kill b).turn (hi.unclaimed_tok hb) hT.old (.imm ((es.length + ws.length) * sz)) (.inl (by rw [hT.kind]; intro h; cases h)) (w' := setBlk w (g.loc b) (.cells (putCells arr (es.length * sz) new.toList) ty (0, 0)))
    (fun k hk => by rw [setBlk_get, if_neg (by omega)]) (by simp [setBlk]) (by simpa [setBlk] using hlt) (.inl (by simp [setBlk])) (fun h0 he => by
      rw [hT.kind] at he; injection he with he
      refine ⟨_, rfl, ?_, fun o v ho hv => ?_⟩
      · rw [← he, t3]; exact Nat.mul_le_mul_right _ (Nat.le_add_right _ _)
      · rw [cellA_heap harr] at hv
        rw [cellA_heap (by rw [setBlk_get, if_pos ⟨rfl, hlt⟩]), putCells_get _ _ _ _ hfit, if_neg (by omega)]; exact hv)
  have x2 : Ext N0 { g with kind := upd g.kind (g.loc b) (.imm ((es.length + ws.length) * sz)) } (setBlk w (g.loc b) (.cells (putCells arr (es.length * sz) new.toList) ty (0, 0)))
    (({ g with kind := upd g.kind (g.loc b) (.imm ((es.length + ws.length) * sz)) } : G).add (g.loc b) ((es.length + ws.length) * sz) 0 arr.size) (setBlk w (g.loc b) (.cells (putCells arr (es.length * sz) new.toList) ty (0, 0))) := Ext.add
  have hun := hi.unclaimed_tok hb
  have i2 := i1.add (c := g.loc b) ((es.length + ws.length) * sz) 0 arr.size .tok (fun _ _ he => by cases he) (fun _ he => by cases he) (fun _ => by
    have eloc : (({ g with kind := upd g.kind (g.loc b) (.imm ((es.length + ws.length) * sz)) } : G).add (g.loc b) ((es.length + ws.length) * sz) 0 arr.size).loc g.n = g.loc b := upd_same _ _ _
    have eoff : (({ g with kind := upd g.kind (g.loc b) (.imm ((es.length + ws.length) * sz)) } : G).add (g.loc b) ((es.length + ws.length) * sz) 0 arr.size).off g.n = (es.length + ws.length) * sz := upd_same _ _ _
    refine ⟨⟨by rw [eloc]; exact hT.old, by rw [eloc, eoff]; exact upd_same _ _ _, _, ty, by rw [eloc, setBlk_get, if_pos ⟨rfl, hlt⟩], by rw [putCells_size]; exact upd_same _ _ _, ?_⟩, ⟨hun.blk, hun.mp, hun.tk⟩⟩
    rw [eoff, putCells_size, ← m2, t4]; exact Nat.mul_le_mul_right _ hcap)
  have hlenS : (S.set b .dead).length = S.length := List.length_set ..
  refine ⟨_, x1.trans x2, i2, ?_⟩
  have hall : ∀ x ∈ es ++ ws.map AV.weak, x.cells.length = sz := fun x hx => by
    rcases List.mem_append.1 hx with h | h
    · exact hes x h
    · exact weak_len hws x h
  have hlen : (es ++ ws.map AV.weak).length = es.length + ws.length := by simp
  suffices hrel : Rel N0 (({ g with kind := upd g.kind (g.loc b) (.imm ((es.length + ws.length) * sz)) } : G).add (g.loc b) ((es.length + ws.length) * sz) 0 arr.size) (setBlk w (g.loc b) (.cells (putCells arr (es.length * sz) new.toList) ty (0, 0)))
      (.vs (es ++ ws.map AV.weak) (.live S.length)) (.slice (some ⟨g.loc b, 0, none⟩) (es ++ ws.map AV.weak).length cap) by rw [hlen] at hrel; exact hrel
  refine Rel.mk_vs (sz := sz) (by simp [hne]) hall (by rw [hlen]; exact hcap) ⟨?_, ?_, rfl, ?_, ?_, hpos⟩ ?_
  · show S.length < g.n + 1; rw [hi.n]; omega
  · rw [← hi.n]; exact upd_same _ _ _
  · rw [← hi.n, hlen]; exact upd_same _ _ _
  · rw [← hi.n, ← t4, m2]; exact upd_same _ _ _
  · rw [flat_append]
    refine (hm.mono (x1.trans x2)).append (fun j v hj => ?_)
    have hj0 := lt_of_get hj
    obtain ⟨u, hu, rfl⟩ := weak_flat_get hj
    obtain ⟨v', e, r⟩ := hn.2 j u hu
    have hju := lt_of_get hu
    rw [flat_length hws] at hju
    rw [flat_length hes, Nat.zero_add]
    refine ⟨by rw [AV.one_weak1]; exact h2 u (List.mem_of_getElem? hu), .inr ⟨(es.length + ws.length) * sz, upd_same _ _ _, by rw [Nat.add_mul]; omega⟩, v', ?_, (r.mono (x1.trans x2)).weak1⟩
    rw [cellA_heap (by rw [setBlk_get, if_pos ⟨rfl, hlt⟩]), putCells_get _ _ _ _ hfit, if_pos (by rw [hnl]; omega), ← e, ← Array.getElem?_toList]
    congr 1; omega

/-- append in place: the cells behind a row that may be written. -/
theorem append_there {es ws : List AV} {new arr : Array Value} {sz off len cap b _bsz : Nat} {bes : List AV} {ty : TypeId} (hi : Inv N0 S g w) (hb : S[b]? = some (.cells sz bes)) (hoff : off + len ≤ bes.length)
    (hes : es = (bes.drop off).take len) (hws : ∀ x ∈ ws, x.cells.length = sz) (hn : RelL N0 g w (flat ws) new) (h2 : ∀ v ∈ flat ws, v.one = true) (hcap : len + ws.length ≤ cap)
    (htop : g.off b + (off + cap) * sz ≤ g.top b) (harr : w.heap[g.loc b]? = some (.cells arr ty (0, 0))) :
    ∃ g', Ext N0 g w g' (setBlk w (g.loc b) (.cells (putCells arr (g.off b + off * sz + len * sz) new.toList) ty (0, 0))) ∧
      Inv N0 (S.set b .dead ++ [.cells sz (es ++ ws)]) g' (setBlk w (g.loc b) (.cells (putCells arr (g.off b + off * sz + len * sz) new.toList) ty (0, 0))) ∧
      Rel N0 g' (setBlk w (g.loc b) (.cells (putCells arr (g.off b + off * sz + len * sz) new.toList) ty (0, 0))) (.rs S.length 0 (len + ws.length) sz) (.slice (some ⟨g.loc b, g.off b + off * sz, none⟩) (len + ws.length) cap) := by
  have hB := hi.blk b sz bes hb
  obtain ⟨arr', ty', m1, m2, m3, m4⟩ := hB.mem
  rw [harr] at m1; injection m1 with m1; injection m1 with e1 e2; subst e1 e2
  have hbes : ∀ x ∈ bes.drop off, x.cells.length = sz := fun x hx => hB.len x (List.mem_of_mem_drop hx)
  have hesl : ∀ x ∈ es, x.cells.length = sz := fun x hx => by rw [hes] at hx; exact hbes x (List.mem_of_mem_take hx)
  have hlenes : es.length = len := by rw [hes]; simp; omega
  have ln : new.size = ws.length * sz := by rw [hn.1, flat_length hws]
  have hnl : new.toList.length = ws.length * sz := by simpa using ln
  have hmul : (off + len + ws.length) * sz ≤ (off + cap) * sz := Nat.mul_le_mul_right _ (by omega)
  have hfit : g.off b + off * sz + len * sz + new.toList.length ≤ arr.size := by
    rw [hnl]; rw [Nat.add_mul, Nat.add_mul] at hmul; omega
  have hlt := lt_of_heap harr
  have hun := hi.unclaimed_blk hb
  obtain ⟨i1, x1⟩ := (hi.kill b).turn hun hB.old (.mine g.n) (.inl (by rw [hB.kind]; intro h; cases h)) (w' := setBlk w (g.loc b) (.cells (putCells arr (g.off b + off * sz + len * sz) new.toList) ty (0, 0)))
    (fun k hk => by rw [setBlk_get, if_neg (by omega)]) (by simp [setBlk]) (by simpa [setBlk] using hlt) (.inl (by simp [setBlk])) (fun h0 he => by
      rw [hB.kind] at he; cases he)
  have x2 : Ext N0 { g with kind := upd g.kind (g.loc b) (.mine g.n) } (setBlk w (g.loc b) (.cells (putCells arr (g.off b + off * sz + len * sz) new.toList) ty (0, 0)))
    (({ g with kind := upd g.kind (g.loc b) (.mine g.n) } : G).add (g.loc b) (g.off b + off * sz) sz arr.size) (setBlk w (g.loc b) (.cells (putCells arr (g.off b + off * sz + len * sz) new.toList) ty (0, 0))) := Ext.add
  have hall : ∀ x ∈ es ++ ws, x.cells.length = sz := fun x hx => by
    rcases List.mem_append.1 hx with h | h
    · exact hesl x h
    · exact hws x h
  have i2 := i1.add (c := g.loc b) (g.off b + off * sz) sz arr.size (.cells sz (es ++ ws)) (fun sz' es' he => by
    cases he
    have eloc : (({ g with kind := upd g.kind (g.loc b) (.mine g.n) } : G).add (g.loc b) (g.off b + off * sz) sz arr.size).loc g.n = g.loc b := upd_same _ _ _
    have eoff : (({ g with kind := upd g.kind (g.loc b) (.mine g.n) } : G).add (g.loc b) (g.off b + off * sz) sz arr.size).off g.n = g.off b + off * sz := upd_same _ _ _
    refine ⟨by rw [eloc]; exact hB.old, by rw [eloc]; exact upd_same _ _ _, upd_same _ _ _, hall, _, ty, by rw [eloc, setBlk_get, if_pos ⟨rfl, hlt⟩], by rw [putCells_size]; exact upd_same _ _ _, ?_, fun j v hj => ?_⟩
    · rw [eoff, putCells_size, List.length_append, hlenes]
      rw [Nat.add_mul] at hmul ⊢; rw [Nat.add_mul] at hmul; omega
    · rw [eoff]
      rw [putCells_get _ _ _ _ hfit]
      rw [flat_append] at hj
      by_cases hjl : j < (flat es).length
      · rw [List.getElem?_append_left hjl, hes, flat_take len hbes, flat_drop off hB.len] at hj
        rw [flat_length hesl, hlenes] at hjl
        rw [List.getElem?_take_of_lt hjl, List.getElem?_drop] at hj
        obtain ⟨o1, v', a1, r1⟩ := m4 _ v hj
        refine ⟨o1, v', ?_, r1.mono (x1.trans x2)⟩
        rw [if_neg (by omega), Nat.add_assoc]; exact a1
      · rw [List.getElem?_append_right (by omega), flat_length hesl, hlenes] at hj
        rw [flat_length hesl, hlenes] at hjl
        obtain ⟨v', a1, r1⟩ := hn.2 _ v hj
        have := lt_of_get hj
        rw [flat_length hws] at this
        refine ⟨h2 v (List.mem_of_getElem? hj), v', ?_, r1.mono (x1.trans x2)⟩
        rw [if_pos (by rw [hnl]; omega), ← a1, ← Array.getElem?_toList]
        congr 1; omega) (fun _ he => by cases he) (fun he => by cases he)
  refine ⟨_, x1.trans x2, i2, ?_⟩
  refine Rel.rs S.length 0 _ sz cap _ ?_ ?_ hcap (.inr ⟨?_, ?_⟩)
  · show S.length < g.n + 1; rw [hi.n]; omega
  · rw [← hi.n]; exact upd_same _ _ _
  · rw [← hi.n]
    simp only [G.add, upd_same, Nat.zero_mul, Nat.add_zero]
  · rw [← hi.n]
    simp only [G.add, upd_same, Nat.zero_add]
    rw [← m2]; rw [Nat.add_mul] at htop; omega

end
end Go.Proofs.YtmicmlcfbmphfaaDoor.Ae

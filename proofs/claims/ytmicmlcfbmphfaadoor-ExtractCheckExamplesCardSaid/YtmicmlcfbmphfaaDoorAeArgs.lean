/- From the readings of a law's arguments to the interpreter's values, and from a walk to what the row asks.
   The program follows the looks that the translation bears. -/
import Derived.Test.YtmicmlcfbmphfaaDoorAeLaw
import Derived.Test.YtmicmlcfbmphfaaDoorAeAuto
import Derived.WalkKit
import Derived.ProofKit
import Derived.OpenShut
import Derived.ChangeSlices
import Derived.Carry
import Derived.SizedLaws
set_option linter.unusedSimpArgs false
set_option linter.unusedVariables false
set_option linter.unnecessarySimpa false
namespace Go.Proofs.YtmicmlcfbmphfaaDoor.Ae
open Go Go.RowKit Go.ChangeShapes Go.WideShapes

/-- An argument that is a slice of integers. -/
theorem arg_ints {H : Type} {enc : TypeId × Value → H} {P : Program} {W : World} {t e : TypeId} {a0 : Option Addr} {len cap : Nat} {d : DataW H} {p : List MemPlace} (ht : P.underlying t = some (.slice e)) (he : P.underlying e = some (.int .i64)) (hc : P.cellsOf e = 1)
    (h : DataW.Trod enc P W 0 (fun _ => true) true t (.slice a0 len cap) d p) (hlt : ∀ x ∈ p, x.block < W.heap.size) :
    ∃ zs : List Int, Rel W.heap.size g0 W (vI zs .dead) (.slice a0 len cap) ∧ (∀ z ∈ zs, R64 z) ∧ zs.length ≤ 9223372036854775807 ∧ (zs = [] ∨ ∃ elems spare, d = .slice elems spare ∧ elems.length = zs.length) := by
  obtain ⟨fuel, hf⟩ := h
  rcases open_ints ht he hc hf with ⟨hcs, hx⟩ | ⟨a, len', cap', zs, hcs, _, hl, hm, hz, hx, hcell, hwz⟩
  · simp [Value.cells] at hcs
    obtain ⟨rfl, rfl, rfl⟩ := hcs
    exact ⟨[], .vs0 _ _ _ trivial, by simp, by simp, .inl rfl⟩
  · simp [Value.cells] at hcs
    obtain ⟨rfl, rfl, rfl⟩ := hcs
    simp only [Prod.mk.injEq] at hx
    obtain ⟨rfl, rfl⟩ := hx
    simp only [if_true] at hz
    have hlen : (zs.take len).length = len := by simp; omega
    have hml : len ≤ 9223372036854775807 := by have : maxLen = 9223372036854775807 := by decide
                                               omega
    rcases Nat.eq_zero_or_pos len with h0 | h0
    · subst h0
      exact ⟨[], .vs0 _ _ _ trivial, by simp, by simp, .inl rfl⟩
    · have hsp : a.spot = none := by
        have := hcell 0 (by omega)
        simp only [Addr.add, if_true] at this
        unfold World.cell? at this
        split at this
        · split at this
          · cases this
          · rename_i h1; simpa using h1
        · cases this
      have hblk : a.block < W.heap.size := by
        have : MemPlace.cell a.block a.off ∈ MemPlace.row a zs.length := MemPlace.mem_row.2 ⟨0, by omega, by simp⟩
        exact hlt _ this
      obtain ⟨b, o, spot⟩ := a
      simp only at hsp hblk
      subst hsp
      refine ⟨zs.take len, ?_, fun z hz' => ?_, by omega, .inr ⟨_, _, rfl, by simp [lits]⟩⟩
      · have hlm : ((zs.take len).map (AV.int .i64)).length = len := by simp; omega
        have key := Rel.mk_vs (N0 := W.heap.size) (g := g0) (w := W) (es := (zs.take len).map (AV.int .i64)) (tk := .dead) (c := b) (o := o) (cap := cap) (sz := 1)
          (List.ne_nil_of_length_pos (by omega)) (fun e he => by obtain ⟨x, _, rfl⟩ := List.mem_map.1 he; rfl) (by omega) trivial (fun j v hj => ?_)
        · rw [hlm] at key; exact key
        · have hfl : flat ((zs.take len).map (AV.int .i64)) = (zs.take len).map (AV.int .i64) := flat_ones (fun v hv => by obtain ⟨x, _, rfl⟩ := List.mem_map.1 hv; rfl)
          rw [hfl] at hj
          have hjl := (List.getElem?_eq_some_iff.1 hj).1
          rw [hlm] at hjl
          rw [List.getElem?_map, List.getElem?_take_of_lt hjl] at hj
          have hjz : j < zs.length := by omega
          rw [List.getElem?_eq_getElem hjz] at hj
          simp only [Option.map_some, Option.some.injEq] at hj
          subst hj
          refine ⟨rfl, .inl hblk, .int .i64 zs[j], ?_, .int _ _⟩
          have h1 := hcell j hjz
          have h2 : (⟨b, o, none⟩ : Addr).add j = ⟨b, o + j, none⟩ := by
            unfold Addr.add; split
            · rename_i e; subst e; rfl
            · rfl
          rw [h2] at h1
          unfold cellA; rw [h1]
          simp [List.getD, List.getElem?_eq_getElem hjz]
      · have := hwz z (List.mem_of_mem_take hz')
        simp only [Lit.wf, Bool.and_eq_true, decide_eq_true_eq] at this
        unfold R64
        have e1 : IntKind.i64.min = -9223372036854775808 := by decide
        have e2 : IntKind.i64.max = 9223372036854775807 := by decide
        omega

/-- An argument that is an integer. -/
theorem arg_int {n : Int} {W : World} (hw : (Lit.int .i64 n).wf = true) : Rel W.heap.size g0 W (I n) (.int .i64 n) ∧ R64 n := by
  refine ⟨.int _ _, ?_⟩
  simp only [Lit.wf, Bool.and_eq_true, decide_eq_true_eq] at hw
  unfold R64
  have e1 : IntKind.i64.min = -9223372036854775808 := by decide
  have e2 : IntKind.i64.max = 9223372036854775807 := by decide
  omega

/-- A walk that comes to true is what the row asks. -/
theorem law_walk {P : Program} {H : Nat → Hint} (hmix : P.follows .mixedOrders = true) {f : Nat} {args : List AV} (h : W (callL P (fun _ => none) H f args []) (fun r => r.1 = .bool true)) (w : World) (args' : Array Value)
    (hl : RelL w.heap.size g0 w args args') : Calls P f args' w fun e w' => e = .returned (.bool true) ∧ Below w.heap.size w w' := by
  obtain ⟨⟨v, S'⟩, hr, hv⟩ := h
  simp only at hv; subst hv
  obtain ⟨k, hk⟩ := callL_iff.1 hr
  exact law_calls (k := k) hmix (by rw [hk]; rfl) w args' (fun n cs h => by cases h) hl

theorem relL1 {N0 : Nat} {g : G} {w : World} {a : AV} {a' : Value} (h : Rel N0 g w a a') : RelL N0 g w [a] #[a'] :=
  ⟨rfl, fun j v hj => by cases j with | zero => simp at hj; subst hj; exact ⟨a', rfl, h⟩ | succ j => simp at hj⟩
theorem relL_cons {N0 : Nat} {g : G} {w : World} {a : AV} {a' : Value} {l : List AV} {l' : List Value} (h : Rel N0 g w a a') (hl : RelL N0 g w l l'.toArray) : RelL N0 g w (a :: l) (a' :: l').toArray := by
  refine ⟨by simpa using hl.1, fun j v hj => ?_⟩
  cases j with
  | zero => simp at hj; subst hj; exact ⟨a', by simp, h⟩
  | succ j => obtain ⟨u, h1, h2⟩ := hl.2 j v (by simpa using hj); exact ⟨u, by simpa using h1, h2⟩
end Go.Proofs.YtmicmlcfbmphfaaDoor.Ae

/- Each operation of the interpreter is what the model's operation comes to: arithmetic, conversions, look-ups, building.
   No conditions beyond those of each lemma. -/
import Derived.Test.YtmicmlcfbmphfaaDoorAeOps2
import Derived.Laws.BytesString
import Derived.Laws.Strings
import Derived.Laws.Entries
set_option linter.unusedSimpArgs false
set_option linter.unusedVariables false
set_option linter.unnecessarySimpa false
namespace Go.Proofs.YtmicmlcfbmphfaaDoor.Ae
open Go Go.RowKit

section
variable {N0 : Nat} {S : St} {g : G} {w : World} {P : Program}

theorem extract_ok {vs : List AV} {v : AV} {x' : Value} {i : Nat} (hr : Rel N0 g w (.tuple vs) x') (h : vs[i]? = some v) :
    ∃ v', (Instr.extract x' i).run P w = .ok v' w ∧ Rel N0 g w v v' := by
  obtain ⟨cs', rfl, hl⟩ := RelL.of_tuple hr
  obtain ⟨v', h1, h2⟩ := hl.2 i v h
  exact ⟨v', by simp [Instr.extract, h1], h2⟩

theorem un_ok {op : UnOp} {x v : AV} {x' : Value} (hr : Rel N0 g w x x') (h : unP op x = some v) : ∃ v', (Op.unary op x').run P w = .ok v' w ∧ Rel N0 g w v v' := by
  unfold unP at h
  split at h
  · cases hr; simp at h; subst h; exact ⟨_, by simp [Op.unary, Op.intArith], .int _ _⟩
  · cases hr; simp at h; subst h; exact ⟨_, by simp [Op.unary, Op.intBits], .int _ _⟩
  · cases hr; simp at h; subst h; exact ⟨_, by simp [Op.unary], .bool _⟩
  · simp at h

theorem intBin_ok {op : BinOp} {k : IntKind} {a b : Int} {v : AV} (hs : op ≠ .shl ∧ op ≠ .shr) (h : intBin op k a b = some v) :
    ∃ v', (∀ t, (Go.binOp op t (.int k a) (.int k b)).run P w = .ok v' w) ∧ Rel N0 g w v v' := by
  cases op <;> simp only [intBin] at h <;>
    first
      | (simp only [Option.some.injEq] at h; subst h; exact ⟨_, fun t => by simp only [Go.binOp, ne_eq, not_true_eq_false, if_false, Op.intArith, Op.intBits, Op.intCmp]; rfl, by constructor⟩)
      | (split at h
         · simp at h
         · rename_i hb
           simp only [Option.some.injEq] at h; subst h
           exact ⟨_, fun t => by simp only [Go.binOp, ne_eq, not_true_eq_false, if_false, Op.intDiv, hb]; rfl, by constructor⟩)
      | (exact absurd h (by simp))

theorem shift_ok {op : BinOp} {k k' : IntKind} {a b : Int} {v : AV} (hs : op = .shl ∨ op = .shr) (h : shiftBin op k a b = some v) :
    ∃ v', (∀ t, (Go.binOp op t (.int k a) (.int k' b)).run P w = .ok v' w) ∧ Rel N0 g w v v' := by
  unfold shiftBin at h
  split at h
  · simp at h
  · rename_i hb
    rcases hs with rfl | rfl <;> simp only [Option.some.injEq] at h <;> subst h <;> exact ⟨_, fun t => by simp [Go.binOp, Op.shift, hb], .int _ _⟩

theorem guard_int {op : BinOp} {t : TypeId} {x y : Operand} {a b : Value} (ha : ∀ cs, a ≠ .agg cs) (hn : a ≠ .nilIface) : (eqGuard op t x y a b).run P w = .ok () w := by
  unfold eqGuard
  cases a <;> first | exact absurd rfl hn | exact absurd rfl (ha _) | (cases op <;> simp)

theorem toList_eq (a : ByteArray) : a.toList = a.data.toList := ByteArray.toList_eq a

section
variable {t e k : TypeId}
theorem eq_slice1 (hu : P.underlying t = some (.slice e)) (b : Option Addr) (n c m d : Nat) : (Op.equal t (.slice none n c) (.slice b m d)).run P w = .ok b.isNone w := by
  show (Op.equalIn (9999 + 1) t _ _).run P w = _
  unfold Op.equalIn; rw [run_bind_ok (run_underlying hu)]; rfl
theorem eq_slice2 (hu : P.underlying t = some (.slice e)) (a : Addr) (n c m d : Nat) : (Op.equal t (.slice (some a) n c) (.slice none m d)).run P w = .ok false w := by
  show (Op.equalIn (9999 + 1) t _ _).run P w = _
  unfold Op.equalIn; rw [run_bind_ok (run_underlying hu)]; rfl
theorem eq_ptr1 (hu : P.underlying t = some (.pointer e)) (b : Option Addr) : (Op.equal t (.pointer none) (.pointer b)).run P w = .ok b.isNone w := by
  show (Op.equalIn (9999 + 1) t _ _).run P w = _
  unfold Op.equalIn; rw [run_bind_ok (run_underlying hu)]; rfl
theorem eq_ptr2 (hu : P.underlying t = some (.pointer e)) (a : Addr) : (Op.equal t (.pointer (some a)) (.pointer none)).run P w = .ok false w := by
  show (Op.equalIn (9999 + 1) t _ _).run P w = _
  unfold Op.equalIn; rw [run_bind_ok (run_underlying hu)]; rfl
theorem eq_map1 (hu : P.underlying t = some (.map k e)) (b : Option Nat) : (Op.equal t (.map none) (.map b)).run P w = .ok b.isNone w := by
  show (Op.equalIn (9999 + 1) t _ _).run P w = _
  unfold Op.equalIn; rw [run_bind_ok (run_underlying hu)]; rfl
theorem eq_map2 (hu : P.underlying t = some (.map k e)) (a : Nat) : (Op.equal t (.map (some a)) (.map none)).run P w = .ok false w := by
  show (Op.equalIn (9999 + 1) t _ _).run P w = _
  unfold Op.equalIn; rw [run_bind_ok (run_underlying hu)]; rfl
theorem eq_func0 {ps rs : Array TypeId} {v : Bool} (hu : P.underlying t = some (.func ps rs v)) : (Op.equal t .nilFunc .nilFunc).run P w = .ok true w := by
  show (Op.equalIn (9999 + 1) t _ _).run P w = _
  unfold Op.equalIn; rw [run_bind_ok (run_underlying hu)]; rfl
theorem eq_func1 {ps rs : Array TypeId} {v : Bool} (hu : P.underlying t = some (.func ps rs v)) (f : Fn) (a b : Array Value) : (Op.equal t .nilFunc (.func f a b)).run P w = .ok false w := by
  show (Op.equalIn (9999 + 1) t _ _).run P w = _
  unfold Op.equalIn; rw [run_bind_ok (run_underlying hu)]; rfl
theorem eq_func2 {ps rs : Array TypeId} {v : Bool} (hu : P.underlying t = some (.func ps rs v)) (f : Fn) (a b : Array Value) : (Op.equal t (.func f a b) .nilFunc).run P w = .ok false w := by
  show (Op.equalIn (9999 + 1) t _ _).run P w = _
  unfold Op.equalIn; rw [run_bind_ok (run_underlying hu)]; rfl
theorem eq_bool (hu : P.underlying t = some .bool) (a b : Bool) : (Op.equal t (.bool a) (.bool b)).run P w = .ok (a == b) w := by
  show (Op.equalIn (9999 + 1) t _ _).run P w = _
  unfold Op.equalIn; rw [run_bind_ok (run_underlying hu)]; rfl
end

/-- A comparison with nil. -/
theorem nil_eq {d : TypeDesc} {t : TypeId} {x y : AV} {x' y' : Value} {b : Bool} (hu : P.underlying t = some d) (hx : Rel N0 g w x x') (hy : Rel N0 g w y y')
    (hn : nilT d y = true) (hf : fitT d x = true) (h : isNil x = some b) : (Op.equal t x' y').run P w = .ok b w ∧ (Op.equal t y' x').run P w = .ok b w := by
  cases d <;> simp only [fitT, Bool.false_eq_true] at hf
  case slice e =>
    have hy' : y' = .slice none 0 0 := by
      cases hy <;> simp only [nilT, Bool.false_eq_true] at hn
      · rename_i tk2 A cap ht
        cases tk2 <;> simp only [Bool.false_eq_true] at hn
        obtain ⟨rfl, rfl⟩ := ht; rfl
      · rename_i es2 tk2 _ _ _ _ _ _ _ _ htk _ _
        cases es2 <;> cases tk2 <;> simp at hn
        exact htk.elim
    subst hy'
    have key : ∀ (A : Option Addr) (n c : Nat), A.isNone = b → (Op.equal t (.slice A n c) (.slice none 0 0)).run P w = .ok b w ∧ (Op.equal t (.slice none 0 0) (.slice A n c)).run P w = .ok b w := by
      intro A n c hA
      cases A with
      | none => simp at hA; subst hA; exact ⟨eq_slice1 hu _ _ _ _ _, eq_slice1 hu _ _ _ _ _⟩
      | some A => simp at hA; subst hA; exact ⟨eq_slice2 hu _ _ _ _ _, eq_slice1 hu _ _ _ _ _⟩
    cases x <;> simp only [Bool.false_eq_true] at hf
    case rs b0 off len sz =>
      cases hx
      simp [isNil] at h; subst h
      exact key _ _ _ rfl
    rename_i es tk
    rcases Rel.of_vs hx with ⟨rfl, A, cap, rfl, ht⟩ | ⟨hne, c, o, cap, sz, rfl, _⟩
    · cases tk with
      | nil => obtain ⟨rfl, rfl⟩ := ht; simp [isNil] at h; subst h; exact key none _ _ rfl
      | exact =>
        obtain ⟨h1, rfl⟩ := ht; simp [isNil] at h; subst h
        exact key A _ _ (by cases A <;> simp_all)
      | dead => simp [isNil] at h
      | live t => simp [isNil] at h
    · cases es with
      | nil => exact absurd rfl hne
      | cons e r => simp [isNil] at h; subst h; exact key _ _ _ rfl
  case pointer e =>
    cases y <;> simp only [nilT, Bool.false_eq_true] at hn
    cases hy
    cases x <;> simp only [Bool.false_eq_true] at hf <;> cases hx <;> simp [isNil] at h <;> subst h
    · exact ⟨eq_ptr2 hu _, eq_ptr1 hu _⟩
    · exact ⟨eq_ptr1 hu _, eq_ptr1 hu _⟩
    · exact ⟨eq_ptr2 hu _, eq_ptr1 hu _⟩
  case map k e =>
    cases y <;> simp only [nilT, Bool.false_eq_true] at hn
    cases hy
    cases x <;> simp only [Bool.false_eq_true] at hf <;> cases hx <;> simp [isNil] at h <;> subst h
    · exact ⟨eq_map2 hu _, eq_map1 hu _⟩
    · exact ⟨eq_map1 hu _, eq_map1 hu _⟩
  case func ps rs v =>
    cases y <;> simp only [nilT, Bool.false_eq_true] at hn
    cases hy
    cases x <;> simp only [Bool.false_eq_true] at hf <;> cases hx <;> simp [isNil] at h <;> subst h
    · exact ⟨eq_func2 hu _ _ _, eq_func1 hu _ _ _⟩
    · exact ⟨eq_func0 hu, eq_func0 hu⟩

theorem eql_ok {t : TypeId} {x y : AV} {x' y' : Value} {b : Bool} (hx : Rel N0 g w x x') (hy : Rel N0 g w y y') (h : eqlP P t x y = some b) : (Op.equal t x' y').run P w = .ok b w := by
  unfold eqlP at h
  split at h
  · rename_i d hu
    split at h
    · cases hx; cases hy; simp at h; subst h; exact eq_bool hu _ _
    · split at h
      · rename_i hc
        simp only [Bool.and_eq_true] at hc
        exact (nil_eq hu hx hy hc.1 hc.2 h).1
      · split at h
        · rename_i hc
          simp only [Bool.and_eq_true] at hc
          exact (nil_eq hu hy hx hc.1 hc.2 h).2
        · simp at h
  · simp at h

end
end Go.Proofs.YtmicmlcfbmphfaaDoor.Ae

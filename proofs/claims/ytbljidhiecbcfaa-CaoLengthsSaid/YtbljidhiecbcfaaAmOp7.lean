/-
  Operations, one by one: two operands.
-/
import Derived.Test.YtbljidhiecbcfaaAmOp6
namespace Go.PgAM
open Go Go.RowKit
set_option linter.unusedVariables false
set_option linter.unusedSimpArgs false
variable {P : Program} {E : Env} {Z : At0} {X : Cx} {st st' : St} {a : Act} {w w' : World} {o : Oper} {next : Act → World → Prop} {Q : Exit → Act → World → Prop}

theorem cond_some {R : Type} {c : Bool} {k : Option R} {y : R} (h : cond c k none = some y) : c = true ∧ k = some y := by
  cases c with
  | true => exact ⟨rfl, h⟩
  | false => cases h
theorem cond_none {R : Type} {c : Bool} {k : Option R} {y : R} (h : cond c none k = some y) : c = false ∧ k = some y := by
  cases c with
  | false => exact ⟨rfl, h⟩
  | true => cases h
theorem guard_int {op : BinOp} {T : TypeId} {x y : Operand} {k k' : IntKind} {m n : Int} : (eqGuard op T x y (.int k m) (.int k' n)).run P w = .ok () w := by
  unfold eqGuard
  cases op <;> rfl
theorem binInt_ok {bs : List (Nat × Buf)} {op : BinOp} {T : TypeId} {k k' : IntKind} {m n : Int} {pv : PV} (h : binInt op k k' m n some = some pv) : ∃ v, (binOp op T (.int k m) (.int k' n)).run P w = .ok v w ∧ RelP P X bs w pv v := by
  cases op
  case shl =>
    obtain ⟨h1, h⟩ := grd_some (show grd _ _ = some pv from h)
    cases h
    have h1 : ¬ n < 0 := by have := of_decide_eq_true h1; omega
    exact ⟨_, by simp only [binOp, Op.shift, if_neg h1]; rfl, by simp only [PV.i, RelP, RelC, RepS, b_shl]⟩
  case shr =>
    obtain ⟨h1, h⟩ := grd_some (show grd _ _ = some pv from h)
    cases h
    have h1 : ¬ n < 0 := by have := of_decide_eq_true h1; omega
    exact ⟨_, by simp only [binOp, Op.shift, if_neg h1]; rfl, by simp only [PV.i, RelP, RelC, RepS, b_shr]⟩
  all_goals
    obtain ⟨h0, h2⟩ := cond_some (show cond _ _ none = some pv from h)
    clear h
    have h0 := of_decide_eq_true h0
    subst h0
  case quo =>
    obtain ⟨h1, h3⟩ := cond_none (show cond (n == 0) none _ = some pv from h2)
    cases h3
    have h1 : ¬ n = 0 := by simpa using h1
    exact ⟨_, by simp only [binOp, ne_eq, not_true_eq_false, if_false, Op.intDiv, if_neg h1]; rfl, by simp only [PV.i, RelP, RelC, RepS]⟩
  case rem =>
    obtain ⟨h1, h3⟩ := cond_none (show cond (n == 0) none _ = some pv from h2)
    cases h3
    have h1 : ¬ n = 0 := by simpa using h1
    exact ⟨_, by simp only [binOp, ne_eq, not_true_eq_false, if_false, Op.intDiv, if_neg h1]; rfl, by simp only [PV.i, RelP, RelC, RepS]⟩
  all_goals try (cases h2; done)
  all_goals
    cases h2
    exact ⟨_, by simp only [binOp, ne_eq, not_true_eq_false, if_false, Op.intArith, Op.intBits, Op.intCmp]; rfl, by simp only [PV.i, PV.bo, RelP, RelC, RepS, b_and, b_or, b_xor, b_andNot]⟩
theorem guard_str {op : BinOp} {T : TypeId} {x y : Operand} {m n : ByteArray} : (eqGuard op T x y (.string m) (.string n)).run P w = .ok () w := by
  unfold eqGuard
  cases op <;> rfl
theorem guard_bool {op : BinOp} {T : TypeId} {x y : Operand} {m n : Bool} : (eqGuard op T x y (.bool m) (.bool n)).run P w = .ok () w := by
  unfold eqGuard
  cases op <;> rfl
theorem binStr_ok {bs : List (Nat × Buf)} {op : BinOp} {T : TypeId} {m n : ByteArray} {pv : PV} (h : binStr op m n some = some pv) : ∃ v, (binOp op T (.string m) (.string n)).run P w = .ok v w ∧ RelP P X bs w pv v := by
  cases op
  case add =>
    obtain ⟨h1, h2⟩ := grd_some (show grd _ _ = some pv from h)
    cases h2
    have h1 : m.size + n.size ≤ 9223372036854775807 := of_decide_eq_true h1
    refine ⟨.string (m ++ n), ?_, by simp only [RelP, RelC, RepS]⟩
    have hmax : IntKind.i64.max = 9223372036854775807 := by decide
    simp only [binOp, Op.stringOp, hmax]
    rw [if_neg (by omega)]; rfl
  case eql => cases h; exact ⟨_, rfl, by simp only [PV.bo, RelP, RelC, RepS]⟩
  case neq => cases h; exact ⟨_, rfl, by simp only [PV.bo, RelP, RelC, RepS]⟩
  all_goals cases h
theorem equal_bool {T : TypeId} {m n : Bool} (hu : P.underlying T = some .bool) : (Op.equal T (.bool m) (.bool n)).run P w = .ok (m == n) w := by
  have e : Op.equal T (.bool m) (.bool n) = Op.equalIn (9999 + 1) T (.bool m) (.bool n) := rfl
  rw [e, Op.equalIn]
  simp only [Sem.run_bind, run_underlying hu, Result.andThen_ok]
  rfl
theorem binBool_ok {bs : List (Nat × Buf)} {op : BinOp} {T : TypeId} {m n : Bool} {pv : PV} (hu : P.underlying T = some .bool) (h : binBool op m n some = some pv) : ∃ v, (binOp op T (.bool m) (.bool n)).run P w = .ok v w ∧ RelP P X bs w pv v := by
  cases op
  case eql => cases h; exact ⟨.bool (m == n), by simp [binOp, equal_bool hu], by simp only [PV.bo, RelP, RelC, RepS]⟩
  case neq => cases h; exact ⟨.bool (!(m == n)), by simp [binOp, equal_bool hu], by simp only [PV.bo, RelP, RelC, RepS]⟩
  all_goals cases h
theorem wp_binOp (hE : EnvOk P E Z) (h : Rel P Z X st a w) (hd : dstOk E o = true) {op : BinOp} {T yT : TypeId} {x y : Operand} (ho : o.op = .binOp op T x y yT) (hs : step1 E o st some = some st') (hn : Goes P E Z X st st' a w o next) : o.wp P a w next Q := by
  unfold step1 at hs
  rw [ho] at hs
  simp only at hs
  split at hs
  · rename_i pa pb e1 e2
    have h1 := opv_ok h e1
    have h2 := opv_ok h e2
    rw [binStep_bind' E op T pa pb (fun v => st.setT o.dst v) some] at hs
    have key : ∀ pv, binStep E op T pa pb some = some pv → st.setT o.dst pv = st' → o.wp P a w next Q := by
      intro pv hb e
      have fin : ∀ v, (eqGuard op T x y (a.eval x) (a.eval y)).run P w = .ok () w → (binOp op T (a.eval x) (a.eval y)).run P w = .ok v w → RelP P X st.b w pv v → o.wp P a w next Q := by
        intro v g1 g2 g3
        refine wp_value (v := v) (w' := w) (by unfold execOp; rw [ho]; simp [g1, g2]) ?_
        exact hn.pure h (dst_lt hE hd) g3 e
      unfold binStep at hb
      split at hb
      · simp only [RelP, RelC, RepS] at h1 h2
        obtain ⟨v, g1, g2⟩ := binInt_ok (P := P) (X := X) (w := w) (bs := st.b) (T := T) hb
        exact fin v (by rw [h1, h2]; exact guard_int) (by rw [h1, h2]; exact g1) g2
      · simp only [RelP, RelC, RepS] at h1 h2
        obtain ⟨v, g1, g2⟩ := binStr_ok (P := P) (X := X) (w := w) (bs := st.b) (T := T) hb
        exact fin v (by rw [h1, h2]; exact guard_str) (by rw [h1, h2]; exact g1) g2
      · simp only [RelP, RelC, RepS] at h1 h2
        split at hb
        · rename_i ti e3
          split at hb
          · rename_i e4
            obtain ⟨v, g1, g2⟩ := binBool_ok (P := P) (X := X) (w := w) (bs := st.b) (T := T) (tyB_bool (hE.tyOf e3) e4) hb
            exact fin v (by rw [h1, h2]; exact guard_bool) (by rw [h1, h2]; exact g1) g2
          · cases hb
        · cases hb
      · rename_i ps qs
        obtain ⟨hm, hb2⟩ := cond_some hb
        obtain ⟨u, hu, hua⟩ := h1
        obtain ⟨u', hu', hua'⟩ := h2
        split at hb2
        rotate_left
        · cases hb2
        rename_i ti eti
        split at hb2
        rotate_left
        · cases hb2
        rename_i cs0 ecs
        have hEq := hE.eqs T ti cs0 hm eti ecs
        split at hb2
        · rename_i c hc
          cases hb2
          obtain ⟨g1, g2⟩ := hEq .eql x y ps qs u u' c X st.b w (.inl rfl) hua hua' hc
          exact fin (.bool c) (by rw [hu, hu']; exact g1) (by rw [hu, hu']; simp [binOp, g2]) (by simp only [PV.bo, RelP, RelC, RepS])
        · rename_i c hc
          cases hb2
          obtain ⟨g1, g2⟩ := hEq .neq x y ps qs u u' c X st.b w (.inr rfl) hua hua' hc
          exact fin (.bool (!c)) (by rw [hu, hu']; exact g1) (by rw [hu, hu']; simp [binOp, g2]) (by simp only [PV.bo, RelP, RelC, RepS])
        · cases hb2
      · cases hb
    cases hb : binStep E op T pa pb some with
    | none => 
      have := binStep_bind E op T pa pb (fun v => some (st.setT o.dst v))
      rw [hb] at this
      rw [this] at hs; cases hs
    | some pv =>
      have := binStep_bind E op T pa pb (fun v => some (st.setT o.dst v))
      rw [hb] at this
      rw [this] at hs
      exact key pv hb (Option.some.inj hs)
  · cases hs
end Go.PgAM

/-
  Operations, one by one: those that only make a value.
-/
import Derived.Test.YtbljidhiecbcfaaAmBind
namespace Go.PgAM
open Go Go.RowKit
set_option linter.unusedVariables false
set_option linter.unusedSimpArgs false

def NoMv (C : Tab) : Prop := ∀ f con, C f = some con → con.as.any AS.isMv = false
def Quiet (E : Env) : Prop := NoMv E.C ∧ E.q = true
def EqOk (P : Program) (T : TypeId) (cs : Scs) : Prop := ∀ (op : BinOp) (x y : Operand) (ps qs : List PC) (u v : Array Value) (c : Bool) (X : Cx) (bs : List (Nat × Buf)) (w : World),
  (op = .eql ∨ op = .neq) → All2 (RelK P X bs w) ps u.toList → All2 (RelK P X bs w) qs v.toList → flatEq cs ps qs = some c →
    (eqGuard op T x y (.agg u) (.agg v)).run P w = .ok () w ∧ (Op.equal T (.agg u) (.agg v)).run P w = .ok c w
/-- What the machine is told is so. -/
structure EnvOk (P : Program) (E : Env) (Z : At0) : Prop where
  ty : tysB P E.ty = true
  C : SoundTab P E.C
  nt : E.nt = Z.nt
  lo : E.lo = Z.lo
  eqs : ∀ T ti cs, memb E.eqs T = true → E.tyOf T = some ti → ti.vt = .ag cs → EqOk P T cs
theorem Tab.still_ok {P : Program} {C : Tab} (h : SoundTab P C) : SoundTab P C.still ∧ NoMv C.still := by
  have key : ∀ f con, C.still f = some con → C f = some con ∧ con.as.any AS.isMv = false := by
    intro f con hf
    unfold Tab.still at hf
    split at hf
    · rename_i c e
      cases hm : c.as.any AS.isMv with
      | true => rw [hm] at hf; cases hf
      | false => rw [hm] at hf; cases hf; exact ⟨e, hm⟩
    · cases hf
  exact ⟨fun f con hf => h f con (key f con hf).1, fun f con hf => (key f con hf).2⟩
theorem EnvOk.still {P : Program} {E : Env} {Z : At0} (h : EnvOk P E Z) : EnvOk P E.still Z := ⟨h.ty, (Tab.still_ok h.C).1, h.nt, h.lo, h.eqs⟩

section
variable {P : Program} {E : Env} {Z : At0} {X : Cx} {st st' : St} {a : Act} {w w' : World} {o : Oper} {next : Act → World → Prop} {Q : Exit → Act → World → Prop}

/-- What comes behind an operation may rely on. -/
def Goes (P : Program) (E : Env) (Z : At0) (X : Cx) (st st' : St) (a : Act) (w : World) (o : Oper) (next : Act → World → Prop) : Prop :=
  ∀ v X' w', Rel P Z X' st' (a.put o.dst v) w' → (isQ o = true → Quiet E → Step X X' st st' w w' o.dst) → next (a.put o.dst v) w'

theorem dst_lt (hE : EnvOk P E Z) (hd : dstOk E o = true) : ∀ n, o.dst = some n → Z.ok n := by
  intro n e
  unfold dstOk at hd
  rw [e] at hd
  simp only [Bool.and_eq_true] at hd
  exact ⟨by rw [← hE.nt]; exact Nat.le_of_ble_eq_true hd.1, by rw [← hE.lo]; exact Nat.le_of_ble_eq_true hd.2⟩
theorem Goes.pure (hn : Goes P E Z X st st' a w o next) (h : Rel P Z X st a w) (hd : ∀ n, o.dst = some n → Z.ok n) {pv : PV} {v : Value} (hv : RelP P X st.b w pv v) (hst : st.setT o.dst pv = st') : next (a.put o.dst v) w := by
  subst hst
  exact hn v X w (h.put' hd hv) fun _ _ => Step.same pv
theorem wp_value {v : Value} (h : (execOp a.eval o).run P w = .ok (.value v) w') (hn : next (a.put o.dst v) w') : o.wp P a w next Q := by
  unfold Oper.wp; rw [h]; exact hn
theorem wp_skip' (h : (execOp a.eval o).run P w = .ok .skip w') (hn : next (a.put o.dst Go.undef) w') : o.wp P a w next Q := by
  unfold Oper.wp; rw [h]; exact hn

theorem opv_ok (h : Rel P Z X st a w) {x : Operand} {pv : PV} (hx : opv st x = some pv) : RelP P X st.b w pv (a.eval x) := by
  cases x with
  | tmp t =>
    have e : st.tmp t = pv := Option.some.inj hx
    subst e
    unfold St.tmp
    cases hl : look st.t t with
    | none => trivial
    | some pv => exact h.t t pv hl
  | const v =>
    unfold opv at hx
    cases v with
    | int k n => cases hx; simp [RelP, RelC, RepS, Act.eval]
    | bool b => cases hx; simp [RelP, RelC, RepS, Act.eval]
    | string s => cases hx; simp [RelP, RelC, RepS, Act.eval]
    | _ => cases hx
  | func f => cases hx; exact ⟨#[], rfl, trivial⟩
  | global g => cases hx
theorem opc_ok (h : Rel P Z X st a w) {x : Operand} {p : PC} (hx : opc st x = some p) : RelC P X st.b w p (a.eval x) := by
  unfold opc at hx
  split at hx
  · rename_i p' e
    cases hx
    exact opv_ok h e
  · cases hx
theorem some_ret {v : Option PV} {dst : Option Nat} (h : (match v with | some v => some (st.setT dst v) | none => none) = some st') : ∃ pv, v = some pv ∧ st.setT dst pv = st' := by
  cases v with
  | none => cases h
  | some pv => cases h; exact ⟨pv, rfl, rfl⟩

theorem wp_move (hE : EnvOk P E Z) (h : Rel P Z X st a w) (hd : dstOk E o = true) {x : Operand} (ho : o.op = .move x) (hs : step1 E o st some = some st') (hn : Goes P E Z X st st' a w o next) : o.wp P a w next Q := by
  have he : (execOp a.eval o).run P w = .ok (.value (a.eval x)) w := by unfold execOp; rw [ho]; rfl
  refine wp_value he ?_
  unfold step1 at hs
  rw [ho] at hs
  simp only at hs
  split at hs
  · rename_i e1; cases e1
    split at hs
    · rename_i d ti e2 e3
      split at hs
      · rename_i e e4
        cases hs
        refine hn _ { X with β := upd X.β d none } w ?_ fun hq _ => ?_
        · rw [e2]
          exact (h.newNil d true e).put (dst_lt hE hd d e2) ⟨⟨true, e, []⟩, by rw [look_newBuf, if_pos rfl], by simp [SlAt, upd_same, Act.eval]⟩
        · exfalso; simp [isQ, ho] at hq
      · cases hs
    · cases hs
  · rename_i e1; cases e1
  · rename_i e1 e2; cases e2
    obtain ⟨pv, e3, e4⟩ := some_ret hs
    exact hn.pure h (dst_lt hE hd) (opv_ok h e3) e4
  all_goals first | (cases hs; done) | (rename_i e1; cases e1)
theorem wp_pick (hE : EnvOk P E Z) (h : Rel P Z X st a w) (hd : dstOk E o = true) {c x y : Operand} (ho : o.op = .pick c x y) (hs : step1 E o st some = some st') (hn : Goes P E Z X st st' a w o next) : o.wp P a w next Q := by
  unfold step1 at hs
  rw [ho] at hs
  simp only at hs
  split at hs
  · rename_i c' x' y' e1 e2 e3
    have h1 := opc_ok h e1
    have h2 := opc_ok h e2
    have h3 := opc_ok h e3
    simp only [RelC, RepS] at h1 h2 h3
    refine wp_value (v := if (show Bool from c') = true then .bool x' else .bool y') (w' := w) (by unfold execOp; rw [ho]; simp only [Go.asBool, h1, h2, h3]; cases c' <;> rfl) ?_
    refine hn.pure h (dst_lt hE hd) (pv := .s (.d ⟨.bool, cond c' x' y'⟩)) ?_ (Option.some.inj hs)
    simp only [RelP, RelC, RepS]
    cases c' <;> rfl
  · cases hs
theorem wp_nilCheck (hE : EnvOk P E Z) (h : Rel P Z X st a w) (hd : dstOk E o = true) {x : Operand} (ho : o.op = .nilCheck x) (hs : step1 E o st some = some st') (hn : Goes P E Z X st st' a w o next) : o.wp P a w next Q := by
  unfold step1 at hs
  rw [ho] at hs
  simp only at hs
  have key : ∀ p ad, opc st x = some p → a.eval x = .pointer (some ad) → st.setT o.dst (.s p) = st' → o.wp P a w next Q := by
    intro p ad e1 e2 e3
    refine wp_value (v := a.eval x) (w' := w) (by unfold execOp; rw [ho]; simp [e2]) ?_
    exact hn.pure h (dst_lt hE hd) (pv := .s p) (opc_ok h e1) e3
  split at hs
  · rename_i s n e1
    exact key _ _ e1 (opc_ok h e1) (Option.some.inj hs)
  · rename_i cs e1
    obtain ⟨b, off, h1, _⟩ := opc_ok h e1
    exact key _ _ e1 h1 (Option.some.inj hs)
  · rename_i t i n cs e1
    obtain ⟨B, b, cap, _, _, _, _, _, h1, _⟩ := opc_ok h e1
    exact key _ _ e1 h1 (Option.some.inj hs)
  · cases hs
theorem wp_unOp (hE : EnvOk P E Z) (h : Rel P Z X st a w) (hd : dstOk E o = true) {u : UnOp} {T : TypeId} {x : Operand} (ho : o.op = .unOp u T x) (hs : step1 E o st some = some st') (hn : Goes P E Z X st st' a w o next) : o.wp P a w next Q := by
  unfold step1 at hs
  rw [ho] at hs
  cases u <;> simp only at hs
  all_goals try (cases hs; done)
  all_goals (split at hs; rotate_left; cases hs)
  all_goals (rename_i e1; have h1 := opc_ok h e1; simp only [RelC, RepS] at h1)
  all_goals refine wp_value (w' := w) (by unfold execOp; rw [ho]; simp only [h1, Op.unary, Op.intArith, Op.intBits]; rfl) ?_
  all_goals exact hn.pure h (dst_lt hE hd) (by first | (simp only [RelP, RelC, RepS]; done) | (simp only [RelP, RelC, RepS]; rfl)) (Option.some.inj hs)
theorem EnvOk.tyOf (hE : EnvOk P E Z) {T : TypeId} {ti : TI} (h : E.tyOf T = some ti) : tyB P T ti = true := tysB_ok hE.ty T ti h
theorem tyB_und {T : TypeId} {ti : TI} (h : tyB P T ti = true) : ∃ d, P.underlying T = some d ∧ (match ti.vt, d with
      | .sc (.int k), .int k' => decide (k = k') && ti.flds.isEmpty && Nat.beq ti.arr.1 0
      | .sc .bool, .bool => ti.flds.isEmpty && Nat.beq ti.arr.1 0
      | .sc .str, .string => ti.flds.isEmpty && Nat.beq ti.arr.1 0
      | .sc (.sl e), .slice T' => sizeB P T' e.size e.isAg && zeroB P T' e && ti.flds.isEmpty && Nat.beq ti.arr.1 0 && (match P.info? T' with
        | some i => Nat.beq i.bytes ti.eb
        | none => false)
      | .sc (.fn _ _), .func _ _ _ => ti.flds.isEmpty && Nat.beq ti.arr.1 0
      | .ag _, .struct fs => fldsB P fs.toList ti.flds && Nat.beq ti.arr.1 0
      | .ag _, .array n T' => ti.flds.isEmpty && Nat.beq ti.arr.1 n && sizeB P T' ti.arr.2.1 ti.arr.2.2
      | _, _ => false) = true := by
  simp only [tyB, Bool.and_eq_true] at h
  obtain ⟨_, h⟩ := h
  split at h
  · rename_i d e
    exact ⟨d, e, h⟩
  · cases h
theorem tyB_int {T : TypeId} {ti : TI} {k : IntKind} (h : tyB P T ti = true) (hv : ti.vt = .sc (.int k)) : P.underlying T = some (.int k) := by
  obtain ⟨d, hd, h⟩ := tyB_und h
  rw [hv] at h
  cases d <;> simp at h
  rw [hd, h.1.1]
theorem tyB_bool {T : TypeId} {ti : TI} (h : tyB P T ti = true) (hv : ti.vt = .sc .bool) : P.underlying T = some .bool := by
  obtain ⟨d, hd, h⟩ := tyB_und h
  rw [hv] at h
  cases d <;> simp at h
  rw [hd]
theorem tyB_str {T : TypeId} {ti : TI} (h : tyB P T ti = true) (hv : ti.vt = .sc .str) : P.underlying T = some .string := by
  obtain ⟨d, hd, h⟩ := tyB_und h
  rw [hv] at h
  cases d <;> simp at h
  rw [hd]
theorem tyB_sl {T : TypeId} {ti : TI} {e : VT} (h : tyB P T ti = true) (hv : ti.vt = .sc (.sl e)) : ∃ T' i, P.underlying T = some (.slice T') ∧ sizeB P T' e.size e.isAg = true ∧ zeroB P T' e = true ∧ P.info? T' = some i ∧ i.bytes = ti.eb := by
  obtain ⟨d, hd, h⟩ := tyB_und h
  rw [hv] at h
  cases d with
  | slice T' =>
    simp only [Bool.and_eq_true] at h
    obtain ⟨⟨⟨⟨h1, h2⟩, _⟩, _⟩, h3⟩ := h
    split at h3
    · rename_i i hi
      exact ⟨T', i, hd, h1, h2, hi, Nat.eq_of_beq_eq_true h3⟩
    · cases h3
  | _ => simp at h
theorem tyB_struct {T : TypeId} {ti : TI} (h : tyB P T ti = true) (hv : ti.flds ≠ []) : ∃ fs, P.underlying T = some (.struct fs) ∧ fldsB P fs.toList ti.flds = true := by
  obtain ⟨d, hd, h⟩ := tyB_und h
  have he : ti.flds.isEmpty = false := by
    cases e : ti.flds with
    | nil => exact absurd e hv
    | cons _ _ => rfl
  split at h <;> simp only [he, Bool.and_eq_true, Bool.false_eq_true, and_false, false_and] at h
  exact ⟨_, hd, h.1⟩
theorem tyB_array {T : TypeId} {ti : TI} (h : tyB P T ti = true) (hv : ti.arr.1 ≠ 0) : ∃ T', P.underlying T = some (.array ti.arr.1 T') ∧ sizeB P T' ti.arr.2.1 ti.arr.2.2 = true := by
  obtain ⟨d, hd, h⟩ := tyB_und h
  have he : Nat.beq ti.arr.1 0 = false := by rw [Bool.eq_false_iff]; exact fun h' => hv (Nat.eq_of_beq_eq_true h')
  split at h <;> simp only [he, Bool.and_eq_true, Bool.false_eq_true, and_false, false_and] at h
  rename_i n T' _
  exact ⟨T', by rw [hd, Nat.eq_of_beq_eq_true h.1.2], h.2⟩
theorem nth_eq {α : Type} : ∀ (l : List α) (n : Nat), nth l n = l[n]?
  | [], n => by cases n <;> rfl
  | y :: l, 0 => rfl
  | y :: l, n + 1 => by simpa [nth] using nth_eq l n
theorem fldsB_ok : ∀ {fs : List Field} {l : List (Nat × Nat × Bool)}, fldsB P fs l = true → ∀ (f : Nat) x, nth l f = some x → ∃ fd, fs[f]? = some fd ∧ fd.offset = x.1 ∧ sizeB P fd.type x.2.1 x.2.2 = true
  | [], [], _, f, x, hx => by cases f <;> cases hx
  | [], _ :: _, h, _, _, _ => by cases h
  | _ :: _, [], h, _, _, _ => by cases h
  | fd :: fs, (off, n, ag) :: l, h, f, x, hx => by
    simp only [fldsB, Bool.and_eq_true] at h
    cases f with
    | zero => cases hx; exact ⟨fd, rfl, Nat.eq_of_beq_eq_true h.1.1, h.1.2⟩
    | succ f => simpa using fldsB_ok h.2 f x hx
theorem wp_convert (hE : EnvOk P E Z) (h : Rel P Z X st a w) (hd : dstOk E o = true) {s d : TypeId} {x : Operand} (ho : o.op = .convert s d x) (hs : step1 E o st some = some st') (hn : Goes P E Z X st st' a w o next) : o.wp P a w next Q := by
  unfold step1 at hs
  rw [ho] at hs
  simp only at hs
  split at hs
  · rename_i ti ti' k n e1 e2 e3
    split at hs
    · rename_i kd e4
      have h1 := tyB_int (hE.tyOf e1) e4
      obtain ⟨d', h2, _⟩ := tyB_und (hE.tyOf e2)
      have h3 := opc_ok h e3
      simp only [RelC, RepS] at h3
      refine wp_value (v := .int kd (kd.wrap n)) (w' := w) (by unfold execOp; rw [ho]; simp [convert, h3, run_underlying h1, run_underlying h2, Conv.intToInt]) ?_
      exact hn.pure h (dst_lt hE hd) (by simp only [RelP, RelC, RepS]) (Option.some.inj hs)
    · cases hs
  · cases hs
theorem wp_extract (hE : EnvOk P E Z) (h : Rel P Z X st a w) (hd : dstOk E o = true) {x : Operand} {i : Nat} (ho : o.op = .extract x i) (hs : step1 E o st some = some st') (hn : Goes P E Z X st st' a w o next) : o.wp P a w next Q := by
  unfold step1 at hs
  rw [ho] at hs
  simp only at hs
  split at hs
  · rename_i vs e1
    obtain ⟨us, h1, h2⟩ := opv_ok h e1
    have key : ∀ y, nth vs i = some y → ∃ u, us[i]? = some u ∧ RelTC P X st.b w y u := by
      intro y hy
      rw [nth_eq] at hy
      obtain ⟨u, hu, hr⟩ := All2.get h2 i y hy
      exact ⟨u, by simpa using hu, hr⟩
    split at hs
    · rename_i p e2
      obtain ⟨u, hu, hr⟩ := key _ e2
      refine wp_value (v := u) (w' := w) (by unfold execOp; rw [ho]; simp [h1, Instr.extract, hu]) ?_
      exact hn.pure h (dst_lt hE hd) (pv := .s p) hr.1.1 (Option.some.inj hs)
    · rename_i ps e2
      obtain ⟨u, hu, hr⟩ := key _ e2
      refine wp_value (v := u) (w' := w) (by unfold execOp; rw [ho]; simp [h1, Instr.extract, hu]) ?_
      exact hn.pure h (dst_lt hE hd) (pv := .agg ps) hr (Option.some.inj hs)
    · cases hs
  · cases hs
theorem caps_ok (h : Rel P Z X st a w) : ∀ {cs : List Operand} {l : List Cap}, caps st cs = some l → All2 (RelCap P X w) l (cs.map a.eval)
  | [], l, e => by cases e; trivial
  | c :: cs, l, e => by
    simp only [caps] at e
    split at e
    · rename_i s r e1 e2
      cases e
      exact ⟨opc_ok h e1, caps_ok h e2⟩
    · rename_i c' r e1 e2
      cases e
      exact ⟨opc_ok h e1, caps_ok h e2⟩
    · cases e
theorem wp_makeFunc (hE : EnvOk P E Z) (h : Rel P Z X st a w) (hd : dstOk E o = true) {f : FuncId} {first cs : Array Operand} (ho : o.op = .makeFunc (.func f) first cs) (hs : step1 E o st some = some st') (hn : Goes P E Z X st st' a w o next) : o.wp P a w next Q := by
  unfold step1 at hs
  rw [ho] at hs
  simp only at hs
  cases hf : Nat.beq first.size 0 with
  | false => rw [hf] at hs; cases hs
  | true =>
    rw [hf] at hs
    simp only [cond_true] at hs
    have e0 : first = #[] := Array.eq_empty_of_size_eq_zero (Nat.eq_of_beq_eq_true hf)
    subst e0
    split at hs
    · rename_i l e1
      refine wp_value (v := .func (.func f) #[] (cs.map a.eval)) (w' := w) (by unfold execOp; rw [ho]; simp [Instr.makeFunc]) ?_
      exact hn.pure h (dst_lt hE hd) (pv := .s (.fn f l)) ⟨_, rfl, by simpa using caps_ok h e1⟩ (Option.some.inj hs)
    · cases hs
end
end Go.PgAM

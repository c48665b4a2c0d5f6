/-
  '==' of structs and arrays of numbers and bools.
-/
import Derived.Test.YtbljidhiecbcfaaAmOpen
import Derived.Laws.StructEq
import Derived.ChangeKeysEq
import Derived.DeepKeys
namespace Go.PgAM
open Go Go.RowKit
set_option linter.unusedVariables false
set_option linter.unusedSimpArgs false

def eqTyB (P : Program) : Nat → TypeId → Bool
  | 0, _ => false
  | n + 1, T => match P.underlying T with
    | some .bool => true
    | some (.int _) => true
    | some (.struct fs) => !P.stoodInHeld T && fs.toList.all fun f => f.name != "_" && eqTyB P n f.type
    | some (.array _ E) => eqTyB P n E
    | _ => false
def eqVals : List Value → List Value → Bool
  | [], [] => true
  | .int _ a :: l, .int _ b :: m => (a == b) && eqVals l m
  | .bool a :: l, .bool b :: m => (a == b) && eqVals l m
  | _, _ => false
def Plain (s : Sc) (v : Value) : Prop := match s with
  | .int k => ∃ x, v = .int k x
  | .bool => ∃ b, v = .bool b
  | _ => False
def Pack (ag : Bool) (us : List Value) (x : Value) : Prop := match ag with
  | true => x = .agg us.toArray
  | false => us = [x]
theorem eqVals_app : ∀ {l : List Sc} {a b : List Value} {a' b' : List Value}, All2 Plain l a → All2 Plain l b → eqVals (a ++ a') (b ++ b') = (eqVals a b && eqVals a' b')
  | [], [], [], a', b', _, _ => by simp [eqVals]
  | s :: l, u :: a, v :: b, a', b', h1, h2 => by
    have ih := eqVals_app (a' := a') (b' := b') h1.2 h2.2
    have p1 := h1.1
    have p2 := h2.1
    unfold Plain at p1 p2
    split at p1
    · obtain ⟨x, rfl⟩ := p1
      obtain ⟨y, rfl⟩ := p2
      simp [eqVals, ih, Bool.and_assoc]
    · obtain ⟨x, rfl⟩ := p1
      obtain ⟨y, rfl⟩ := p2
      simp [eqVals, ih, Bool.and_assoc]
    · exact p1.elim
  | [], _ :: _, _, _, _, h, _ => h.elim
  | [], [], _ :: _, _, _, _, h => h.elim
  | _ :: _, [], _, _, _, h, _ => h.elim
  | _ :: _, _ :: _, [], _, _, _, h => h.elim
section
variable {P : Program} {w : World}
theorem scT_und {n : Nat} {T : TypeId} {l : List Sc} (h : scT P n T = some l) : ∃ d, P.underlying T = some d := by
  cases n with
  | zero => cases h
  | succ n =>
    unfold scT at h
    cases e : P.underlying T with
    | none => rw [e] at h; cases h
    | some d => exact ⟨d, rfl⟩
theorem scT_size {n : Nat} {T : TypeId} {l : List Sc} (h : scT P n T = some l) (hl : l.length = P.cellsOf T) : sizeB P T l.length (isAggT P T) = true := by
  obtain ⟨d, hd⟩ := scT_und h
  obtain ⟨i, hi⟩ := info_of_underlying hd
  unfold sizeB isAggT
  rw [hd, hi]
  simp only [Bool.and_eq_true, beq_self_eq_true, and_true]
  have : i.size = l.length := by rw [hl]; simp [Program.cellsOf, hi]
  rw [this]; exact Nat.beq_refl _
theorem scT_one {n : Nat} {T : TypeId} {l : List Sc} (h : scT P n T = some l) (ha : isAggT P T = false) : l.length = 1 := by
  cases n with
  | zero => cases h
  | succ n =>
    unfold scT at h
    unfold isAggT at ha
    split at h
    · cases h; rfl
    · cases h; rfl
    · cases h; rfl
    · split at h
      · obtain ⟨_, h⟩ := cond_some h
        split at h
        · cases h; rfl
        · cases h
      · cases h
    · rename_i fs e; rw [e] at ha; cases ha
    · rename_i k e' e; rw [e] at ha; cases ha
    · cases h
theorem run_part_at {n : Nat} {T : TypeId} {l : List Sc} (h : scT P n T = some l) (hl : l.length = P.cellsOf T) {xs : Array Value} {off : Nat} (hle : off + l.length ≤ xs.size) :
    ∃ v, (part T xs off).run P w = .ok v w ∧ Pack (isAggT P T) ((xs.toList.drop off).take l.length) v := by
  have hs := scT_size h hl
  have h1 := run_isAgg hs w
  have h2 := run_sizeOf hs w
  cases ha : isAggT P T with
  | true =>
    rw [ha] at h1
    refine ⟨.agg (xs.extract off (off + l.length)), by simp [part, h1, h2], ?_⟩
    show _ = Value.agg _
    congr 1
    apply Array.ext'
    simp [Array.toList_extract, List.extract_eq_take_drop]
  | false =>
    rw [ha] at h1
    have h3 := scT_one h ha
    have h4 : xs[off]? = some (xs[off]'(by omega)) := Array.getElem?_eq_getElem (by omega)
    refine ⟨xs[off]'(by omega), by simp [part, h1, h4], ?_⟩
    show (xs.toList.drop off).take l.length = _
    rw [h3]
    have h5 : off < xs.toList.length := by simp; omega
    rw [List.drop_eq_getElem_cons h5]
    simp
theorem plain_sub {l l' : List Sc} {us : List Value} (h : All2 Plain (l ++ l') us) : All2 Plain l (us.take l.length) ∧ All2 Plain l' (us.drop l.length) := by
  refine ⟨?_, ?_⟩
  · have := All2.take l.length h; simpa using this
  · have := All2.drop l.length h; simpa using this
theorem eq_vals : ∀ (n : Nat) {T : TypeId} {l : List Sc}, scT P n T = some l → eqTyB P n T = true → ∀ (d : Nat) {us vs : List Value} {x y : Value}, All2 Plain l us → All2 Plain l vs → Pack (isAggT P T) us x → Pack (isAggT P T) vs y →
    ∀ w, (Op.equalIn (d + n) T x y).run P w = .ok (eqVals us vs) w
  | 0, T, l, h, he, d, us, vs, x, y, hu, hv, hx, hy, w => by cases h
  | n + 1, T, l, h, he, d, us, vs, x, y, hu, hv, hx, hy, w => by
    simp only [scT] at h
    simp only [eqTyB] at he
    cases hund : P.underlying T with
    | none => rw [hund] at h; cases h
    | some dd =>
      rw [hund] at h he
      cases dd with
      | bool =>
        cases h
        have ha : isAggT P T = false := by unfold isAggT; rw [hund]; rfl
        rw [ha] at hx hy
        have hx : us = [x] := hx
        have hy : vs = [y] := hy
        subst hx; subst hy
        obtain ⟨a, rfl⟩ := hu.1
        obtain ⟨b, rfl⟩ := hv.1
        rw [show d + (n + 1) = (d + n) + 1 from rfl, run_equalIn_bool' w (d + n) T a b hund]
        simp [eqVals]
      | int k =>
        cases h
        have ha : isAggT P T = false := by unfold isAggT; rw [hund]; rfl
        rw [ha] at hx hy
        have hx : us = [x] := hx
        have hy : vs = [y] := hy
        subst hx; subst hy
        obtain ⟨a, rfl⟩ := hu.1
        obtain ⟨b, rfl⟩ := hv.1
        rw [show d + (n + 1) = (d + n) + 1 from rfl, run_equalIn_int w (d + n) T k k a b hund]
        simp [eqVals]
      | struct fs =>
        simp only at h he
        split at h
        · rename_i l' hl'
          obtain ⟨hc, h⟩ := cond_some h
          cases h
          have hc := Nat.eq_of_beq_eq_true hc
          have ha : isAggT P T = true := by unfold isAggT; rw [hund]; rfl
          rw [ha] at hx hy
          have hx : x = .agg us.toArray := hx
          have hy : y = .agg vs.toArray := hy
          subst hx; subst hy
          simp only [Bool.and_eq_true, Bool.not_eq_true'] at he
          have hfo : P.fieldsOf T = fs := by unfold Program.fieldsOf; rw [hund]
          rw [show d + (n + 1) = (d + n) + 1 from rfl, run_equalIn_struct w (d + n) T us.toArray vs.toArray (by rw [hfo]; exact hund) he.1, hfo]
          have hul : us.length = l.length := (All2.length hu).symm
          have hvl : vs.length = l.length := (All2.length hv).symm
          have key : ∀ (gs : List Field) (off : Nat) (l' : List Sc), (gs.all fun f => f.name != "_" && eqTyB P n f.type) = true → scF P (scT P n) gs off = some l' → off + l'.length ≤ l.length → All2 Plain l' ((us.drop off).take l'.length) → All2 Plain l' ((vs.drop off).take l'.length) → ∀ w,
              (Op.eqFields (d + n) us.toArray vs.toArray gs).run P w = .ok (eqVals ((us.drop off).take l'.length) ((vs.drop off).take l'.length)) w := by
            intro gs
            induction gs with
            | nil => intro off l' _ hl _ _ _ w; cases hl; simp [Op.eqFields, eqVals]
            | cons f gs ih =>
              intro off l' hm hl hlen hpu hpv w
              simp only [List.all_cons, Bool.and_eq_true, bne_iff_ne, ne_eq] at hm
              simp only [scF] at hl
              obtain ⟨ho, hl⟩ := cond_some hl
              have ho := Nat.eq_of_beq_eq_true ho
              split at hl
              · rename_i l1 hl1
                obtain ⟨hz, hl⟩ := cond_some hl
                have hz := Nat.eq_of_beq_eq_true hz
                split at hl
                · rename_i r hr
                  cases hl
                  simp only [List.length_append] at hlen hpu hpv ⊢
                  have e1 : ∀ zs : List Value, (zs.drop off).take (l1.length + r.length) = (zs.drop off).take l1.length ++ (zs.drop (off + l1.length)).take r.length := fun zs => by
                    rw [List.take_add, List.drop_drop]
                  obtain ⟨u1, u2⟩ := plain_sub hpu
                  obtain ⟨v1, v2⟩ := plain_sub hpv
                  have tk : ∀ zs : List Value, zs.length = l.length → ((zs.drop off).take (l1.length + r.length)).take l1.length = (zs.drop off).take l1.length ∧ ((zs.drop off).take (l1.length + r.length)).drop l1.length = (zs.drop (off + l1.length)).take r.length := fun zs hz => by
                    rw [e1 zs]
                    have hll : ((zs.drop off).take l1.length).length = l1.length := by simp; omega
                    exact ⟨by rw [List.take_left' hll], by rw [List.drop_left' hll]⟩
                  rw [(tk us hul).1] at u1
                  rw [(tk us hul).2] at u2
                  rw [(tk vs hvl).1] at v1
                  rw [(tk vs hvl).2] at v2
                  obtain ⟨a, pa1, pa2⟩ := run_part_at (w := w) hl1 hz (xs := us.toArray) (off := off) (by simp; omega)
                  obtain ⟨b, pb1, pb2⟩ := run_part_at (w := w) hl1 hz (xs := vs.toArray) (off := off) (by simp; omega)
                  have heq := eq_vals n hl1 hm.1.2 d u1 v1 pa2 pb2 w
                  have hih := ih (off + l1.length) r (by simpa using hm.2) hr (by omega) u2 v2 w
                  rw [e1 us, e1 vs, eqVals_app u1 v1]
                  simp only [Op.eqFields, hm.1.1, ne_eq, not_false_eq_true, if_true, Sem.run_bind, ho, pa1, pb1, heq, Result.andThen_ok]
                  cases e : eqVals ((us.drop off).take l1.length) ((vs.drop off).take l1.length) with
                  | false => simp
                  | true => simpa using hih
                · cases hl
              · cases hl
          have := key fs.toList 0 l he.2 hl' (by omega) (by rw [List.drop_zero, ← hul, List.take_length]; exact hu) (by rw [List.drop_zero, ← hvl, List.take_length]; exact hv) w
          rw [List.drop_zero, List.drop_zero] at this
          rw [this]
          rw [← hul, List.take_length, hul, ← hvl, List.take_length]
        · cases h
      | array k e =>
        simp only at h he
        split at h
        · rename_i le hle
          obtain ⟨hc, h⟩ := cond_some h
          cases h
          simp only [Bool.and_eq_true] at hc
          have hc1 := Nat.eq_of_beq_eq_true hc.1
          have ha : isAggT P T = true := by unfold isAggT; rw [hund]; rfl
          rw [ha] at hx hy
          have hx : x = .agg us.toArray := hx
          have hy : y = .agg vs.toArray := hy
          subst hx; subst hy
          obtain ⟨de, hde⟩ := scT_und hle
          obtain ⟨i, hi⟩ := info_of_underlying hde
          rw [show d + (n + 1) = (d + n) + 1 from rfl, run_equalIn_array w (d + n) us.toArray vs.toArray hund hi]
          have hrl : ∀ k, (repL le k).length = k * le.length := by
            intro k
            induction k with
            | zero => simp [repL]
            | succ k ih => simp [repL, ih, Nat.succ_mul, Nat.add_comm]
          have hul : us.length = k * le.length := by rw [← hrl k]; exact (All2.length hu).symm
          have hvl : vs.length = k * le.length := by rw [← hrl k]; exact (All2.length hv).symm
          have key : ∀ (q m : Nat), m + q = k → All2 Plain (repL le q) (us.drop (m * le.length)) → All2 Plain (repL le q) (vs.drop (m * le.length)) → ∀ w, (Op.eqItems (d + n) e (P.cellsOf e) us.toArray vs.toArray (List.range' m q)).run P w = .ok (eqVals (us.drop (m * le.length)) (vs.drop (m * le.length))) w := by
            intro q
            induction q with
            | zero =>
              intro m hm _ _ w
              have hmk : m = k := by omega
              subst hmk
              simp [Op.eqItems, List.drop_of_length_le (Nat.le_of_eq hul), List.drop_of_length_le (Nat.le_of_eq hvl), eqVals]
            | succ q ih =>
              intro m hm hpu hpv w
              simp only [repL] at hpu hpv
              obtain ⟨u1, u2⟩ := plain_sub hpu
              obtain ⟨v1, v2⟩ := plain_sub hpv
              rw [List.drop_drop] at u2 v2
              have em : m * le.length + le.length = (m + 1) * le.length := by rw [Nat.succ_mul]
              have hmk : (m + 1) * le.length ≤ k * le.length := Nat.mul_le_mul_right _ (by omega)
              obtain ⟨a, pa1, pa2⟩ := run_part_at (w := w) hle hc1 (xs := us.toArray) (off := m * le.length) (by simp; omega)
              obtain ⟨b, pb1, pb2⟩ := run_part_at (w := w) hle hc1 (xs := vs.toArray) (off := m * le.length) (by simp; omega)
              have heq := eq_vals n hle he d u1 v1 pa2 pb2 w
              rw [em] at u2 v2
              have hih := ih (m + 1) (by omega) u2 v2 w
              rw [List.range'_succ]
              simp only [Op.eqItems, Sem.run_bind, ← hc1, pa1, pb1, heq, Result.andThen_ok]
              have esplit : ∀ zs : List Value, zs.drop (m * le.length) = (zs.drop (m * le.length)).take le.length ++ zs.drop ((m + 1) * le.length) := fun zs => by
                rw [← em, ← List.drop_drop, List.take_append_drop]
              have e3 : eqVals (us.drop (m * le.length)) (vs.drop (m * le.length)) = (eqVals ((us.drop (m * le.length)).take le.length) ((vs.drop (m * le.length)).take le.length) && eqVals (us.drop ((m + 1) * le.length)) (vs.drop ((m + 1) * le.length))) := by
                have := eqVals_app (a' := us.drop ((m + 1) * le.length)) (b' := vs.drop ((m + 1) * le.length)) u1 v1
                rwa [← esplit us, ← esplit vs] at this
              rw [e3]
              rw [← hc1] at hih
              cases e2 : eqVals ((us.drop (m * le.length)).take le.length) ((vs.drop (m * le.length)).take le.length) with
              | false => simp
              | true => simpa using hih
          have := key k 0 (by omega) (by simpa using hu) (by simpa using hv) w
          simpa [List.range_eq_range'] using this
        · cases h
      | _ => simp at he

theorem flatEq_vals {X : Cx} {bs : List (Nat × Buf)} : ∀ {l : List Sc} {ps qs : List PC} {us vs : List Value} {c : Bool}, flatEq (Scs.ofL l) ps qs = some c → All2 (RelK P X bs w) ps us → All2 (RelK P X bs w) qs vs → All2 Plain l us ∧ All2 Plain l vs ∧ eqVals us vs = c
  | [], ps, qs, us, vs, c, h, h1, h2 => by
    simp only [Scs.ofL] at h
    unfold flatEq at h
    split at h
    · cases h
      cases us with
      | cons _ _ => exact h1.elim
      | nil =>
        cases vs with
        | cons _ _ => exact h2.elim
        | nil => exact ⟨trivial, trivial, rfl⟩
    · rename_i e; cases e
    · rename_i e; cases e
    · cases h
  | s :: l, ps, qs, us, vs, c, h, h1, h2 => by
    simp only [Scs.ofL] at h
    cases ps with
    | nil => cases s <;> cases h
    | cons p ps =>
      cases qs with
      | nil => cases s <;> cases p <;> first | (cases h; done) | (rename_i c; obtain ⟨cs, cx⟩ := c; cases cs <;> cases h)
      | cons q qs =>
        cases us with
        | nil => exact h1.elim
        | cons u us =>
          cases vs with
          | nil => exact h2.elim
          | cons v vs =>
            unfold flatEq at h
            split at h
            · rename_i e _ _; cases e
            · rename_i k r k1 x l2 k2 y m e e1 e2
              cases e; cases e1; cases e2
              obtain ⟨hk, h'⟩ := cond_some h
              simp only [Bool.and_eq_true, decide_eq_true_eq] at hk
              obtain ⟨rfl, rfl⟩ := hk
              clear h
              split at h'
              · rename_i b hb
                have h' := Option.some.inj h'
                subst h'
                obtain ⟨g1, g2, g3⟩ := flatEq_vals hb h1.2 h2.2
                have r1 := h1.1.1
                have r2 := h2.1.1
                simp only [RelC, RepS] at r1 r2
                subst r1; subst r2
                refine ⟨⟨⟨_, rfl⟩, g1⟩, ⟨⟨_, rfl⟩, g2⟩, ?_⟩
                simp only [eqVals, eqI, g3]
                cases ((show Int from x) == y) <;> rfl
              · cases h'
            · rename_i r x l2 y m e e1 e2
              cases e; cases e1; cases e2
              split at h
              · rename_i b hb
                cases h
                obtain ⟨g1, g2, g3⟩ := flatEq_vals hb h1.2 h2.2
                have r1 := h1.1.1
                have r2 := h2.1.1
                simp only [RelC, RepS] at r1 r2
                subst r1; subst r2
                refine ⟨⟨⟨_, rfl⟩, g1⟩, ⟨⟨_, rfl⟩, g2⟩, ?_⟩
                simp only [eqVals, eqB, g3]
                cases ((show Bool from x) == y) <;> rfl
              · cases h
            · cases h
/-- A type whose values are the same if their cells are. -/
def eqOkB (P : Program) (n : Nat) (T : TypeId) (cs : Scs) : Bool := match scT P n T with
  | some l => (match Scs.dec (Scs.ofL l) cs with
    | .isTrue _ => true
    | .isFalse _ => false) && Nat.beq l.length (P.cellsOf T) && eqTyB P n T && isAggT P T && !P.eqGuardType P.depth T && Nat.ble n 9000
  | none => false
theorem eqOk_of {n : Nat} {T : TypeId} {cs : Scs} (h : eqOkB P n T cs = true) : EqOk P T cs := by
  unfold eqOkB at h
  split at h
  · rename_i l hl
    simp only [Bool.and_eq_true, Bool.not_eq_true'] at h
    obtain ⟨⟨⟨⟨⟨h1, h2⟩, h3⟩, h4⟩, h5⟩, h6⟩ := h
    have h6 := Nat.le_of_ble_eq_true h6
    split at h1
    · rename_i e _
      subst e
      intro op x y ps qs u v c X bs w hop hu hv hc
      obtain ⟨g1, g2, g3⟩ := flatEq_vals hc hu hv
      refine ⟨run_eqGuard_agg w op T x y u v h5, ?_⟩
      have := eq_vals n hl h3 (10000 - n) g1 g2 (x := .agg u) (y := .agg v) (by rw [h4]; show _ = Value.agg _; simp) (by rw [h4]; show _ = Value.agg _; simp) w
      rw [show 10000 - n + n = 10000 by omega] at this
      unfold Op.equal Op.maxDepth
      rw [this, g3]
    · cases h1
  · cases h
def eqsB (P : Program) (n : Nat) (ty : List (TypeId × TI)) : List TypeId → Bool
  | [] => true
  | T :: l => (match look ty T with
    | some ti => match ti.vt with
      | .ag cs => eqOkB P n T cs
      | _ => true
    | none => true) && eqsB P n ty l
theorem eqsB_ok {n : Nat} {E : Env} : ∀ {l : List TypeId}, eqsB P n E.ty l = true → ∀ T ti cs, memb l T = true → E.tyOf T = some ti → ti.vt = .ag cs → EqOk P T cs
  | [], _, T, ti, cs, h, _, _ => by cases h
  | T' :: l, hb, T, ti, cs, h, ht, hv => by
    simp only [eqsB, Bool.and_eq_true] at hb
    simp only [memb] at h
    cases e : Nat.beq T' T with
    | true =>
      have e := Nat.eq_of_beq_eq_true e
      subst e
      have h1 := hb.1
      unfold Env.tyOf at ht
      rw [ht] at h1
      simp only [hv] at h1
      exact eqOk_of h1
    | false => rw [e] at h; exact eqsB_ok hb.2 T ti cs h ht hv
end
end Go.PgAM

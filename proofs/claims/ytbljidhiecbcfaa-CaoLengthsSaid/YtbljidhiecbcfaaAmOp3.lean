/-
  Operations, one by one: new memory; a slice's parts; two operands.
-/
import Derived.Test.YtbljidhiecbcfaaAmOp2
namespace Go.PgAM
open Go Go.RowKit
set_option linter.unusedVariables false
set_option linter.unusedSimpArgs false
variable {P : Program} {E : Env} {Z : At0} {X : Cx} {st st' : St} {a : Act} {w w' : World} {o : Oper} {next : Act → World → Prop} {Q : Exit → Act → World → Prop}

theorem zeroS_ok {s : Sc} (hs : ∀ e, s ≠ .sl e) (hf : ∀ x y, s ≠ .fn x y) {bs : List (Nat × Buf)} : RelK P X bs w (.d ⟨s, s.zero⟩) (zeroS s) := by
  cases s with
  | int k => exact ⟨by simp [RelC, RepS, Sc.zero, zeroS], rfl⟩
  | bool => exact ⟨by simp [RelC, RepS, Sc.zero, zeroS], rfl⟩
  | str => exact ⟨by simp [RelC, RepS, Sc.zero, zeroS], rfl⟩
  | sl e => exact absurd rfl (hs e)
  | fn x y => exact absurd rfl (hf x y)
theorem zeroD_ok {bs : List (Nat × Buf)} : ∀ (cs : Scs), All2 (RelK P X bs w) (zeroD cs) (zeroCs cs)
  | .nil => trivial
  | .cons (.fn x y) r => ⟨⟨trivial, rfl⟩, zeroD_ok r⟩
  | .cons (.int k) r => ⟨zeroS_ok (by simp) (by simp), zeroD_ok r⟩
  | .cons .bool r => ⟨zeroS_ok (by simp) (by simp), zeroD_ok r⟩
  | .cons .str r => ⟨zeroS_ok (by simp) (by simp), zeroD_ok r⟩
  | .cons (.sl e) r => ⟨⟨by simp only [RelC, RepS]; exact ⟨none, 0, by simp [zeroS, Sc.zero], Nat.le_refl _, .inl rfl⟩, rfl⟩, zeroD_ok r⟩
def ZeroOk (P : Program) (Z : At0) (X : Cx) (st : St) (a : Act) (w : World) (tok : Nat) (cs : Scs) : Prop :=
    ∃ X', Rel P Z X' (newBufs st (zeroRow tok cs).2) a w ∧ X'.O = X.O ∧ X'.F = X.F ∧ X'.ρ = X.ρ ∧ (∀ t, (t < tok ∨ tok + cs.size ≤ t) → X'.β t = X.β t ∧ look (newBufs st (zeroRow tok cs).2).b t = look st.b t) ∧
      (∀ r c, (newBufs st (zeroRow tok cs).2).row r = some c → ∃ c', st.row r = some c') ∧
      (∀ t B b cap, look st.b t = none → look (newBufs st (zeroRow tok cs).2).b t = some B → X'.β t ≠ some (b, cap)) ∧
      All2 (RelK P X' (newBufs st (zeroRow tok cs).2).b w) (zeroRow tok cs).1 (zeroCs cs)
theorem Rel.zeroRow : ∀ (cs : Scs) (tok : Nat) {X : Cx} {st : St}, Rel P Z X st a w → ZeroOk P Z X st a w tok cs
  | .nil, tok, X, st, h => ⟨X, h, rfl, rfl, rfl, fun _ _ => ⟨rfl, rfl⟩, fun r c hr => ⟨c, hr⟩, (fun t B b cap h1 h2 => by rw [show look (newBufs st (PgAM.zeroRow tok .nil).2).b t = look st.b t from rfl, h1] at h2; cases h2), trivial⟩
  | .cons s r, tok, X, st, h => by
    have plain : ∀ p, RelK P X st.b w p (zeroS s) → (∀ X' bs', X'.O = X.O → X'.F = X.F → RelK P X' bs' w p (zeroS s)) → PgAM.zeroRow tok (.cons s r) = (p :: (PgAM.zeroRow (tok + 1) r).1, (PgAM.zeroRow (tok + 1) r).2) → ZeroOk P Z X st a w tok (.cons s r) := by
      intro p hp hm e
      obtain ⟨X', h1, h2, h3, h4, h5, h6, h7, h8⟩ := Rel.zeroRow r (tok + 1) h
      unfold ZeroOk; rw [e]
      exact ⟨X', h1, h2, h3, h4, fun t ht => h5 t (by simp [Scs.size] at ht; omega), h6, h7, hm X' _ h2 h3, h8⟩
    have lit : (∀ e, s ≠ .sl e) → (∀ x y, s ≠ .fn x y) → PgAM.zeroRow tok (.cons s r) = (.d ⟨s, s.zero⟩ :: (PgAM.zeroRow (tok + 1) r).1, (PgAM.zeroRow (tok + 1) r).2) → ZeroOk P Z X st a w tok (.cons s r) := fun h1 h2 e =>
      plain (.d ⟨s, s.zero⟩) (zeroS_ok h1 h2) (fun _ _ _ _ => zeroS_ok h1 h2) e
    cases s with
    | int k => exact lit (by simp) (by simp) rfl
    | bool => exact lit (by simp) (by simp) rfl
    | str => exact lit (by simp) (by simp) rfl
    | fn x y => exact plain .dead ⟨trivial, rfl⟩ (fun _ _ _ _ => ⟨trivial, rfl⟩) rfl
    | sl e =>
      have h0 := h.newNil tok true e
      obtain ⟨X', h1, h2, h3, h4, h5, h6, h7, h8⟩ := Rel.zeroRow r (tok + 1) h0
      have e1 : PgAM.zeroRow tok (.cons (.sl e) r) = (.own tok :: (PgAM.zeroRow (tok + 1) r).1, (tok, ⟨true, e, []⟩) :: (PgAM.zeroRow (tok + 1) r).2) := rfl
      unfold ZeroOk; rw [e1]
      have e2 : newBufs st ((tok, ⟨true, e, []⟩) :: (PgAM.zeroRow (tok + 1) r).2) = newBufs (st.newBuf tok ⟨true, e, []⟩) (PgAM.zeroRow (tok + 1) r).2 := rfl
      simp only [e2]
      have hk := h5 tok (.inl (by omega))
      refine ⟨X', h1, h2, h3, h4, fun t ht => ?_, fun r' c hr => ?_, fun t B b cap n1 n2 n3 => ?_, ⟨⟨⟨_, by rw [hk.2, look_newBuf, if_pos rfl], ?_⟩, rfl⟩, h8⟩⟩
      · have hne : t ≠ tok := by simp [Scs.size] at ht; omega
        obtain ⟨k1, k2⟩ := h5 t (by simp [Scs.size] at ht; omega)
        exact ⟨k1.trans (upd_ne _ _ hne), by rw [k2, look_newBuf, if_neg hne]⟩
      · obtain ⟨c', hc'⟩ := h6 r' c hr
        obtain ⟨c'', hc'', _⟩ := kill_row_some (st := st) (f := PC.atTok tok) hc'
        exact ⟨c'', hc''⟩
      · by_cases e3 : t = tok
        · subst e3
          rw [hk.1] at n3
          simp [upd_same] at n3
        · exact h7 t B b cap (by rw [look_newBuf, if_neg e3]; exact n1) n2 n3
      · have : X'.β tok = none := by rw [hk.1]; exact upd_same _ _ _
        simp [SlAt, this, zeroS]
theorem zeroV_cells (t : VT) : (zeroV t).cells.toList = zeroCs t.scs := by
  cases t with
  | sc s => cases s <;> rfl
  | ag cs => simp [zeroV, Value.cells, VT.scs]
theorem scs_size (t : VT) : t.scs.size = t.size := by cases t <;> rfl
theorem tokOf_row {d t n : Nat} (h1 : 1000 * (d + 1) ≤ t) (h2 : t < 1000 * (d + 1) + n) (h3 : n < 400) : tokOf d t = true := by
  unfold tokOf
  cases Nat.beq t d with
  | true => rfl
  | false =>
    have : t / 1000 = d + 1 := by omega
    simp [this]
theorem wp_alloc (hE : EnvOk P E Z) (h : Rel P Z X st a w) (hd : dstOk E o = true) {T : TypeId} (ho : o.op = .alloc T) (hs : step1 E o st some = some st') (hn : Goes P E Z X st st' a w o next) : o.wp P a w next Q := by
  unfold step1 at hs
  rw [ho] at hs
  simp only at hs
  split at hs
  · rename_i d ti e1 e2
    cases hlt : Nat.blt ti.vt.size 400 with
    | false => rw [hlt] at hs; cases hs
    | true =>
      rw [hlt] at hs
      have hs := Option.some.inj hs
      have hlt : ti.vt.size < 400 := Nat.le_of_ble_eq_true hlt
      have hz := run_zeroValue (tyB_zero (hE.tyOf e2)) w
      obtain ⟨X', h1, h2, h3, h4, h5, h6, h7, h8⟩ := Rel.zeroRow ti.vt.scs (1000 * (d + 1)) h
      rw [← zeroV_cells] at h8
      have g := h1.newRow (dst_lt hE hd d e1) T h8
      have ext := alloc_ext w (.cells (zeroV ti.vt).cells T)
      refine wp_value (v := .pointer (some ⟨w.heap.size, 0, none⟩)) (w' := w.alloc (.cells (zeroV ti.vt).cells T)) (by unfold execOp; rw [ho]; simp [Instr.alloc, hz, newVar, newRow]) ?_
      refine hn _ { X' with ρ := upd X'.ρ d w.heap.size } _ (by rw [e1, ← hs]; exact g) fun _ _ => ?_
      rw [e1, ← hs]
      have hb : ((newBufs st (PgAM.zeroRow (1000 * (d + 1)) ti.vt.scs).2).newRow d (PgAM.zeroRow (1000 * (d + 1)) ti.vt.scs).1).b = (newBufs st (PgAM.zeroRow (1000 * (d + 1)) ti.vt.scs).2).b := rfl
      refine ⟨ext, fun b _ => .inl (congrFun h3 b), fun b => Nat.le_of_eq (congrFun h3 b).symm, fun r hr => ?_, fun r => ?_, fun t ht => ?_, fun hf d' t B b cap e ht hB hβ => ?_⟩
      · show upd X'.ρ d w.heap.size r = X.ρ r
        rw [upd_ne _ _ (fun e => hr (by rw [e])), h4]
      · show upd X'.ρ d w.heap.size r = X.ρ r ∨ w.heap.size ≤ upd X'.ρ d w.heap.size r
        by_cases e : r = d
        · subst e; rw [upd_same]; exact .inr (Nat.le_refl _)
        · rw [upd_ne _ _ e, h4]; exact .inl rfl
      · have hout : t < 1000 * (d + 1) ∨ 1000 * (d + 1) + ti.vt.scs.size ≤ t := by
          rcases Nat.lt_or_ge t (1000 * (d + 1)) with q | q
          · exact .inl q
          · rcases Nat.lt_or_ge t (1000 * (d + 1) + ti.vt.scs.size) with q2 | q2
            · have := ht d rfl
              rw [tokOf_row q q2 (by rw [scs_size]; exact hlt)] at this; cases this
            · exact .inr q2
        obtain ⟨k1, k2⟩ := h5 t hout
        exact ⟨k1, fun B hB => ⟨B.x, by rw [hb, k2]; exact hB⟩⟩
      · exact absurd hβ (h7 t B b cap (hf d' t e ht) hB)
  · cases hs
theorem wp_box (hE : EnvOk P E Z) (h : Rel P Z X st a w) (hd : dstOk E o = true) {T : TypeId} {x : Operand} (ho : o.op = .box T x) (hs : step1 E o st some = some st') (hn : Goes P E Z X st st' a w o next) : o.wp P a w next Q := by
  unfold step1 at hs
  rw [ho] at hs
  simp only at hs
  split at hs
  · rename_i d ti pv e1 e2 e3
    split at hs
    · rename_i cs hcs
      cases hl : Nat.beq cs.length ti.vt.size with
      | false => rw [hl] at hs; cases hs
      | true =>
        rw [hl] at hs
        have hs := Option.some.inj hs
        have hv := pvcells_ok (opv_ok h e3) hcs
        have g := h.newRow (dst_lt hE hd d e1) T hv
        have ext := alloc_ext w (.cells (a.eval x).cells T)
        refine wp_value (v := .pointer (some ⟨w.heap.size, 0, none⟩)) (w' := w.alloc (.cells (a.eval x).cells T)) (by unfold execOp; rw [ho]; simp [Instr.box, newVar, newRow]) ?_
        refine hn _ { X with ρ := upd X.ρ d w.heap.size } _ (by rw [e1, ← hs]; exact g) fun _ _ => ?_
        rw [e1, ← hs]
        refine ⟨ext, fun b _ => .inl rfl, fun b => Nat.le_refl _, fun r hr => ?_, fun r => ?_, fun t ht => ⟨rfl, fun B hB => ⟨B.x, hB⟩⟩, fun hf d' t B b cap e ht hB hβ => ?_⟩
        · exact upd_ne _ _ (fun e => hr (by rw [e]))
        · show upd X.ρ d w.heap.size r = X.ρ r ∨ w.heap.size ≤ upd X.ρ d w.heap.size r
          by_cases e : r = d
          · subst e; rw [upd_same]; exact .inr (Nat.le_refl _)
          · rw [upd_ne _ _ e]; exact .inl rfl
        · have : look st.b t = some B := hB
          rw [hf d' t e ht] at this; cases this
    · cases hs
  · cases hs
end Go.PgAM

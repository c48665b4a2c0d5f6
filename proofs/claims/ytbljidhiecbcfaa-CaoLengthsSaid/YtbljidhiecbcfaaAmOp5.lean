/-
  Operations, one by one: an element's place, a part of a slice.
-/
import Derived.Test.YtbljidhiecbcfaaAmOp4
namespace Go.PgAM
open Go Go.RowKit
set_option linter.unusedVariables false
set_option linter.unusedSimpArgs false
variable {P : Program} {E : Env} {Z : At0} {X : Cx} {st st' : St} {a : Act} {w w' : World} {o : Oper} {next : Act → World → Prop} {Q : Exit → Act → World → Prop}

theorem vcells_length (t : VT) (x : t.I) : (t.cells x).length = t.size := by
  cases t with
  | sc s => rfl
  | ag cs => exact cells_length cs x
theorem RepV.cells {O : Nat → Prop} {F : Nat → Nat} {t : VT} {x : t.I} {g : Nat → Option Value} (h : RepV P t O F w x g) : ∀ j c, (t.cells x)[j]? = some c → ∃ u, g j = some u ∧ RepS P c.s O F w c.x u := by
  intro j c hj
  cases t with
  | sc s =>
    simp only [RepV] at h
    obtain ⟨u, hu, hr⟩ := h
    cases j with
    | zero => simp [VT.cells] at hj; subst hj; exact ⟨u, hu, hr⟩
    | succ j => simp [VT.cells] at hj
  | ag cs =>
    simp only [RepV] at h
    exact RepCs.cells cs h j c hj
theorem wp_indexAddr (hE : EnvOk P E Z) (h : Rel P Z X st a w) (hd : dstOk E o = true) {T : TypeId} {x y : Operand} (ho : o.op = .indexAddr T x y) (hs : step1 E o st some = some st') (hn : Goes P E Z X st st' a w o next) : o.wp P a w next Q := by
  unfold step1 at hs
  rw [ho] at hs
  simp only at hs
  split at hs
  · rename_i ti e xs i e1 e2 e3
    split at hs
    · rename_i e' e4
      split at hs
      · rename_i hsz
        have hsz := Nat.eq_of_beq_eq_true hsz
        obtain ⟨z, hc, hs2⟩ := Option.bind_eq_some_iff.1 hs
        obtain ⟨n, rfl, hn'⟩ := idx_some hc
        obtain ⟨k, hi⟩ := oInt_ok h e3
        obtain ⟨T', _, hu, h3, _⟩ := tyB_sl (hE.tyOf e1) e4
        have h4 := run_sizeOf h3 w
        have hx := opc_ok h e2
        simp only [RelC, RepS] at hx
        obtain ⟨ad, cap, hv, _, hx⟩ := hx
        obtain ⟨hlt, hget⟩ := List.getElem?_eq_some_iff.1 hn'
        rcases hx with hx | ⟨b, off, rfl, hF, hel⟩
        · have : List.length (α := e.I) xs = 0 := hx
          omega
        have hlt' : n < List.length (α := e.I) xs := hlt
        refine wp_value (v := .pointer (some ⟨b, off + n * e.size, none⟩)) (w' := w) (by unfold execOp; rw [ho]; simp [Instr.indexAt, run_underlying hu, asIntOf, hi, hv, h4, hlt', add_at, hsz]) ?_
        refine hn.pure h (dst_lt hE hd) (pv := .s (.sref (e.cells z))) ?_ (Option.some.inj hs2)
        refine ⟨b, off + n * e.size, rfl, .inr ?_, fun j c hj => ?_⟩
        · rw [vcells_length]
          have h1 : (n + 1) * e.size ≤ List.length (α := e.I) xs * e.size := Nat.mul_le_mul_right _ hlt'
          rw [Nat.succ_mul] at h1
          omega
        · have := hel n hlt'
          have hg : List.get (α := e.I) xs ⟨n, hlt'⟩ = z := hget
          rw [hg] at this
          exact RepV.cells this j c hj
      · cases hs
    · cases hs
  · rename_i ti tok i e1 e2 e3
    split at hs
    · rename_i e' B e4 hB
      split at hs
      · rename_i hsz
        have hsz := Nat.eq_of_beq_eq_true hsz
        obtain ⟨z, hc, hs2⟩ := Option.bind_eq_some_iff.1 hs
        obtain ⟨n, rfl, hn'⟩ := idx_some hc
        obtain ⟨k, hi⟩ := oInt_ok h e3
        obtain ⟨T', _, hu, h3, _⟩ := tyB_sl (hE.tyOf e1) e4
        have h4 := run_sizeOf h3 w
        obtain ⟨B', hB', hv⟩ := opc_ok h e2
        have : B' = B := Option.some.inj (hB'.symm.trans hB)
        subst this
        obtain ⟨hlt, hget⟩ := List.getElem?_eq_some_iff.1 hn'
        have hbok := h.b tok B' hB
        unfold SlAt at hv
        cases hβ : X.β tok with
        | none => rw [hβ] at hv; have := hv.1; omega
        | some q =>
          obtain ⟨b, cap⟩ := q
          simp only [hβ] at hv
          simp only [BufOk, hβ] at hbok
          obtain ⟨_, _, hcap, cs, el, hh, hs, hel⟩ := hbok
          refine wp_value (v := .pointer (some ⟨b, n * B'.e.size, none⟩)) (w' := w) (by unfold execOp; rw [ho]; simp [Instr.indexAt, run_underlying hu, asIntOf, hi, hv, h4, hlt, add_at, hsz]) ?_
          refine hn.pure h (dst_lt hE hd) (pv := .s (.eptr tok n 0 (B'.e.cells z))) ?_ (Option.some.inj hs2)
          refine ⟨B', b, cap, hB, hβ, by omega, by simp; omega, by simp [vcells_length], by simp, fun j c hj => ?_⟩
          have := hel n hlt
          have hg : List.get B'.xs ⟨n, hlt⟩ = z := hget
          rw [hg] at this
          obtain ⟨u, hu, hr⟩ := RepV.cells this j c hj
          exact ⟨u, by simp [World.cell?, hh]; exact hu, hr⟩
      · cases hs
    · cases hs
  · rename_i ti p i _ _ e1 e2 e3
    split at hs
    · rename_i n m ag e4
      obtain ⟨j, rfl, _, hm, hs2⟩ := splitIdx_some hs
      obtain ⟨k, hi⟩ := oInt_ok h e3
      have hm : j < n := by omega
      have ha1 : ti.arr.1 = n := by rw [e4]
      have ha2 : ti.arr.2.1 = m + 1 := by rw [e4]
      obtain ⟨T', hu, h3⟩ := tyB_array (hE.tyOf e1) (by omega)
      rw [ha1] at hu
      rw [ha2] at h3
      have h4 := run_sizeOf h3 w
      have h5 := opc_ok h e2
      have key : ∀ b o' q, a.eval x = .pointer (some ⟨b, o', none⟩) → RelC P X st.b w q (.pointer (some ⟨b, o' + j * (m + 1), none⟩)) → st.setT o.dst (.s q) = st' → o.wp P a w next Q := by
        intro b o' q hx hq e
        refine wp_value (v := .pointer (some ⟨b, o' + j * (m + 1), none⟩)) (w' := w) (by unfold execOp; rw [ho]; simp [Instr.indexAt, run_underlying hu, asIntOf, hi, Instr.sureAddr, hx, h4, hm, add_at]) ?_
        exact hn.pure h (dst_lt hE hd) (pv := .s q) hq e
      split at hs2
      · exact key _ _ _ h5 (by simp only [RelC]) (Option.some.inj hs2)
      · rename_i cs _ _
        split at hs2
        · rename_i hle
          have hle := Nat.le_of_ble_eq_true hle
          obtain ⟨b, o', hv, ho', hc⟩ := h5
          refine key b o' _ hv ?_ (Option.some.inj hs2)
          refine ⟨b, o' + j * (m + 1), rfl, ho'.imp id fun h => ?_, fun j c hj => ?_⟩
          · simp; omega
          · rw [List.getElem?_drop] at hj
            rw [Nat.add_assoc]; exact hc _ c hj
        · cases hs2
      · cases hs2
    · cases hs
  · cases hs
end Go.PgAM

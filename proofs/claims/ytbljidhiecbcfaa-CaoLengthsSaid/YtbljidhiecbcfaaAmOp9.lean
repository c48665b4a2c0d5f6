/-
  Operations, one by one: new slices.
-/
import Derived.Test.YtbljidhiecbcfaaAmOp8
namespace Go.PgAM
open Go Go.RowKit
set_option linter.unusedVariables false
set_option linter.unusedSimpArgs false
variable {P : Program} {E : Env} {Z : At0} {X : Cx} {st st' : St} {a : Act} {w w' : World} {o : Oper} {next : Act → World → Prop} {Q : Exit → Act → World → Prop}

section nofn
variable {O O' : Nat → Prop} {F : Nat → Nat}
mutual
theorem RepS.noFn : (s : Sc) → s.noFn = true → {x : s.I} → {v : Value} → RepS P s O F w x v → RepS P s O' F w x v
  | .int k, _, x, v, h => by simpa only [RepS] using h
  | .bool, _, x, v, h => by simpa only [RepS] using h
  | .str, _, x, v, h => by simpa only [RepS] using h
  | .sl e, hs, x, v, h => by
    simp only [RepS] at h ⊢
    obtain ⟨a, cap, hv, hc, hx⟩ := h
    refine ⟨a, cap, hv, hc, hx.imp id fun ⟨b, off, h1, h2, h3⟩ => ⟨b, off, h1, h2, fun i hi => RepV.noFn e (by simpa [Sc.noFn] using hs) (h3 i hi)⟩⟩
  | .fn a r, hs, x, v, h => by simp [Sc.noFn] at hs
theorem RepV.noFn : (t : VT) → t.noFn = true → {x : t.I} → {g : Nat → Option Value} → RepV P t O F w x g → RepV P t O' F w x g
  | .sc s, hs, x, g, h => by
    simp only [RepV] at h ⊢
    obtain ⟨u, hu, hr⟩ := h
    exact ⟨u, hu, RepS.noFn s (by simpa [VT.noFn] using hs) hr⟩
  | .ag cs, hs, x, g, h => by
    simp only [RepV] at h ⊢
    exact RepCs.noFn cs (by simpa [VT.noFn] using hs) h
theorem RepCs.noFn : (t : Scs) → t.noFn = true → {x : t.I} → {g : Nat → Option Value} → RepCs P t O F w x g → RepCs P t O' F w x g
  | .nil, hs, x, g, h => by simp only [RepCs]
  | .cons s .nil, hs, x, g, h => by
    simp only [RepCs] at h ⊢
    have hs1 : s.noFn = true := by rw [Scs.noFn] at hs; simp at hs; exact hs.1
    obtain ⟨u, hu, hr⟩ := h
    exact ⟨u, hu, RepS.noFn s hs1 hr⟩
  | .cons s (.cons s' r), hs, x, g, h => by
    simp only [RepCs] at h ⊢
    have hs1 : s.noFn = true ∧ (Scs.cons s' r).noFn = true := by
      rw [Scs.noFn] at hs; simpa using hs
    obtain ⟨⟨u, hu, hr⟩, h2⟩ := h
    exact ⟨⟨u, hu, RepS.noFn s hs1.1 hr⟩, RepCs.noFn (.cons s' r) hs1.2 h2⟩
end
end nofn

theorem Whole.size {t : VT} {u : Value} {g : Nat → Option Value} (h : Whole t u g) (h1 : u.oneCell' = true ∨ t.isAg = true) : u.cells.size = t.size ∧ ∀ j, j < t.size → u.cells[j]? = g j := by
  cases t with
  | sc s =>
    simp only [Whole] at h
    subst h
    rcases h1 with h1 | h1
    · have : u.cells = #[u] := by cases u <;> first | rfl | (simp [Value.oneCell'] at h1)
      rw [this]
      refine ⟨rfl, fun j hj => ?_⟩
      have : j = 0 := by simp [VT.size] at hj; exact hj
      subst this; rfl
    · simp [VT.isAg] at h1
  | ag cs =>
    obtain ⟨cells, rfl, hs, rfl⟩ := h
    exact ⟨hs, fun _ _ => rfl⟩
theorem RepS.one {O : Nat → Prop} {F : Nat → Nat} {s : Sc} {x : s.I} {u : Value} (h : RepS P s O F w x u) : u.oneCell' = true :=
  RelC.one (P := P) (X := ⟨O, F, fun _ => 0, fun _ => none⟩) (bs := []) (w := w) (p := .d ⟨s, x⟩) h (by simp) (by simp)
theorem Whole.size' {O : Nat → Prop} {F : Nat → Nat} {t : VT} {x : t.I} {u : Value} {g : Nat → Option Value} (h : Whole t u g) (hr : RepV P t O F w x g) : u.cells.size = t.size ∧ ∀ j, j < t.size → u.cells[j]? = g j := by
  refine h.size ?_
  cases t with
  | sc s =>
    simp only [Whole] at h
    subst h
    simp only [RepV] at hr
    obtain ⟨u', hu, hs⟩ := hr
    cases hu
    exact .inl hs.one
  | ag cs => exact .inr rfl
theorem litElems_ok (hC : SoundTab P E.C) (h : Rel P Z X st a w) {F1 : Nat → Nat} {ts : List Nat} (hF : ∀ b, X.F b ≤ F1 b) (hcov : ∀ t B b cap, t ∈ ts → look st.b t = some B → X.β t = some (b, cap) → B.xs.length * B.e.size ≤ F1 b) {e : VT} (he : e.noFn = true) :
    ∀ {parts : List (Nat × Operand)} {n : Nat} {xs : List e.I}, litElems E st e n parts = some xs → (∀ t, t ∈ litToks st parts → t ∈ ts) →
      (parts.map fun x => (x.1, a.eval x.2)) = ((parts.map fun x => a.eval x.2).zipIdx n).map (fun x => (x.2, x.1)) ∧ All2 (fun (x : e.I) u => ∃ g, Whole e u g ∧ RepV P e X.O F1 w x g) xs (parts.map fun x => a.eval x.2)
  | [], n, xs, hx, ht => by cases hx; exact ⟨rfl, trivial⟩
  | (i, o) :: parts, n, xs, hx, ht => by
    simp only [litElems] at hx
    obtain ⟨hi, hx⟩ := cond_some hx
    have hi := Nat.eq_of_beq_eq_true hi
    subst hi
    split at hx
    · rename_i pv e1
      split at hx
      · rename_i x l e2 e3
        have hx := Option.some.inj hx
        subst hx
        have hs : Shown X st (fun b => b < w.heap.size) F1 ts := ⟨h.oldO, hF, fun r c hr => h.row_lt hr, fun t ht B b cap => hcov t B b cap ht⟩
        have hvp := h.vp hs (opv_ok h e1) (fun t htp => ht t (by simp [litToks, e1, htp])) fun t _ B b cap hB hb => h.buf_lt hB hb
        obtain ⟨g, g1, g2⟩ := toVT_ok hC (fun _ h => h) e2 hvp
        obtain ⟨k1, k2⟩ := litElems_ok hC h hF hcov he e3 fun t htp => ht t (by simp [litToks, htp])
        refine ⟨by simp [List.zipIdx_cons, k1], ⟨g, g1, RepV.noFn e he g2⟩, k2⟩
      · cases hx
    · cases hx
end Go.PgAM

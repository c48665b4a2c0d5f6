/-
  Operations, one by one: an assignment.
-/
import Derived.Test.YtbljidhiecbcfaaAmOp7
namespace Go.PgAM
open Go Go.RowKit
set_option linter.unusedVariables false
set_option linter.unusedSimpArgs false
variable {P : Program} {E : Env} {Z : At0} {X : Cx} {st st' : St} {a : Act} {w w' : World} {o : Oper} {next : Act → World → Prop} {Q : Exit → Act → World → Prop}

theorem ptrTo_at {t : Nat} {p : PC} (h : PC.atTok t p = false) : PC.ptrTo t p = false := by
  cases p <;> first | rfl | exact h
/-- A buffer is cut to its beginning. -/
theorem Rel.cut (h : Rel P Z X st a w) {tok n : Nat} {e : VT} {xs : List e.I} (hB : look st.b tok = some ⟨true, e, xs⟩) (hn : n ≤ xs.length) {v : Value} (hv : SlAt X.β tok n v) :
    ∃ X', Rel P Z X' { st.kill (PC.atTok tok) with b := Go.PgAM.put st.b tok ⟨true, e, xs.take n⟩ } a w ∧ SlAt X'.β tok n v := by
  have hbok := h.b tok _ hB
  unfold SlAt at hv
  cases hβ : X.β tok with
  | none =>
    rw [hβ] at hv
    have h0 : (xs.take n).length = 0 := by simp only [BufOk, hβ] at hbok; simp at hbok ⊢; simp [hbok]
    refine ⟨_, h.newBuf tok ⟨true, e, xs.take n⟩ none (by simp only [BufOk, upd_same]; exact h0) (by simp) (by simp), ?_⟩
    simp only [SlAt, upd_same]; exact hv
  | some q =>
    obtain ⟨b, cap⟩ := q
    rw [hβ] at hv
    simp only [BufOk, hβ] at hbok
    obtain ⟨h1, h2, h3, cs, el, h4, h5, h6⟩ := hbok
    have hself := setRow_self w b cs el (0, 0) h4
    have g := h.setBuf (B' := ⟨true, e, xs.take n⟩) hB hβ (PC.atTok tok) h4 (cs' := cs) (fun _ _ => rfl) (fun p hp => ptrTo_at hp) (fun p h1 h2 => by rw [h1] at h2; cases h2) (by
      rw [hself]
      simp only [BufOk, hβ]
      refine ⟨h1, by simpa using h2, by simp; omega, cs, el, h4, h5, fun i hi => ?_⟩
      have hi' : i < xs.length := by simp at hi; omega
      have := h6 i hi'
      have hg : List.get (xs.take n) ⟨i, hi⟩ = List.get xs ⟨i, hi'⟩ := by simp
      rw [hg]; exact this)
    rw [hself] at g
    exact ⟨X, g, by simp only [SlAt, hβ]; exact hv⟩
theorem cut_len {α : Type} {l : List α} {n : Nat} (h : n ≤ l.length) : (l.take n).length = n := by simp; omega
theorem wp_assign (hE : EnvOk P E Z) (h : Rel P Z X st a w) (hd : dstOk E o = true) {x : Operand} (ho : o.op = .assign x) (hs : step1 E o st some = some st') (hn : Goes P E Z X st st' a w o next) : o.wp P a w next Q := by
  have he : (execOp a.eval o).run P w = .ok (.value (a.eval x)) w := by unfold execOp; rw [ho]; rfl
  refine wp_value he ?_
  unfold step1 at hs
  rw [ho] at hs
  simp only at hs
  split at hs
  · rename_i e1; cases e1
  · rename_i e1; cases e1
    split at hs
    · rename_i d ti e2 e3
      split at hs
      · rename_i e e4
        cases hs
        refine hn _ { X with β := upd X.β d none } w ?_ fun hq _ => ?_
        · rw [e2]
          exact (h.newNil d true e).put (dst_lt hE hd d e2) ⟨⟨true, e, []⟩, by rw [look_newBuf, if_pos rfl], by simp [SlAt, upd_same, Act.eval]⟩
        · exfalso; simp [isQ, ho] at hq
      · cases hs
    · cases hs
  · rename_i e1 e2; cases e2
  · rename_i e1 e2; cases e2
    split at hs
    · rename_i tok hi e3
      split at hs
      · rename_i e xs d hB e4 e5
        have hs := Option.some.inj hs
        obtain ⟨B, hB', hle, hv⟩ := opv_ok h e3
        have : B = ⟨true, e, xs⟩ := Option.some.inj (hB'.symm.trans hB)
        subst this
        obtain ⟨X', g, hv'⟩ := h.cut hB hle hv
        refine hn _ X' w ?_ fun _ hq => ?_
        · rw [← hs, e4]
          refine g.put (dst_lt hE hd d e4) ⟨⟨true, e, xs.take hi⟩, by simp [Go.PgAM.put, look_cons], ?_⟩
          have hc : (xs.take hi).length = hi := cut_len hle
          show SlAt X'.β tok (xs.take hi).length _
          rw [hc]; exact hv'
        · rw [hq.2] at e5; cases e5
      · cases hs
    · obtain ⟨pv, e3, e4⟩ := some_ret hs
      exact hn.pure h (dst_lt hE hd) (opv_ok h e3) e4
  all_goals first | (cases hs; done) | (rename_i e1; cases e1)
end Go.PgAM

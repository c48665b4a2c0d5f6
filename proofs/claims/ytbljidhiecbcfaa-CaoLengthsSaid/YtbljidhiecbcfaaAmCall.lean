/-
  What a call is shown and what it hands back.
-/
import Derived.Test.YtbljidhiecbcfaaAmUp
namespace Go.PgAM
open Go Go.RowKit
set_option linter.unusedVariables false
variable {P : Program} {Z : At0} {X X' : Cx} {st st' : St} {a : Act} {w w' : World}

theorem DC.as_some {c : DC} {s : Sc} {x : s.I} (h : c.as s = some x) : c = ⟨s, x⟩ := by
  obtain ⟨s', y⟩ := c
  unfold DC.as at h
  simp only at h
  split at h
  · rename_i e _
    subst e; simp at h; subst h; rfl
  · simp at h
theorem castL_some {e e' : VT} {xs : List e.I} {ys : List e'.I} (h : castL e e' xs = some ys) : ∃ p : e = e', p ▸ xs = ys := by
  unfold castL at h
  split at h
  · rename_i p _; exact ⟨p, by simpa using h⟩
  · simp at h

/-- The buffer as a list that is not written any more. -/
theorem Rel.snap (h : Rel P Z X st a w) {F' : Nat → Nat} (hF : ∀ b, X.F b ≤ F' b) {tok : Nat} {B : Buf} {v : Value} (hB : look st.b tok = some B) (hv : SlAt X.β tok B.xs.length v)
    (hb : ∀ b cap, X.β tok = some (b, cap) → B.xs.length * B.e.size ≤ F' b) : RepS P (.sl B.e) X.O F' w B.xs v := by
  have hok := h.b tok B hB
  simp only [RepS]
  unfold SlAt at hv
  unfold BufOk at hok
  cases hβ : X.β tok with
  | none =>
    simp only [hβ] at hv hok
    obtain ⟨h0, a', hv⟩ := hv
    exact ⟨a', 0, by rw [hv, h0], Nat.le_of_eq h0, .inl h0⟩
  | some q =>
    obtain ⟨b, cap⟩ := q
    simp only [hβ] at hv hok
    obtain ⟨_, _, hcap, cs, el, hh, hs, hel⟩ := hok
    refine ⟨_, cap, hv, hcap, .inr ⟨b, 0, rfl, by have := hb b cap hβ; omega, fun i hi => ?_⟩⟩
    refine RepV.mono (fun _ h => h) hF (Keeps.refl _ _ _) B.e _ _ _ (fun j hj => ?_) (hel i hi)
    simp [World.cell?, hh]

/-- The buffers of a list are shown from now on. -/
theorem Rel.share1 (h : Rel P Z X st a w) {tok : Nat} {B : Buf} (hB : look st.b tok = some B) :
    ∃ F', (∀ b, X.F b ≤ F' b) ∧ (∀ b, (∀ cap, X.β tok ≠ some (b, cap)) → F' b = X.F b) ∧ (∀ b cap, X.β tok = some (b, cap) → B.xs.length * B.e.size ≤ F' b) ∧
      Rel P Z { X with F := F' } { st with b := Go.PgAM.put st.b tok { B with x := false } } a w := by
  have hlook : ∀ t B', look (Go.PgAM.put st.b tok { B with x := false }) t = some B' → (t = tok ∧ B' = { B with x := false }) ∨ (t ≠ tok ∧ look st.b t = some B') := by
    intro t B1 ht
    rw [Go.PgAM.put, look_cons] at ht
    by_cases e : tok = t
    · subst e; simp at ht; exact .inl ⟨rfl, ht.symm⟩
    · simp only [e, if_false] at ht; exact .inr ⟨fun x => e x.symm, ht⟩
  have mk : ∀ F' : Nat → Nat, (∀ b, X.F b ≤ F' b) → (∀ b, (∀ cap, X.β tok ≠ some (b, cap)) → F' b = X.F b) → (∀ b cap, X.β tok = some (b, cap) → F' b ≤ B.xs.length * B.e.size) →
      Rel P Z { X with F := F' } { st with b := Go.PgAM.put st.b tok { B with x := false } } a w := by
    intro F' hF hFo hFb
    have m : Moves X { X with F := F' } st.b (Go.PgAM.put st.b tok { B with x := false }) w w (fun _ => false) := by
      refine ⟨rfl, hF, Keeps.refl _ _ _, fun _ _ _ _ => rfl, fun p t _ _ => ⟨rfl, fun B1 hB1 => ?_⟩, fun _ _ _ _ _ _ _ _ _ => rfl⟩
      by_cases e : t = tok
      · subst e; rw [hB] at hB1; cases hB1; exact ⟨{ B with x := false }, by simp [Go.PgAM.put, look_cons], rfl, rfl⟩
      · exact ⟨B1, by rw [Go.PgAM.put, look_cons, if_neg (fun x => e x.symm)]; exact hB1, rfl, rfl⟩
    have hb_old : ∀ b, X.O b → ∀ cap, X.β tok ≠ some (b, cap) := by
      intro b hO cap e
      have := h.b tok B hB
      simp only [BufOk, e] at this
      exact this.1 hO
    refine { O := h.O, evo := ?_, nt := h.nt, defers := h.defers, t := fun n pv hn => RelP.step m (h.t n pv hn), r := fun r c hr => ?_, b := fun t B1 ht => ?_, rr := h.rr, rb := ?_, bb := ?_ }
    · refine ⟨h.evo.os, h.evo.tape, h.evo.drawn, h.evo.output, h.evo.size, h.evo.block, fun b hb hm => ?_, fun b => Nat.le_trans (h.evo.fge b) (hF b), fun b hb => ?_⟩
      · rw [show ({ X with F := F' } : Cx).F b = F' b from rfl, hFo b (hb_old b (by rw [h.O]; exact ⟨hb, hm⟩))]; exact h.evo.fold b hb hm
      · show F' b = 0
        rw [hFo b fun cap e => by have := h.buf_lt hB e; omega]; exact h.evo.fnew b hb
    · exact RowOk.step m rfl (hFo _ fun cap e => h.rb r c tok B _ cap hr hB e rfl) rfl (h.r r c hr)
    · rcases hlook t B1 ht with ⟨e, e2⟩ | ⟨hne, ht⟩
      · subst e; subst e2
        have hok := h.b t B hB
        unfold BufOk at hok ⊢
        show match X.β t with | none => _ | some (b, cap) => _
        cases hβ : X.β t with
        | none => simpa [hβ] using hok
        | some q =>
          obtain ⟨b, cap⟩ := q
          simp only [hβ] at hok ⊢
          obtain ⟨h1, h2, h3, cs, el, h4, h5, h6⟩ := hok
          exact ⟨h1, by simpa using hFb b cap hβ, h3, cs, el, h4, h5, fun i hi => RepV.mono (fun _ h => h) hF (Keeps.refl _ _ _) B.e _ _ _ (fun _ _ => rfl) (h6 i hi)⟩
      · exact BufOk.step m rfl (fun b cap hb => ⟨hFo b fun cap' e => h.bb t tok B1 B b cap b cap' ht hB hb e hne rfl, rfl⟩) (h.b t B1 ht)
    · intro r c t B1 b cap hr ht hβ
      rcases hlook t B1 ht with ⟨e, _⟩ | ⟨hne, ht⟩
      · subst e; exact h.rb r c t B b cap hr hB hβ
      · exact h.rb r c t B1 b cap hr ht hβ
    · intro t t' B1 B2 b cap b' cap' h1 h2 hβ hβ' hne
      rcases hlook t B1 h1 with ⟨e1, _⟩ | ⟨n1, k1⟩ <;> rcases hlook t' B2 h2 with ⟨e2, _⟩ | ⟨n2, k2⟩
      · exact absurd (e1.trans e2.symm) hne
      · subst e1; exact h.bb _ _ _ _ _ _ _ _ hB k2 hβ hβ' hne
      · subst e2; exact h.bb _ _ _ _ _ _ _ _ k1 hB hβ hβ' hne
      · exact h.bb _ _ _ _ _ _ _ _ k1 k2 hβ hβ' hne
  cases hβ : X.β tok with
  | none =>
    refine ⟨X.F, fun _ => Nat.le_refl _, fun _ _ => rfl, by simp, mk X.F (fun _ => Nat.le_refl _) (fun _ _ => rfl) (by simp [hβ])⟩
  | some q =>
    obtain ⟨b, cap⟩ := q
    have hok := h.b tok B hB
    simp only [BufOk, hβ] at hok
    have hFB : X.F b ≤ B.xs.length * B.e.size := by
      have h2 := hok.2.1
      split at h2
      · omega
      · exact h2
    refine ⟨upd X.F b (B.xs.length * B.e.size), fun b' => ?_, fun b' hb' => ?_, fun b' cap' e => ?_, mk _ (fun b' => ?_) (fun b' hb' => ?_) (fun b' cap' e => ?_)⟩
    · unfold upd; split
      · rename_i e; subst e; exact hFB
      · exact Nat.le_refl _
    · exact upd_ne _ _ fun e => hb' cap (by rw [e])
    · cases e; simp [upd_same]
    · unfold upd; split
      · rename_i e; subst e; exact hFB
      · exact Nat.le_refl _
    · exact upd_ne _ _ fun e => hb' cap (by rw [hβ, e])
    · rw [hβ] at e; cases e; simp [upd_same]

theorem Rel.share : ∀ (ts : List Nat) {X : Cx} {st : St}, Rel P Z X st a w →
    ∃ F', (∀ b, X.F b ≤ F' b) ∧ (∀ b, (∀ t B cap, t ∈ ts → look st.b t = some B → X.β t ≠ some (b, cap)) → F' b = X.F b) ∧
      (∀ t B b cap, t ∈ ts → look st.b t = some B → X.β t = some (b, cap) → B.xs.length * B.e.size ≤ F' b) ∧
      Rel P Z { X with F := F' } (st.share ts) a w
  | [], X, st, h => ⟨X.F, fun _ => Nat.le_refl _, fun _ _ => rfl, by simp, h⟩
  | t :: ts, X, st, h => by
    simp only [St.share]
    cases hB : look st.b t with
    | none =>
      obtain ⟨F', h1, h2, h3, h4⟩ := Rel.share ts h
      refine ⟨F', h1, fun b hb => h2 b fun t' B cap ht => hb t' B cap (by simp [ht]), fun t' B b cap ht hB' => ?_, h4⟩
      rcases List.mem_cons.1 ht with e | ht
      · subst e; rw [hB] at hB'; cases hB'
      · exact h3 t' B b cap ht hB'
    | some B =>
      obtain ⟨F1, k1, k2, k3, k4⟩ := h.share1 hB
      obtain ⟨F', h1, h2, h3, h4⟩ := Rel.share ts k4
      have hl : ∀ t' B', look st.b t' = some B' → ∃ x, look (Go.PgAM.put st.b t { B with x := false }) t' = some { B' with x := x } := by
        intro t' B' hB'
        by_cases e : t = t'
        · subst e; rw [hB] at hB'; cases hB'; exact ⟨false, by simp [Go.PgAM.put, look_cons]⟩
        · exact ⟨B'.x, by rw [Go.PgAM.put, look_cons, if_neg e]; exact hB'⟩
      refine ⟨F', fun b => Nat.le_trans (k1 b) (h1 b), fun b hb => ?_, fun t' B' b cap ht hB' hβ => ?_, h4⟩
      · rw [h2 b fun t' B' cap ht hB' => ?_]
        · exact k2 b fun cap => hb t B cap (by simp) hB
        · have : ∃ B0, look st.b t' = some B0 := by
            simp only [Go.PgAM.put, look_cons] at hB'
            by_cases e : t = t'
            · subst e; exact ⟨B, hB⟩
            · simp only [e, if_false] at hB'; exact ⟨B', hB'⟩
          obtain ⟨B0, hB0⟩ := this
          exact hb t' B0 cap (by simp [ht]) hB0
      · obtain ⟨x, hx⟩ := hl t' B' hB'
        rcases List.mem_cons.1 ht with e | ht
        · subst e; rw [hB] at hB'; cases hB'
          exact Nat.le_trans (k3 b cap hβ) (h1 b)
        · exact h3 t' { B' with x := x } b cap ht hx hβ
end Go.PgAM

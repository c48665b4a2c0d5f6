/-
  An operation that has seen only a part of the state.
-/
import Derived.Test.YtbljidhiecbcfaaAmSub
namespace Go.PgAM
open Go Go.RowKit
set_option linter.unusedVariables false
set_option linter.unusedSimpArgs false
variable {P : Program} {E : Env} {Z : At0} {X X' : Cx} {s st' σ : St} {a : Act} {w w' : World} {o : Oper} {next : Act → World → Prop} {Q : Exit → Act → World → Prop}

theorem look_app {α : Type} : ∀ (l m : List (Nat × α)) (t : Nat), look (l ++ m) t = match look l t with | some x => some x | none => look m t
  | [], m, t => rfl
  | (n, x) :: l, m, t => by
    simp only [List.cons_append, look_cons]
    by_cases e : n = t
    · rw [if_pos e, if_pos e]
    · rw [if_neg e, if_neg e]; exact look_app l m t
theorem look_newOnes (old : List (Nat × Buf)) : ∀ (l : List (Nat × Buf)) (t : Nat), look (newOnes old l) t = match look old t with | some _ => none | none => look l t
  | [], t => by cases look old t <;> rfl
  | (n, B) :: l, t => by
    simp only [newOnes]
    have ih := look_newOnes old l t
    cases e : look old n with
    | none =>
      simp only [look_cons]
      by_cases e2 : n = t
      · subst e2; simp [e]
      · rw [if_neg e2, if_neg e2]; exact ih
    | some B' =>
      simp only [look_cons]
      by_cases e2 : n = t
      · subst e2; rw [ih]; simp [e]
      · rw [if_neg e2]; exact ih
theorem put_t (D : Del) (σ : St) (n : Nat) : look (D.put σ).t n = if D.d = some n then some D.v else look σ.t n := by
  unfold Del.put
  cases e : D.d with
  | none => simp
  | some d =>
    simp only [look_cons, Option.some.injEq]
theorem put_row (D : Del) (σ : St) (r : Nat) : (D.put σ).row r = match D.row with
    | some (r', cs) => if r' = r then some cs else σ.row r
    | none => σ.row r := by
  unfold Del.put St.row
  cases e : D.row with
  | none => rfl
  | some q =>
    obtain ⟨r', cs⟩ := q
    simp only [look_cons]
    by_cases e2 : r' = r
    · rw [if_pos e2, if_pos e2]; rfl
    · rw [if_neg e2, if_neg e2]
theorem put_b (D : Del) (σ : St) (t : Nat) : look (D.put σ).b t = match look D.bs t with | some x => some x | none => look σ.b t := by
  simp only [Del.put]
  rw [look_app]
  cases look D.bs t <;> rfl
theorem sameX_ok {new old : List (Nat × Buf)} : ∀ {l : List (Nat × Buf)}, sameX new old l = true → ∀ t B0, look l t = some B0 → ∃ C B, look new t = some C ∧ look old t = some B ∧ C.x = B.x
  | [], _, t, B0, ht => by cases ht
  | (n, B1) :: l, h, t, B0, ht => by
    simp only [sameX] at h
    split at h
    · rename_i C B e1 e2
      cases e3 : B.x == C.x with
      | false => rw [e3] at h; cases h
      | true =>
        rw [e3] at h
        rw [look_cons] at ht
        by_cases e : n = t
        · subst e
          exact ⟨C, B, e1, e2, by simpa using (beq_iff_eq.1 e3).symm⟩
        · rw [if_neg e] at ht
          exact sameX_ok h t B0 ht
    · cases h
theorem rowOf_quiet {r : Nat} (hq : isQ o = true) (h : rowOf o s = some r) : o.dst = some r := by
  unfold rowOf at h
  split at h
  · exact h
  · exact h
  · rename_i ho
    simp [isQ, ho] at hq
  · cases h
theorem isQ_dst (hq : isQ o = true) : ∃ d, o.dst = some d := by
  have : o.dst.isSome = true := by
    unfold isQ at hq
    repeat' (first | exact hq | (cases hq; done) | split at hq)
  exact Option.isSome_iff_exists.1 this

theorem exec_quiet (hE : EnvOk P E Z) (hqe : Quiet E) (h : Rel P Z X σ a w) (hs : Sub s σ) (hq : isQ o = true) (hdo : dstOk E o = true) {d : Nat} (hds : o.dst = some d) (hc : Clean d σ)
    (h1 : step1 E o s some = some st') (hx : sameX st'.b s.b s.b = true) (hown : ∀ t B, look (newOnes s.b st'.b) t = some B → tokOf d t = true)
    (hn : ∀ v X' w', Rel P Z X' ((delOf o s st').put σ) (a.put o.dst v) w' → next (a.put o.dst v) w') : o.wp P a w next Q := by
  have hr1 := h.rho hc w.heap.size
  have hs1 := hr1.sub hs
  refine step1_ok hE hs1 hdo h1 fun v X' w' h' hst => hn v X' w' ?_
  have hst := hst hq hqe
  have hρd : w.heap.size ≤ X'.ρ d := by
    rcases hst.ρn d with e | e
    · rw [e]; simp only [upd_same]; exact Nat.le_refl _
    · exact e
  have hs0 : ∀ t, tokOf d t = true → look s.b t = none := by
    intro t ht
    cases e : look s.b t with
    | none => rfl
    | some B =>
      have := hc.b t ht
      rw [hs.b t B e] at this; cases this
  have hO : X'.O = X.O := h'.O.trans h.O.symm
  have ht0 : ∀ t, tokOf d t = false → X'.β t = X.β t := fun t ht => (hst.β t fun d' e => by rw [hds] at e; cases e; exact ht).1
  have hρ0 : ∀ r, r ≠ d → X'.ρ r = X.ρ r := fun r hr => (hst.ρ r fun e => by rw [hds] at e; cases e; exact hr rfl).trans (upd_ne _ _ hr)
  have hβn : ∀ t B b cap, tokOf d t = true → look st'.b t = some B → X'.β t = some (b, cap) → w.heap.size ≤ b := fun t B b cap ht hB hb =>
    hst.βn (fun d' t' e ht' => by rw [hds] at e; cases e; exact hs0 t' ht') d t B b cap hds ht hB hb
  -- new buffers
  have hnew : ∀ t B, look (newOnes s.b st'.b) t = some B → look s.b t = none ∧ look st'.b t = some B := by
    intro t B ht
    rw [look_newOnes] at ht
    split at ht
    · cases ht
    · rename_i e; exact ⟨e, ht⟩
  have hDb : ∀ t, tokOf d t = false → look (newOnes s.b st'.b) t = none := by
    intro t ht
    cases e : look (newOnes s.b st'.b) t with
    | none => rfl
    | some B => rw [hown t B e] at ht; cases ht
  have hpb : ∀ t, look ((delOf o s st').put σ).b t = match look (newOnes s.b st'.b) t with | some x => some x | none => look σ.b t := fun t => put_b _ _ _
  have hold : ∀ t B, tokOf d t = false → look σ.b t = some B → look ((delOf o s st').put σ).b t = some B := by
    intro t B ht hB
    rw [hpb, hDb t ht]; exact hB
  -- facts of before
  have hK : Keeps X.O X.F w w' := by
    refine ⟨hst.ext.size, fun b hb => hst.ext.block b (h.oldO b hb), fun b o ho => cell_of_heap (hst.ext.block b ?_)⟩
    rcases Nat.lt_or_ge b w.heap.size with hb | hb
    · exact hb
    · have := h.fnew b hb; omega
  have m : Moves X X' σ.b ((delOf o s st').put σ).b w w' (PC.names d) := by
    refine ⟨hO, hst.Fge, hK, fun p r hp hr => hρ0 r fun e => ?_, fun p t hp ht => ?_, fun p t hp ht B b cap hB hb => hst.ext.block b (h.buf_lt hB hb)⟩
    · subst e; simp [PC.names, hr] at hp
    · have htf : tokOf d t = false := by
        cases p <;> simp only [PC.atTok] at ht <;> first | (cases ht; done) | (
          have e := Nat.eq_of_beq_eq_true ht
          subst e
          simp only [PC.names, PC.ofDst, PC.atLoc, Bool.or_eq_false_iff] at hp
          exact hp.2)
      exact ⟨ht0 t htf, fun B hB => ⟨B, hold t B htf hB, rfl, rfl⟩⟩
  have hi : ∀ p v, RelC P X σ.b w p v → (!PC.names d p) = true → RelC P X' ((delOf o s st').put σ).b w' p v := fun p v hx hg => RelC.step m p v (by simpa using hg) hx
  -- facts of the operation
  have m2 : Moves X' X' st'.b ((delOf o s st').put σ).b w' w' (fun _ => false) := by
    refine ⟨rfl, fun _ => Nat.le_refl _, Keeps.refl _ _ _, fun _ _ _ _ => rfl, fun p t _ _ => ⟨rfl, fun B hB => ?_⟩, fun _ _ _ _ _ _ _ _ _ => rfl⟩
    cases e : look s.b t with
    | none =>
      refine ⟨B, ?_, rfl, rfl⟩
      rw [hpb, look_newOnes, e]
      simp only [hB]
    | some B0 =>
      have htf : tokOf d t = false := by
        cases ht : tokOf d t with
        | false => rfl
        | true => rw [hs0 t ht] at e; cases e
      obtain ⟨x, hx⟩ := (hst.β t fun d' e => by rw [hds] at e; cases e; exact htf).2 B0 e
      rw [hB] at hx
      cases hx
      exact ⟨B0, hold t B0 htf (hs.b t B0 e), rfl, rfl⟩
  have hF : ∀ b, b < w.heap.size → X'.F b = X.F b ∨ ∃ t B cap, look s.b t = some B ∧ X.β t = some (b, cap) := fun b hb => hst.F b hb
  have hrow : ∀ r c, ((delOf o s st').put σ).row r = some c → (r = d ∧ st'.row d = some c) ∨ (r ≠ d ∧ σ.row r = some c) := by
    intro r c hr
    rw [put_row] at hr
    have hd0 : ∀ c, σ.row r = some c → r ≠ d := fun c hc' e => by subst e; rw [hc.row] at hc'; cases hc'
    split at hr
    · rename_i r' cs e
      simp only [delOf] at e
      obtain ⟨r2, e1, e2⟩ := Option.bind_eq_some_iff.1 e
      have e3 := rowOf_quiet hq e1
      rw [hds] at e3
      cases e3
      obtain ⟨c2, e4, e5⟩ := Option.map_eq_some_iff.1 e2
      cases e5
      by_cases e6 : d = r
      · rw [if_pos e6] at hr
        cases hr
        exact .inl ⟨e6.symm, e4⟩
      · rw [if_neg e6] at hr
        exact .inr ⟨fun e => e6 e.symm, hr⟩
    · exact .inr ⟨hd0 c hr, hr⟩
  have hbuf : ∀ t B, look ((delOf o s st').put σ).b t = some B → (tokOf d t = true ∧ look st'.b t = some B) ∨ (tokOf d t = false ∧ look σ.b t = some B) := by
    intro t B hB
    rw [hpb] at hB
    split at hB
    · rename_i x e
      cases hB
      exact .inl ⟨hown t _ e, (hnew t _ e).2⟩
    · cases ht : tokOf d t with
      | false => exact .inr ⟨rfl, hB⟩
      | true => rw [hc.b t ht] at hB; cases hB
  have hrl : ∀ r c, σ.row r = some c → X.ρ r < w.heap.size := fun r c hr => h.row_lt hr
  have hbl : ∀ t B b cap, look σ.b t = some B → X.β t = some (b, cap) → b < w.heap.size := fun t B b cap hB hb => h.buf_lt hB hb
  refine { O := h'.O, evo := h'.evo, nt := h'.nt, defers := h'.defers, t := fun n pv hn => ?_, r := fun r c hr => ?_, b := fun t B hB => ?_, rr := fun r r' c c' h1 h2 hne => ?_, rb := fun r c t B b cap h1 h2 h3 => ?_, bb := fun t t' B B' b cap b' cap' h1 h2 h3 h4 hne => ?_ }
  · rw [put_t] at hn
    by_cases e : (delOf o s st').d = some n
    · rw [if_pos e] at hn
      cases hn
      have e : o.dst = some n := e
      rw [hds] at e; cases e
      have : (delOf o s st').v = st'.tmp d := by simp only [delOf, hds]
      rw [this]
      exact RelP.step m2 (tmp_ok h' d)
    · rw [if_neg e] at hn
      have hnd : d ≠ n := fun e2 => e (by simp only [delOf, hds, e2])
      have := RelP.imp hi (h.t n pv hn) (hc.t n pv hn)
      rw [getD_put2 _ _ _ _ (by rw [hds]; exact fun e2 => hnd (Option.some.inj e2))]
      exact this
  · rcases hrow r c hr with ⟨rfl, hr'⟩ | ⟨hne, hr'⟩
    · exact RowOk.step m2 rfl rfl rfl (h'.r r c hr')
    · obtain ⟨k1, k2, cs, el, k3, k4⟩ := h.r r c hr'
      have e := hρ0 r hne
      have hFr : X'.F (X.ρ r) = 0 := by
        rcases hF _ (hrl r c hr') with e2 | ⟨t, B, cap, q1, q2⟩
        · rw [e2]; exact k2
        · exact absurd rfl (h.rb r c t B _ cap hr' (hs.b t B q1) q2)
      exact ⟨by rw [e, hO]; exact k1, by rw [e]; exact hFr, cs, el, by rw [e, hst.ext.block _ (hrl r c hr')]; exact k3, cells_imp (fun p v hx hg => ⟨hi p v hx.1 hg, hx.2⟩) k4 (hc.r r c hr')⟩
  · rcases hbuf t B hB with ⟨ht, hB'⟩ | ⟨ht, hB'⟩
    · exact h'.b t B hB'
    · cases e : look s.b t with
      | some B0 =>
        have e2 : B0 = B := Option.some.inj ((hs.b t B0 e).symm.trans hB')
        subst e2
        obtain ⟨x, hx1⟩ := (hst.β t fun d' e => by rw [hds] at e; cases e; exact ht).2 B0 e
        obtain ⟨C, B2, q1, q2, q3⟩ := sameX_ok hx t B0 e
        rw [hx1] at q1; cases q1
        rw [e] at q2; cases q2
        simp only at q3
        subst q3
        exact h'.b t _ hx1
      | none =>
        refine BufOk.step m (ht0 t ht) (fun b cap hb => ⟨?_, hst.ext.block b (hbl t B b cap hB' hb)⟩) (h.b t B hB')
        rcases hF b (hbl t B b cap hB' hb) with e2 | ⟨t', B', cap', q1, q2⟩
        · exact e2
        · have hne : t ≠ t' := fun e2 => by subst e2; rw [e] at q1; cases q1
          exact absurd rfl (h.bb t t' B B' b cap b cap' hB' (hs.b t' B' q1) hb q2 hne)
  · rcases hrow r c h1 with ⟨rfl, k1⟩ | ⟨n1, k1⟩ <;> rcases hrow r' c' h2 with ⟨e2, k2⟩ | ⟨n2, k2⟩
    · exact absurd e2.symm hne
    · have := hrl r' c' k2
      rw [hρ0 r' n2]; omega
    · subst e2
      have := hrl r c k1
      rw [hρ0 r n1]; omega
    · rw [hρ0 r n1, hρ0 r' n2]
      exact h.rr r r' c c' k1 k2 hne
  · rcases hrow r c h1 with ⟨rfl, k1⟩ | ⟨n1, k1⟩ <;> rcases hbuf t B h2 with ⟨ht, k2⟩ | ⟨ht, k2⟩
    · exact h'.rb r c t B b cap k1 k2 h3
    · rw [ht0 t ht] at h3
      have := hbl t B b cap k2 h3
      omega
    · have := hβn t B b cap ht k2 h3
      have := hrl r c k1
      rw [hρ0 r n1]; omega
    · rw [ht0 t ht] at h3
      rw [hρ0 r n1]
      exact h.rb r c t B b cap k1 k2 h3
  · rcases hbuf t B h1 with ⟨t1, k1⟩ | ⟨t1, k1⟩ <;> rcases hbuf t' B' h2 with ⟨t2, k2⟩ | ⟨t2, k2⟩
    · exact h'.bb t t' B B' b cap b' cap' k1 k2 h3 h4 hne
    · rw [ht0 t' t2] at h4
      have := hβn t B b cap t1 k1 h3
      have := hbl t' B' b' cap' k2 h4
      omega
    · rw [ht0 t t1] at h3
      have := hβn t' B' b' cap' t2 k2 h4
      have := hbl t B b cap k1 h3
      omega
    · rw [ht0 t t1] at h3
      rw [ht0 t' t2] at h4
      exact h.bb t t' B B' b cap b' cap' k1 k2 h3 h4 hne
end Go.PgAM

/-
  Less is known: parts of what is known; slots that are made ready for a region.
-/
import Derived.Test.YtbljidhiecbcfaaAmRun
namespace Go.PgAM
open Go Go.RowKit
set_option linter.unusedVariables false
set_option linter.unusedSimpArgs false
variable {P : Program} {Z : At0} {X X' : Cx} {st st' σ σ' : St} {a : Act} {w w' : World}

section
variable {bs bs' : List (Nat × Buf)}
theorem okTok_some {p : PC} {t : Nat} (h : PC.okTok bs p = true) (ht : p.tk = some t) : ∃ B, look bs t = some B := by
  unfold PC.okTok at h
  rw [ht] at h
  simp only at h
  cases e : look bs t with
  | none => rw [e] at h; cases h
  | some B => exact ⟨B, rfl⟩
theorem RelC.okTok {p : PC} {v : Value} (h : RelC P X bs w p v) : PC.okTok bs p = true := by
  have key : ∀ {t B}, look bs t = some B → (look bs t).isSome = true := fun h => by rw [h]; rfl
  cases p with
  | own t => obtain ⟨B, hB, _⟩ := h; exact key hB
  | eptr t i o cs => obtain ⟨B, b, cap, hB, _⟩ := h; exact key hB
  | opre t n => obtain ⟨B, hB, _⟩ := h; exact key hB
  | osuf t n => obtain ⟨B, hB, _⟩ := h; exact key hB
  | _ => rfl
theorem RelC.sub {p : PC} {v : Value} (h : RelC P X bs w p v) (hb : ∀ t B, look bs' t = some B → look bs t = some B) (hk : PC.okTok bs' p = true) : RelC P X bs' w p v := by
  cases p with
  | own t =>
    obtain ⟨B, hB, h2⟩ := h
    obtain ⟨B', hB'⟩ := okTok_some hk rfl
    have e := (hb t B' hB').symm.trans hB
    cases e
    exact ⟨_, hB', h2⟩
  | eptr t i o cs =>
    obtain ⟨B, b, cap, hB, h2⟩ := h
    obtain ⟨B', hB'⟩ := okTok_some hk rfl
    have e := (hb t B' hB').symm.trans hB
    cases e
    exact ⟨_, b, cap, hB', h2⟩
  | opre t n =>
    obtain ⟨B, hB, h2⟩ := h
    obtain ⟨B', hB'⟩ := okTok_some hk rfl
    have e := (hb t B' hB').symm.trans hB
    cases e
    exact ⟨_, hB', h2⟩
  | osuf t n =>
    obtain ⟨B, hB, h2⟩ := h
    obtain ⟨B', hB'⟩ := okTok_some hk rfl
    have e := (hb t B' hB').symm.trans hB
    cases e
    exact ⟨_, hB', h2⟩
  | d c => exact h
  | loc r o => exact h
  | sref cs => exact h
  | fn f cs => exact h
  | undef => exact h
  | dead => trivial
theorem cells_imp {R : PC → Value → Prop} {S : PC → Value → Prop} {g : PC → Bool} (hi : ∀ p v, R p v → g p = true → S p v) : ∀ {ps : List PC} {us : List Value}, All2 R ps us → ps.all g = true → All2 S ps us
  | [], [], _, _ => trivial
  | p :: ps, u :: us, h, hg => by
    simp only [List.all_cons, Bool.and_eq_true] at hg
    exact ⟨hi p u h.1 hg.1, cells_imp hi h.2 hg.2⟩
  | [], _ :: _, h, _ => h.elim
  | _ :: _, [], h, _ => h.elim
theorem tup_imp {g : PC → Bool} (hi : ∀ p v, RelC P X bs w p v → g p = true → RelC P X' bs' w' p v) : ∀ {vs : List (Bool × List PC)} {us : List Value}, All2 (RelTC P X bs w) vs us → (vs.all fun v => v.2.all g) = true → All2 (RelTC P X' bs' w') vs us
  | [], [], _, _ => trivial
  | v :: vs, u :: us, h, hg => by
    simp only [List.all_cons, Bool.and_eq_true] at hg
    refine ⟨?_, tup_imp hi h.2 hg.2⟩
    have h1 := h.1
    obtain ⟨ag, ps⟩ := v
    cases ag with
    | true => obtain ⟨cells, hu, hc⟩ := h1; exact ⟨cells, hu, cells_imp (fun p v hx hg => ⟨hi p v hx.1 hg, hx.2⟩) hc hg.1⟩
    | false => exact cells_imp (R := RelK P X bs w) (S := RelK P X' bs' w') (fun p v hx hg => ⟨hi p v hx.1 hg, hx.2⟩) h1 hg.1
  | [], _ :: _, h, _ => h.elim
  | _ :: _, [], h, _ => h.elim
theorem RelP.imp {g : PC → Bool} (hi : ∀ p v, RelC P X bs w p v → g p = true → RelC P X' bs' w' p v) {pv : PV} {v : Value} (h : RelP P X bs w pv v) (hg : PV.allC g pv = true) : RelP P X' bs' w' pv v := by
  cases pv with
  | s p => exact hi p v h hg
  | agg ps => obtain ⟨cells, hv, hc⟩ := h; exact ⟨cells, hv, cells_imp (fun p v hx hg => ⟨hi p v hx.1 hg, hx.2⟩) hc hg⟩
  | tup vs => obtain ⟨us, hv, hc⟩ := h; exact ⟨us, hv, tup_imp hi hc hg⟩
theorem cells_all {R : PC → Value → Prop} {g : PC → Bool} (hi : ∀ p v, R p v → g p = true) : ∀ {ps : List PC} {us : List Value}, All2 R ps us → ps.all g = true
  | [], [], _ => rfl
  | p :: ps, u :: us, h => by
    simp only [List.all_cons, Bool.and_eq_true]
    exact ⟨hi p u h.1, cells_all hi h.2⟩
  | [], _ :: _, h => h.elim
  | _ :: _, [], h => h.elim
theorem RelP.okTok {pv : PV} {v : Value} (h : RelP P X bs w pv v) : PV.allC (PC.okTok bs) pv = true := by
  cases pv with
  | s p => exact RelC.okTok h
  | agg ps => obtain ⟨cells, hv, hc⟩ := h; exact cells_all (fun p v hx => RelC.okTok hx.1) hc
  | tup vs =>
    obtain ⟨us, hv, hc⟩ := h
    have : ∀ {vs : List (Bool × List PC)} {us : List Value}, All2 (RelTC P X bs w) vs us → (vs.all fun v => v.2.all (PC.okTok bs)) = true := by
      intro vs
      induction vs with
      | nil => intro us _; rfl
      | cons v vs ih =>
        intro us h
        cases us with
        | nil => exact h.elim
        | cons u us =>
          simp only [List.all_cons, Bool.and_eq_true]
          refine ⟨?_, ih h.2⟩
          have h1 := h.1
          obtain ⟨ag, ps⟩ := v
          cases ag with
          | true => obtain ⟨cells, hu, hc⟩ := h1; exact cells_all (fun p v hx => RelC.okTok hx.1) hc
          | false => exact cells_all (R := RelK P X bs w) (fun p v hx => RelC.okTok hx.1) h1
    exact this hc
theorem PV.allC_imp {f g : PC → Bool} (hi : ∀ p, f p = true → g p = true) {pv : PV} (h : PV.allC f pv = true) : PV.allC g pv = true := by
  have l : ∀ {ps : List PC}, ps.all f = true → ps.all g = true := fun h => List.all_eq_true.2 fun p hp => hi p (List.all_eq_true.1 h p hp)
  cases pv with
  | s p => exact hi p h
  | agg ps => exact l h
  | tup vs => exact List.all_eq_true.2 fun v hv => l (List.all_eq_true.1 h v hv)
theorem PV.allC_and {f g : PC → Bool} {pv : PV} (h : PV.allC (fun p => f p && g p) pv = true) : PV.allC f pv = true ∧ PV.allC g pv = true :=
  ⟨PV.allC_imp (fun p hp => by simp only [Bool.and_eq_true] at hp; exact hp.1) h, PV.allC_imp (fun p hp => by simp only [Bool.and_eq_true] at hp; exact hp.2) h⟩
end

/-- A state that knows less. -/
structure Sub (σ' σ : St) : Prop where
  t : ∀ n pv, look σ'.t n = some pv → pv = .s .dead ∨ (look σ.t n = some pv ∧ PV.allC (PC.okTok σ'.b) pv = true)
  r : ∀ r c, σ'.row r = some c → σ.row r = some c ∧ c.all (PC.okTok σ'.b) = true
  b : ∀ t B, look σ'.b t = some B → look σ.b t = some B
theorem Rel.sub (h : Rel P Z X σ a w) (s : Sub σ' σ) : Rel P Z X σ' a w := by
  refine { O := h.O, evo := h.evo, nt := h.nt, defers := h.defers, t := fun n pv hn => ?_, r := fun r c hr => ?_, b := fun t B hB => h.b t B (s.b t B hB), rr := fun r r' c c' h1 h2 => h.rr r r' c c' (s.r r c h1).1 (s.r r' c' h2).1,
           rb := fun r c t B b cap h1 h2 => h.rb r c t B b cap (s.r r c h1).1 (s.b t B h2), bb := fun t t' B B' b cap b' cap' h1 h2 => h.bb t t' B B' b cap b' cap' (s.b t B h1) (s.b t' B' h2) }
  · rcases s.t n pv hn with rfl | ⟨h1, h2⟩
    · trivial
    · exact RelP.imp (fun p v hx hg => hx.sub s.b hg) (h.t n pv h1) h2
  · obtain ⟨h1, h2⟩ := s.r r c hr
    obtain ⟨k1, k2, cs, el, k3, k4⟩ := h.r r c h1
    exact ⟨k1, k2, cs, el, k3, cells_imp (fun p v hx hg => ⟨hx.1.sub s.b hg, hx.2⟩) k4 h2⟩

/-- A slot is ready: it has no value, no row, no buffer, and nothing names it. -/
structure Clean (d : Nat) (σ : St) : Prop where
  t : ∀ n pv, look σ.t n = some pv → PV.allC (fun p => !PC.names d p) pv = true
  r : ∀ r c, σ.row r = some c → c.all (fun p => !PC.names d p) = true
  row : σ.row d = none
  b : ∀ t, tokOf d t = true → look σ.b t = none
def prep1 (st : St) (d : Nat) : St :=
  { t := (d, .s .dead) :: ((st.kill (PC.atLoc d)).kill (PC.ofDst d)).t, r := (d, none) :: ((st.kill (PC.atLoc d)).kill (PC.ofDst d)).r, b := dropB d ((st.kill (PC.atLoc d)).kill (PC.ofDst d)).b }
theorem prep_cons (st : St) (d : Nat) (l : List Nat) : st.prep (d :: l) = (prep1 st d).prep l := rfl
theorem look_dropB (d : Nat) : ∀ (l : List (Nat × Buf)) (t : Nat), look (dropB d l) t = cond (tokOf d t) none (look l t)
  | [], t => by simp [dropB, look]
  | (m, B) :: l, t => by
    simp only [dropB]
    cases e : tokOf d m with
    | true =>
      simp only [cond_true, look_cons]
      rw [look_dropB d l t]
      by_cases e2 : m = t
      · subst e2; simp [e]
      · simp [e2]
    | false =>
      simp only [cond_false, look_cons]
      rw [look_dropB d l t]
      by_cases e2 : m = t
      · subst e2; simp [e]
      · simp [e2]
theorem mapD_allC {f g : PC → Bool} (hd : g .dead = true) (hi : ∀ p, f p = false → g p = true) (pv : PV) : PV.allC g (pv.mapD f) = true := by
  have one : ∀ p : PC, g (p.mapD f) = true := fun p => by
    unfold PC.mapD
    cases e : f p with
    | true => exact hd
    | false => exact hi p e
  have l : ∀ ps : List PC, (ps.map (PC.mapD f)).all g = true := fun ps => by simp [one]
  cases pv with
  | s p => exact one p
  | agg ps => exact l ps
  | tup vs => simp only [PV.mapD, PV.allC, List.all_map]; exact List.all_eq_true.2 fun v _ => l v.2
theorem mapD_allC' {f g : PC → Bool} (hd : g .dead = true) {pv : PV} (h : PV.allC g pv = true) : PV.allC g (pv.mapD f) = true := by
  have one : ∀ p : PC, g p = true → g (p.mapD f) = true := fun p hp => by
    unfold PC.mapD
    cases f p with
    | true => exact hd
    | false => exact hp
  have l : ∀ ps : List PC, ps.all g = true → (ps.map (PC.mapD f)).all g = true := fun ps h => by
    rw [List.all_map]; exact List.all_eq_true.2 fun p hp => one p (List.all_eq_true.1 h p hp)
  cases pv with
  | s p => exact one p h
  | agg ps => exact l ps h
  | tup vs => simp only [PV.mapD, PV.allC, List.all_map]; exact List.all_eq_true.2 fun v hv => l v.2 (List.all_eq_true.1 h v hv)
theorem mapD_all {f g : PC → Bool} (hd : g .dead = true) (hi : ∀ p, f p = false → g p = true) (ps : List PC) : (ps.map (PC.mapD f)).all g = true :=
  mapD_allC hd hi (.agg ps)
theorem mapD_all' {f g : PC → Bool} (hd : g .dead = true) {ps : List PC} (h : ps.all g = true) : (ps.map (PC.mapD f)).all g = true :=
  mapD_allC' (pv := .agg ps) hd h
theorem prep1_t {d n : Nat} {pv : PV} (h : look (prep1 st d).t n = some pv) : (n = d ∧ pv = .s .dead) ∨ (n ≠ d ∧ look ((st.kill (PC.atLoc d)).kill (PC.ofDst d)).t n = some pv) := by
  simp only [prep1, look_cons] at h
  by_cases e : d = n
  · subst e; simp at h; exact .inl ⟨rfl, h.symm⟩
  · rw [if_neg e] at h; exact .inr ⟨fun x => e x.symm, h⟩
theorem prep1_r {d r : Nat} {c : List PC} (h : (prep1 st d).row r = some c) : r ≠ d ∧ ((st.kill (PC.atLoc d)).kill (PC.ofDst d)).row r = some c := by
  simp only [prep1, St.row, look_cons] at h
  by_cases e : d = r
  · subst e; simp at h
  · rw [if_neg e] at h; exact ⟨fun x => e x.symm, h⟩
theorem prep1_b {d t : Nat} : look (prep1 st d).b t = cond (tokOf d t) none (look st.b t) := by
  simp only [prep1, kill_b]; exact look_dropB d _ t
theorem names_dead (d : Nat) : PC.names d .dead = false := rfl
theorem prep1_clean (st : St) (d : Nat) : Clean d (prep1 st d) ∧ look (prep1 st d).t d = some (.s .dead) := by
  have two : ∀ pv : PV, PV.allC (fun p => !PC.names d p) ((pv.mapD (PC.atLoc d)).mapD (PC.ofDst d)) = true := fun pv => by
    have h1 : PV.allC (fun p => !PC.atLoc d p) ((pv.mapD (PC.atLoc d)).mapD (PC.ofDst d)) = true := mapD_allC' rfl (mapD_allC rfl (fun p hp => by simp [hp]) pv)
    have h2 : PV.allC (fun p => !PC.ofDst d p) ((pv.mapD (PC.atLoc d)).mapD (PC.ofDst d)) = true := mapD_allC rfl (fun p hp => by simp [hp]) _
    generalize (pv.mapD (PC.atLoc d)).mapD (PC.ofDst d) = q at h1 h2 ⊢
    have l : ∀ ps : List PC, ps.all (fun p => !PC.atLoc d p) = true → ps.all (fun p => !PC.ofDst d p) = true → ps.all (fun p => !PC.names d p) = true := fun ps h1 h2 =>
      List.all_eq_true.2 fun p hp => by
        have a1 := List.all_eq_true.1 h1 p hp
        have a2 := List.all_eq_true.1 h2 p hp
        simp only [Bool.not_eq_true'] at a1 a2
        simp [PC.names, a1, a2]
    cases q with
    | s p =>
      simp only [PV.allC, Bool.not_eq_true'] at h1 h2
      simp [PV.allC, PC.names, h1, h2]
    | agg ps => exact l ps h1 h2
    | tup vs => exact List.all_eq_true.2 fun v hv => l v.2 (List.all_eq_true.1 h1 v hv) (List.all_eq_true.1 h2 v hv)
  refine ⟨⟨fun n pv h => ?_, fun r c h => ?_, ?_, fun t ht => ?_⟩, by simp [prep1, look_cons]⟩
  · rcases prep1_t h with ⟨_, rfl⟩ | ⟨_, h⟩
    · rfl
    · obtain ⟨q, h1, rfl⟩ := kill_t_some h
      obtain ⟨q', h2, rfl⟩ := kill_t_some h1
      exact two q'
  · obtain ⟨_, h⟩ := prep1_r h
    obtain ⟨q, h1, rfl⟩ := kill_row_some h
    obtain ⟨q', h2, rfl⟩ := kill_row_some h1
    exact two (.agg q')
  · simp [prep1, St.row, look_cons]
  · rw [prep1_b, ht]; rfl
theorem prep1_keep {d d' : Nat} (h : Clean d' st ∧ look st.t d' = some (.s .dead)) : Clean d' (prep1 st d) ∧ look (prep1 st d).t d' = some (.s .dead) := by
  obtain ⟨h, hd⟩ := h
  refine ⟨⟨fun n pv hn => ?_, fun r c hr => ?_, ?_, fun t ht => ?_⟩, ?_⟩
  · rcases prep1_t hn with ⟨_, rfl⟩ | ⟨_, hn⟩
    · rfl
    · obtain ⟨q, h1, rfl⟩ := kill_t_some hn
      obtain ⟨q', h2, rfl⟩ := kill_t_some h1
      exact mapD_allC' rfl (mapD_allC' rfl (h.t n _ h2))
  · obtain ⟨_, hr⟩ := prep1_r hr
    obtain ⟨q, h1, rfl⟩ := kill_row_some hr
    obtain ⟨q', h2, rfl⟩ := kill_row_some h1
    exact mapD_all' rfl (mapD_all' rfl (h.r r _ h2))
  · cases e : (prep1 st d).row d' with
    | none => rfl
    | some c =>
      obtain ⟨_, hr⟩ := prep1_r e
      obtain ⟨q, h1, rfl⟩ := kill_row_some hr
      obtain ⟨q', h2, rfl⟩ := kill_row_some h1
      rw [h.row] at h2; cases h2
  · rw [prep1_b, h.b t ht]; cases tokOf d t <;> rfl
  · simp only [prep1, look_cons]
    split
    · rfl
    · rw [kill_t, kill_t, hd]; rfl
theorem prep_keep : ∀ (l : List Nat) {st : St} {d : Nat}, Clean d st ∧ look st.t d = some (.s .dead) → Clean d (st.prep l) ∧ look (st.prep l).t d = some (.s .dead)
  | [], _, _, h => h
  | d' :: l, st, d, h => by rw [prep_cons]; exact prep_keep l (prep1_keep h)
theorem prep_clean : ∀ (l : List Nat) {st : St} {d : Nat}, d ∈ l → Clean d (st.prep l) ∧ look (st.prep l).t d = some (.s .dead)
  | [], _, _, h => by simp at h
  | d' :: l, st, d, h => by
    rw [prep_cons]
    rcases List.mem_cons.1 h with rfl | h
    · exact prep_keep l (prep1_clean st d)
    · exact prep_clean l h
theorem Rel.prep1 (h : Rel P Z X st a w) (d : Nat) : Rel P Z X (prep1 st d) a w := by
  have g := (h.kill (PC.atLoc d)).kill (PC.ofDst d)
  have nd : ∀ q : PV, PV.allC (fun p => !PC.ofDst d p) (q.mapD (PC.ofDst d)) = true := fun q => mapD_allC rfl (fun p hp => by simp [hp]) q
  have tk : ∀ p, PC.okTok ((st.kill (PC.atLoc d)).kill (PC.ofDst d)).b p = true → (!PC.ofDst d p) = true → PC.okTok (PgAM.prep1 st d).b p = true := by
    intro p h1 h2
    simp only [Bool.not_eq_true'] at h2
    unfold PC.okTok at h1 ⊢
    cases e : p.tk with
    | none => rfl
    | some t =>
      rw [e] at h1
      simp only [kill_b] at h1 ⊢
      rw [prep1_b]
      have : tokOf d t = false := by
        cases p <;> simp only [PC.tk] at e <;> cases e <;> exact h2
      rw [this]; exact h1
  refine g.sub ⟨fun n pv hn => ?_, fun r c hr => ?_, fun t B hB => ?_⟩
  · rcases prep1_t hn with ⟨_, rfl⟩ | ⟨_, hn⟩
    · exact .inl rfl
    · refine .inr ⟨hn, ?_⟩
      have h1 := (g.t n pv hn).okTok
      obtain ⟨q, _, rfl⟩ := kill_t_some hn
      have h2 := nd q
      generalize q.mapD (PC.ofDst d) = pv at h1 h2 ⊢
      have l : ∀ ps : List PC, ps.all (PC.okTok ((st.kill (PC.atLoc d)).kill (PC.ofDst d)).b) = true → ps.all (fun p => !PC.ofDst d p) = true → ps.all (PC.okTok (PgAM.prep1 st d).b) = true := fun ps h1 h2 =>
        List.all_eq_true.2 fun p hp => tk p (List.all_eq_true.1 h1 p hp) (List.all_eq_true.1 h2 p hp)
      cases pv with
      | s p => exact tk p h1 h2
      | agg ps => exact l ps h1 h2
      | tup vs => exact List.all_eq_true.2 fun v hv => l v.2 (List.all_eq_true.1 h1 v hv) (List.all_eq_true.1 h2 v hv)
  · obtain ⟨_, hr⟩ := prep1_r hr
    refine ⟨hr, ?_⟩
    obtain ⟨_, _, cs, el, _, hc⟩ := g.r r c hr
    have h1 := cells_all (fun p v (hx : RelK P X _ w p v) => RelC.okTok hx.1) hc
    obtain ⟨q, _, rfl⟩ := kill_row_some hr
    have h2 := nd (.agg q)
    exact List.all_eq_true.2 fun p hp => tk p (List.all_eq_true.1 h1 p hp) (List.all_eq_true.1 h2 p hp)
  · rw [prep1_b] at hB
    cases e : tokOf d t with
    | true => rw [e] at hB; cases hB
    | false => rw [e] at hB; exact hB
theorem Rel.prep : ∀ (l : List Nat) {st : St}, Rel P Z X st a w → Rel P Z X (st.prep l) a w
  | [], _, h => h
  | d :: l, st, h => by rw [prep_cons]; exact Rel.prep l (h.prep1 d)
/-- A slot's row that is not there may be anywhere. -/
theorem Rel.rho (h : Rel P Z X σ a w) {d : Nat} (hc : Clean d σ) (n : Nat) : Rel P Z { X with ρ := upd X.ρ d n } σ a w := by
  have m : Moves X { X with ρ := upd X.ρ d n } σ.b σ.b w w (PC.names d) := by
    refine ⟨rfl, fun _ => Nat.le_refl _, Keeps.refl _ _ _, fun p r hp hr => upd_ne _ _ fun e => ?_, fun p t _ _ => ⟨rfl, fun B hB => ⟨B, hB, rfl, rfl⟩⟩, fun _ _ _ _ _ _ _ _ _ => rfl⟩
    subst e
    simp [PC.names, hr] at hp
  have hi : ∀ p v, RelC P X σ.b w p v → (!PC.names d p) = true → RelC P { X with ρ := upd X.ρ d n } σ.b w p v := fun p v hx hg => RelC.step m p v (by simpa using hg) hx
  have hne : ∀ r c, σ.row r = some c → r ≠ d := fun r c hr e => by subst e; rw [hc.row] at hr; cases hr
  refine { O := h.O, evo := h.evo, nt := h.nt, defers := h.defers, t := fun n pv hn => RelP.imp hi (h.t n pv hn) (hc.t n pv hn), r := fun r c hr => ?_, b := h.b, rr := fun r r' c c' h1 h2 hne' => ?_, rb := fun r c t B b cap h1 h2 h3 => ?_, bb := h.bb }
  · obtain ⟨k1, k2, cs, el, k3, k4⟩ := h.r r c hr
    have e : upd X.ρ d n r = X.ρ r := upd_ne _ _ (hne r c hr)
    refine ⟨by show ¬ X.O (upd X.ρ d n r); rw [e]; exact k1, by show X.F (upd X.ρ d n r) = 0; rw [e]; exact k2, cs, el, by show w.heap[upd X.ρ d n r]? = _; rw [e]; exact k3, ?_⟩
    exact cells_imp (fun p v hx hg => ⟨hi p v hx.1 hg, hx.2⟩) k4 (hc.r r c hr)
  · show upd X.ρ d n r ≠ upd X.ρ d n r'
    rw [upd_ne _ _ (hne r c h1), upd_ne _ _ (hne r' c' h2)]
    exact h.rr r r' c c' h1 h2 hne'
  · show upd X.ρ d n r ≠ b
    rw [upd_ne _ _ (hne r c h1)]
    exact h.rb r c t B b cap h1 h2 h3
end Go.PgAM

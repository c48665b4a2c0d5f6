/-
  Loops, jumps, all of a body.
-/
import Derived.Test.YtbljidhiecbcfaaAmAny
import Derived.LoopN
import Derived.ScopeJumps
namespace Go.PgAM
open Go Go.RowKit
set_option linter.unusedVariables false
set_option linter.unusedSimpArgs false
variable {P : Program} {Z : At0} {X X' : Cx} {st st' : St} {a : Act} {w w' : World} {E : Env}

theorem all2_map {R S : PC → Value → Prop} (f : PC → PC) : ∀ {ps : List PC} {us : List Value}, (∀ p v, p ∈ ps → R p v → S (f p) v) → All2 R ps us → All2 S (ps.map f) us
  | [], [], _, _ => trivial
  | p :: ps, u :: us, hi, h => ⟨hi p u (by simp) h.1, all2_map f (fun p v hp => hi p v (by simp [hp])) h.2⟩
  | [], _ :: _, _, h => h.elim
  | _ :: _, [], _, h => h.elim
theorem RelP.mapC {bs bs' : List (Nat × Buf)} (f : PC → PC) (hi : ∀ p v, RelC P X bs w p v → RelC P X' bs' w (f p) v) {pv : PV} {v : Value} (h : RelP P X bs w pv v) : RelP P X' bs' w (pv.mapC f) v := by
  cases pv with
  | s p => exact hi p v h
  | agg ps => obtain ⟨cells, hv, hc⟩ := h; exact ⟨cells, hv, all2_map f (fun p v _ hx => ⟨hi p v hx.1, hx.2⟩) hc⟩
  | tup vs =>
    obtain ⟨us, hv, hc⟩ := h
    refine ⟨us, hv, ?_⟩
    refine All2.imp (fun v : Bool × List PC => (v.1, v.2.map f)) (fun x u hx => ?_) hc
    obtain ⟨ag, ps⟩ := x
    cases ag with
    | true => obtain ⟨cells, hu, hc⟩ := hx; exact ⟨cells, hu, all2_map f (fun p v _ hx => ⟨hi p v hx.1, hx.2⟩) hc⟩
    | false => exact all2_map (R := RelK P X bs w) (S := RelK P X' bs' w) f (fun p v _ hx => ⟨hi p v hx.1, hx.2⟩) hx
theorem RelP.mapCD {bs bs' : List (Nat × Buf)} (f : PC → PC) (g : PC → Bool) (hi : ∀ p v, RelC P X bs w p v → g p = true → RelC P X' bs' w (f p) v) {pv : PV} {v : Value} (h : RelP P X bs w pv v) (hg : PV.allC g pv = true) : RelP P X' bs' w (pv.mapC f) v := by
  cases pv with
  | s p => exact hi p v h hg
  | agg ps => obtain ⟨cells, hv, hc⟩ := h; exact ⟨cells, hv, all2_map f (fun p v hm hx => ⟨hi p v hx.1 (List.all_eq_true.1 hg p hm), hx.2⟩) hc⟩
  | tup vs =>
    obtain ⟨us, hv, hc⟩ := h
    refine ⟨us, hv, ?_⟩
    have key : ∀ {vs : List (Bool × List PC)} {us : List Value}, All2 (RelTC P X bs w) vs us → (vs.all fun v => v.2.all g) = true → All2 (RelTC P X' bs' w) (vs.map fun v => (v.1, v.2.map f)) us := by
      intro vs
      induction vs with
      | nil => intro us h _; cases us with
        | nil => trivial
        | cons u us => exact h.elim
      | cons v vs ih =>
        intro us h hg
        cases us with
        | nil => exact h.elim
        | cons u us =>
          simp only [List.all_cons, Bool.and_eq_true] at hg
          refine ⟨?_, ih h.2 hg.2⟩
          have hx := h.1
          obtain ⟨ag, ps⟩ := v
          cases ag with
          | true => obtain ⟨cells, hu, hc⟩ := hx; exact ⟨cells, hu, all2_map f (fun p v hm hx => ⟨hi p v hx.1 (List.all_eq_true.1 hg.1 p hm), hx.2⟩) hc⟩
          | false => exact all2_map (R := RelK P X bs w) (S := RelK P X' bs' w) f (fun p v hm hx => ⟨hi p v hx.1 (List.all_eq_true.1 hg.1 p hm), hx.2⟩) hx
    exact key hc hg

/-- A buffer gets another number. -/
theorem Rel.retok (h : Rel P Z X st a w) {s t : Nat} (hne : s ≠ t) : ∃ X', Rel P Z X' (st.retok s t) a w := by
  unfold St.retok
  split
  · exact ⟨X, h⟩
  · rename_i B hB
    have g := h.kill (PC.atTok t)
    have hl : ∀ n, look (Go.PgAM.put (dropTok s (st.kill (PC.atTok t)).b) t B) n = if n = t then some B else if n = s then none else look st.b n := by
      intro n
      rw [Go.PgAM.put, look_cons, look_dropTok, kill_b]
      by_cases e : t = n
      · subst e; simp
      · have e2 : ¬ n = t := fun x => e x.symm
        simp only [if_neg e, if_neg e2]
    have nd : ∀ q : PV, PV.allC (fun p => !PC.atTok t p) (q.mapD (PC.atTok t)) = true := fun q => mapD_allC rfl (fun p hp => by simp [hp]) q
    have hi : ∀ p v, RelC P X st.b w p v → (!PC.atTok t p) = true → RelC P { X with β := upd X.β t (X.β s) } (Go.PgAM.put (dropTok s (st.kill (PC.atTok t)).b) t B) w (p.retok s t) v := by
      intro p v hp hn
      simp only [Bool.not_eq_true'] at hn
      have tk : ∀ n, Nat.beq n t = false → n ≠ t := fun n h e => by subst e; simp at h
      have beqf : ∀ n, n ≠ s → Nat.beq n s = false := fun n h => by rw [Bool.eq_false_iff]; exact fun h' => h (Nat.eq_of_beq_eq_true h')
      cases p with
      | own n =>
        obtain ⟨B0, h1, h2⟩ := hp
        have hnt := tk n hn
        by_cases e : n = s
        · subst e
          rw [hB] at h1; cases h1
          simp only [PC.retok, Nat.beq_refl, cond_true]
          exact ⟨B, by rw [hl, if_pos rfl], by simpa only [SlAt, upd_same] using h2⟩
        · simp only [PC.retok, beqf n e, cond_false]
          exact ⟨B0, by rw [hl, if_neg hnt, if_neg e]; exact h1, by simpa only [SlAt, upd_ne _ _ hnt] using h2⟩
      | eptr n i o cs =>
        obtain ⟨B0, b, cap, h1, h2, h3⟩ := hp
        have hnt := tk n hn
        by_cases e : n = s
        · subst e
          rw [hB] at h1; cases h1
          simp only [PC.retok, Nat.beq_refl, cond_true]
          exact ⟨B, b, cap, by rw [hl, if_pos rfl], by simp only [upd_same]; exact h2, h3⟩
        · simp only [PC.retok, beqf n e, cond_false]
          exact ⟨B0, b, cap, by rw [hl, if_neg hnt, if_neg e]; exact h1, by simp only [upd_ne _ _ hnt]; exact h2, h3⟩
      | opre n k =>
        obtain ⟨B0, h1, h2, h3⟩ := hp
        have hnt := tk n hn
        by_cases e : n = s
        · subst e
          rw [hB] at h1; cases h1
          simp only [PC.retok, Nat.beq_refl, cond_true]
          exact ⟨B, by rw [hl, if_pos rfl], h2, by simpa only [SlAt, upd_same] using h3⟩
        · simp only [PC.retok, beqf n e, cond_false]
          exact ⟨B0, by rw [hl, if_neg hnt, if_neg e]; exact h1, h2, by simpa only [SlAt, upd_ne _ _ hnt] using h3⟩
      | osuf n k =>
        obtain ⟨B0, h1, h2, h3⟩ := hp
        have hnt := tk n hn
        by_cases e : n = s
        · subst e
          rw [hB] at h1; cases h1
          simp only [PC.retok, Nat.beq_refl, cond_true]
          exact ⟨B, by rw [hl, if_pos rfl], h2, by simpa only [upd_same] using h3⟩
        · simp only [PC.retok, beqf n e, cond_false]
          exact ⟨B0, by rw [hl, if_neg hnt, if_neg e]; exact h1, h2, by simpa only [upd_ne _ _ hnt] using h3⟩
      | d c => exact hp
      | loc r o => exact hp
      | sref cs => exact hp
      | fn f cs => exact hp
      | undef => exact hp
      | dead => trivial
    have hrow : ∀ r c, St.row { t := (st.kill (PC.atTok t)).t.map fun p => (p.1, p.2.mapC (PC.retok s t)), r := (st.kill (PC.atTok t)).r.map fun p => (p.1, p.2.map (List.map (PC.retok s t))), b := Go.PgAM.put (dropTok s (st.kill (PC.atTok t)).b) t B } r = some c →
        ∃ c', (st.kill (PC.atTok t)).row r = some c' ∧ c = c'.map (PC.retok s t) := by
      intro r c hr
      unfold St.row at hr
      simp only at hr
      rw [look_map (fun o : Option (List PC) => o.map (List.map (PC.retok s t)))] at hr
      unfold St.row
      cases e : look (st.kill (PC.atTok t)).r r with
      | none => rw [e] at hr; cases hr
      | some o =>
        rw [e] at hr
        cases o with
        | none => cases hr
        | some c' => cases hr; exact ⟨c', rfl, rfl⟩
    have hbuf : ∀ n B', look (Go.PgAM.put (dropTok s (st.kill (PC.atTok t)).b) t B) n = some B' → (n = t ∧ B' = B) ∨ (n ≠ t ∧ n ≠ s ∧ look st.b n = some B') := by
      intro n B' hn
      rw [hl] at hn
      by_cases e : n = t
      · rw [if_pos e] at hn; cases hn; exact .inl ⟨e, rfl⟩
      · rw [if_neg e] at hn
        by_cases e2 : n = s
        · rw [if_pos e2] at hn; cases hn
        · rw [if_neg e2] at hn; exact .inr ⟨e, e2, hn⟩
    refine ⟨{ X with β := upd X.β t (X.β s) }, { O := h.O, evo := h.evo, nt := h.nt, defers := h.defers, t := fun n pv hn => ?_, r := fun r c hr => ?_, b := fun n B' hn => ?_, rr := fun r r' c c' h1 h2 => ?_, rb := fun r c n B' b cap h1 h2 h3 => ?_, bb := fun n n' B1 B2 b cap b' cap' h1 h2 h3 h4 hnn => ?_ }⟩
    · rw [look_map] at hn
      obtain ⟨q, h1, rfl⟩ := Option.map_eq_some_iff.1 hn
      have h2 := g.t n q h1
      obtain ⟨q', _, rfl⟩ := kill_t_some h1
      exact RelP.mapCD _ _ hi h2 (nd q')
    · obtain ⟨c', h1, rfl⟩ := hrow r c hr
      obtain ⟨k1, k2, cs, el, k3, k4⟩ := g.r r c' h1
      obtain ⟨c2, _, rfl⟩ := kill_row_some h1
      have := nd (.agg c2)
      exact ⟨k1, k2, cs, el, k3, all2_map _ (fun p v hm hx => ⟨hi p v hx.1 (List.all_eq_true.1 this p hm), hx.2⟩) k4⟩
    · rcases hbuf n B' hn with ⟨rfl, rfl⟩ | ⟨h1, h2, h3⟩
      · have := h.b s B' hB
        simpa only [BufOk, upd_same] using this
      · have := h.b n B' h3
        simpa only [BufOk, upd_ne _ _ h1] using this
    · obtain ⟨c1, q1, _⟩ := hrow r c h1
      obtain ⟨c2, q2, _⟩ := hrow r' c' h2
      exact g.rr r r' c1 c2 q1 q2
    · obtain ⟨c1, q1, _⟩ := hrow r c h1
      rcases hbuf n B' h2 with ⟨rfl, rfl⟩ | ⟨k1, k2, k3⟩
      · simp only [upd_same] at h3; exact g.rb r c1 s B' b cap q1 hB h3
      · simp only [upd_ne _ _ k1] at h3; exact g.rb r c1 n B' b cap q1 k3 h3
    · rcases hbuf n B1 h1 with ⟨e1, e1'⟩ | ⟨k1, k2, k3⟩ <;> rcases hbuf n' B2 h2 with ⟨e2, e2'⟩ | ⟨m1, m2, m3⟩
      · exact absurd (e1.trans e2.symm) hnn
      · subst e1
        simp only [upd_same] at h3; simp only [upd_ne _ _ m1] at h4
        exact h.bb s n' B B2 b cap b' cap' hB m3 h3 h4 fun e => m2 e.symm
      · subst e2
        simp only [upd_same] at h4; simp only [upd_ne _ _ k1] at h3
        exact h.bb n s B1 B b cap b' cap' k3 hB h3 h4 k2
      · simp only [upd_ne _ _ k1] at h3; simp only [upd_ne _ _ m1] at h4
        exact h.bb n n' B1 B2 b cap b' cap' k3 m3 h3 h4 hnn
theorem Rel.retoks : ∀ (l : List Nat) {X : Cx} {st : St}, Rel P Z X st a w → ∃ X', Rel P Z X' (st.retoks l) a w
  | [], X, st, h => ⟨X, h⟩
  | n :: l, X, st, h => by
    simp only [St.retoks]
    split
    · rename_i t e
      cases e2 : Nat.beq t (500000 + n) with
      | true => exact Rel.retoks l h
      | false =>
        obtain ⟨X', h'⟩ := h.retok (s := t) (t := 500000 + n) fun e3 => by rw [e3] at e2; simp at e2
        exact Rel.retoks l h'
    · exact Rel.retoks l h
theorem look_pickT {K : Keep} {n : Nat} {pv : PV} : ∀ {l : List Nat}, look (pickT K st l) n = some pv → pv = cond (memb K.fz n) ((st.tmp n).frz st.b) (st.tmp n)
  | [], h => by cases h
  | m :: l, h => by
    simp only [pickT, look_cons] at h
    by_cases e : m = n
    · rw [if_pos e] at h; subst e; exact (Option.some.inj h).symm
    · rw [if_neg e] at h; exact look_pickT h
theorem look_pickR {K : Keep} {n : Nat} {o : Option (List PC)} : ∀ {l : List Nat}, look (pickR K st l) n = some o → o = cond (memb K.fz n) ((st.row n).map (List.map (PC.frz st.b))) (st.row n)
  | [], h => by cases h
  | m :: l, h => by
    simp only [pickR, look_cons] at h
    by_cases e : m = n
    · rw [if_pos e] at h; subst e; exact (Option.some.inj h).symm
    · rw [if_neg e] at h; exact look_pickR h
theorem look_pickB {bs : List (Nat × Buf)} {t : Nat} {B : Buf} : ∀ {l : List Nat}, look (pickB bs l) t = some B → look bs t = some B
  | [], h => by cases h
  | m :: l, h => by
    simp only [pickB] at h
    split at h
    · rename_i B' e
      rw [look_cons] at h
      by_cases e2 : m = t
      · rw [if_pos e2] at h; subst e2; rw [e]; exact h
      · rw [if_neg e2] at h; exact look_pickB h
    · exact look_pickB h
/-- A buffer that is wholly shown is a plain list. -/
theorem Rel.frz (h : Rel P Z X st a w) {p : PC} {v : Value} (hp : RelC P X st.b w p v) (hc : ∀ t, p = .own t → ∀ B b cap, look st.b t = some B → X.β t = some (b, cap) → B.xs.length * B.e.size ≤ X.F b) : RelC P X st.b w (p.frz st.b) v := by
  cases p with
  | own t =>
    obtain ⟨B, hB, hv⟩ := hp
    simp only [PC.frz, hB]
    exact h.snap (fun _ => Nat.le_refl _) hB hv fun b cap hb => hc t rfl B b cap hB hb
  | _ => exact hp
theorem Rel.restrict (h : Rel P Z X st a w) (K : Keep) : ∃ X', Rel P Z X' (st.restrict K) a w := by
  obtain ⟨X1, h1⟩ := h.retoks K.rn
  unfold St.restrict
  simp only
  generalize st.retoks K.rn = s0 at h1
  obtain ⟨F1, f1, f2, f3, f4⟩ := Rel.share (K.sh ++ K.fz.flatMap fun n => (s0.tmp n).toks s0 ++ rowToks s0 n) h1
  generalize hts : (K.sh ++ K.fz.flatMap fun n => (s0.tmp n).toks s0 ++ rowToks s0 n) = ts at f1 f2 f3 f4
  have hcov : ∀ t, t ∈ ts → ∀ B b cap, look (s0.share ts).b t = some B → X1.β t = some (b, cap) → B.xs.length * B.e.size ≤ F1 b := by
    intro t ht B b cap hB hb
    obtain ⟨x, hx⟩ := share_some hB
    exact f3 t { B with x := x } b cap ht hx hb
  have hmemT : ∀ n t, memb K.fz n = true → s0.tmp n = .s (.own t) → t ∈ ts := by
    intro n t hn e
    rw [← hts]
    refine List.mem_append.2 (.inr (List.mem_flatMap.2 ⟨n, memb_iff.1 hn, ?_⟩))
    rw [e]; simp [PV.toks, PC.toks]
  have hmemR : ∀ n t c, memb K.fz n = true → s0.row n = some c → PC.own t ∈ c → t ∈ ts := by
    intro n t c hn e hm
    rw [← hts]
    refine List.mem_append.2 (.inr (List.mem_flatMap.2 ⟨n, memb_iff.1 hn, List.mem_append.2 (.inr ?_)⟩))
    unfold rowToks
    rw [e]
    exact List.mem_flatMap.2 ⟨_, hm, by simp⟩
  have htmp : ∀ n, (s0.share ts).tmp n = s0.tmp n := fun n => by unfold St.tmp; rw [share_t]
  have hfz : ∀ p v, RelC P { X1 with F := F1 } (s0.share ts).b w p v → RelC P { X1 with F := F1 } (pickB (s0.share ts).b K.bs) w (p.mapD fun q => !PC.okTok (pickB (s0.share ts).b K.bs) q) v := by
    intro p v hp
    unfold PC.mapD
    cases e : PC.okTok (pickB (s0.share ts).b K.bs) p with
    | true =>
      have := hp.sub (bs' := pickB (s0.share ts).b K.bs) (fun t B => look_pickB) e
      simpa [e] using this
    | false => simp [e, RelC]
  refine ⟨{ X1 with F := F1 }, { O := f4.O, evo := f4.evo, nt := f4.nt, defers := f4.defers, t := fun n pv hn => ?_, r := fun r c hr => ?_, b := fun t B hB => f4.b t B (look_pickB hB), rr := ?_, rb := ?_, bb := fun t t' B B' b cap b' cap' q1 q2 => f4.bb t t' B B' b cap b' cap' (look_pickB q1) (look_pickB q2) }⟩
  · rw [look_map] at hn
    obtain ⟨q, k1, rfl⟩ := Option.map_eq_some_iff.1 hn
    have k2 := look_pickT k1
    have key : RelP P { X1 with F := F1 } (s0.share ts).b w q (a.tmps.getD n Go.undef) := by
      cases e : memb K.fz n with
      | false => rw [e] at k2; rw [k2]; exact tmp_ok f4 n
      | true =>
        rw [e] at k2
        simp only [cond_true] at k2
        have h2 := tmp_ok f4 n
        rw [k2]
        generalize hq : (s0.share ts).tmp n = pv at h2
        rw [htmp] at hq
        cases pv with
        | s p => exact f4.frz h2 fun t ht => hcov t (hmemT n t e (by rw [hq, ht]))
        | agg ps => exact h2
        | tup vs => exact h2
    have := RelP.mapC (X' := { X1 with F := F1 }) (bs' := pickB (s0.share ts).b K.bs) (PC.mapD fun q => !PC.okTok (pickB (s0.share ts).b K.bs) q) hfz key
    cases q <;> exact this
  · have hr' : ∃ c', (∃ c0, (s0.share ts).row r = some c0 ∧ c' = cond (memb K.fz r) (c0.map (PC.frz (s0.share ts).b)) c0) ∧ c = c'.map (PC.mapD fun q => !PC.okTok (pickB (s0.share ts).b K.bs) q) := by
      unfold St.row at hr
      simp only at hr
      rw [look_map (fun o : Option (List PC) => o.map (List.map (PC.mapD fun q => !PC.okTok (pickB (s0.share ts).b K.bs) q)))] at hr
      cases e : look (pickR K (s0.share ts) K.rs) r with
      | none => rw [e] at hr; cases hr
      | some o =>
        rw [e] at hr
        have k2 := look_pickR e
        cases e2 : (s0.share ts).row r with
        | none =>
          rw [e2] at k2
          have : o = none := by rw [k2]; cases memb K.fz r <;> rfl
          subst this; cases hr
        | some c0 =>
          rw [e2] at k2
          have : o = some (cond (memb K.fz r) (c0.map (PC.frz (s0.share ts).b)) c0) := by rw [k2]; cases memb K.fz r <;> rfl
          subst this
          cases hr
          exact ⟨_, ⟨c0, rfl, rfl⟩, rfl⟩
    obtain ⟨c', ⟨c0, q1, q2⟩, rfl⟩ := hr'
    obtain ⟨k1, k2, cs, el, k3, k4⟩ := f4.r r c0 q1
    have key : All2 (RelK P { X1 with F := F1 } (s0.share ts).b w) c' cs.toList := by
      cases e : memb K.fz r with
      | false => rw [e] at q2; rw [q2]; exact k4
      | true =>
        rw [e] at q2
        rw [q2]
        rw [share_row] at q1
        exact all2_map _ (fun p v hm hx => ⟨f4.frz hx.1 fun t ht => hcov t (hmemR r t c0 e q1 (by rw [← ht]; exact hm)), hx.2⟩) k4
    exact ⟨k1, k2, cs, el, k3, all2_map _ (fun p v hm hx => ⟨hfz p v hx.1, hx.2⟩) key⟩
  · intro r r' c c' q1 q2
    obtain ⟨c1, q1⟩ := pick_row q1
    obtain ⟨c2, q2⟩ := pick_row q2
    exact f4.rr r r' c1 c2 q1 q2
  · intro r c t B b cap q1 q2
    obtain ⟨c1, q1⟩ := pick_row q1
    exact f4.rb r c1 t B b cap q1 (look_pickB q2)
where
  pick_row {K : Keep} {s : St} {f : PC → Bool} {tt : List (Nat × PV)} {bs : List (Nat × Buf)} {r : Nat} {c : List PC} (hr : St.row ⟨tt, (pickR K s K.rs).map fun p => (p.1, p.2.map (List.map (PC.mapD f))), bs⟩ r = some c) : ∃ c1, s.row r = some c1 := by
    unfold St.row at hr
    simp only at hr
    rw [look_map (fun o : Option (List PC) => o.map (List.map (PC.mapD f)))] at hr
    cases e : look (pickR K s K.rs) r with
    | none => rw [e] at hr; cases hr
    | some o =>
      rw [e] at hr
      have k2 := look_pickR e
      cases e2 : s.row r with
      | none =>
        rw [e2] at k2
        have : o = none := by rw [k2]; cases memb K.fz r <;> rfl
        subst this; cases hr
      | some c0 => exact ⟨c0, rfl⟩

def AX.exit' : AX → Exit
  | .normal => .normal
  | .exit id => .exit id
  | .goto l => .goto l
  | .ret => .ret

def Code.hops (P : Program) (rest : Code) (l : Nat) (Q : Exit → Act → World → Prop) : Nat → Act → World → Prop
  | 0, _, _ => False
  | n + 1, a, w => rest.wp P (Exit.jump l (Code.hops P rest l Q n) Q) a w
theorem least (p : Nat → Prop) : ∀ n, p n → ∃ m, p m ∧ ∀ k, k < m → ¬ p k := by
  intro n
  induction n using Nat.strongRecOn with
  | _ n ih =>
    intro hn
    rcases Classical.em (∃ k, k < n ∧ p k) with ⟨k, h1, h2⟩ | hne
    · exact ih k h1 h2
    · exact ⟨n, hn, fun k hk hp => hne ⟨k, hk, hp⟩⟩
open Classical in
theorem wp_scope_hops {Q : Exit → Act → World → Prop} {c rest : Code} (l : Nat) (hf : findLabel c l = some rest) (first : c.wp P (Exit.jump l (fun a w => ∃ n, Code.hops P rest l Q n a w) Q) a w) : (Code.scope c).wp P Q a w := by
  let μ : Act → World → Nat := fun a w => if h : ∃ n, Code.hops P rest l Q n a w then (Classical.choose (least (fun n => Code.hops P rest l Q n a w) (Classical.choose h) (Classical.choose_spec h))) else 0
  refine wp_scope_jumps l _ μ hf first fun a w hJ => ?_
  have hm : Code.hops P rest l Q (μ a w) a w ∧ ∀ k, k < μ a w → ¬ Code.hops P rest l Q k a w := by
    simp only [μ]
    rw [dif_pos hJ]
    exact Classical.choose_spec (least (fun n => Code.hops P rest l Q n a w) (Classical.choose hJ) (Classical.choose_spec hJ))
  cases e : μ a w with
  | zero => rw [e] at hm; exact hm.1.elim
  | succ n =>
    rw [e] at hm
    refine wp_mono (show rest.wp P (Exit.jump l (Code.hops P rest l Q n) Q) a w from hm.1) fun e' a' w' hq => ?_
    cases e' with
    | goto l' =>
      obtain ⟨h1, h2⟩ := hq
      refine ⟨h1, ⟨n, h2⟩, ?_⟩
      have hJ' : ∃ n, Code.hops P rest l Q n a' w' := ⟨n, h2⟩
      have hm' : ∀ k, k < μ a' w' → ¬ Code.hops P rest l Q k a' w' := by
        simp only [μ]
        rw [dif_pos hJ']
        exact (Classical.choose_spec (least (fun n => Code.hops P rest l Q n a' w') (Classical.choose hJ') (Classical.choose_spec hJ'))).2
      rcases Nat.lt_or_ge n (μ a' w') with h3 | h3
      · exact absurd h2 (hm' n h3)
      · omega
    | _ => exact hq

theorem aexec_ok (hE : EnvOk P E Z) (hm : P.follows .mixedOrders = true) : ∀ (n : Nat) (c : Code), SizeOf.sizeOf c < n → ∀ {R : Type} {st : St} {X : Cx} {a : Act} {w : World} {k : AX → St → Option R} {y : R} {Q : Exit → Act → World → Prop},
    Rel P Z X st a w → aexec E c st k = some y → (∀ e X' st' a' w', Rel P Z X' st' a' w' → k e st' = some y → Q e.exit' a' w') → c.wp P Q a w
  | 0, c, hn, R, st, X, a, w, k, y, Q, h, hr, hk => absurd hn (Nat.not_lt_zero _)
  | n + 1, c, hn, R, st, X, a, w, k, y, Q, h, hr, hk => by
    have ih := aexec_ok hE hm n
    unfold aexec at hr
    split at hr
    · exact wp_skip (hk .normal X _ a w h hr)
    · rename_i st_ k_ id ops
      obtain ⟨hd, hr⟩ := cond_some hr
      have := runOps_ok (ops := ops) (Q := Q) (tail := []) (kn := []) (P := P) _ False (fun _ _ => False) hE h (fun j v h => by simp at h) (fun o ho => List.all_eq_true.1 hd o ho) hr (fun hf => hf.elim) (fun hf => hf.elim) fun X2 st2 a2 w2 h2 hk2 _ _ => hk .normal X2 st2 a2 w2 h2 hk2
      exact wp_region_list (by simpa using this)
    · rename_i st_ k_ id ops
      obtain ⟨hd, hr⟩ := cond_some hr
      exact runDraw_ok hE hm (fun o ho => List.all_eq_true.1 hd o ho) h hr fun X2 st2 a2 w2 h2 hk2 => hk .normal X2 st2 a2 w2 h2 hk2
    · rename_i st_ k_ x z
      simp only [Code.seq.sizeOf_spec] at hn
      refine wp_seq (ih x (by omega) h hr fun e X' st' a' w' h' hk' => ?_)
      cases e with
      | normal => exact ih z (by omega) h' hk' hk
      | exit id => exact hk (.exit id) X' st' a' w' h' hk'
      | goto l => exact hk (.goto l) X' st' a' w' h' hk'
      | ret => exact hk .ret X' st' a' w' h' hk'
    · rename_i st_ k_ c x z
      simp only [Code.cond.sizeOf_spec] at hn
      split at hr
      · rename_i t e
        obtain ⟨pv, e1, e2⟩ := bind_some2 e
        have hv := asBool_ok e2 (opv_ok h e1)
        refine wp_cond hv ?_
        cases t with
        | true => exact ih x (by omega) h hr hk
        | false => exact ih z (by omega) h hr hk
      · cases hr
    · rename_i st_ k_ id c
      simp only [Code.block.sizeOf_spec] at hn
      refine wp_block (ih c (by omega) h hr fun e X' st' a' w' h' hk' => ?_)
      cases e with
      | normal => exact hk .normal X' st' a' w' h' hk'
      | exit id' =>
        show if id' = id then Q .normal a' w' else Q (.exit id') a' w'
        simp only at hk'
        by_cases e : id' = id
        · subst e
          simp only [Nat.beq_refl, cond_true] at hk'
          rw [if_pos rfl]; exact hk .normal X' st' a' w' h' hk'
        · have : Nat.beq id' id = false := by rw [Bool.eq_false_iff]; exact fun h' => e (Nat.eq_of_beq_eq_true h')
          simp only [this, cond_false] at hk'
          rw [if_neg e]; exact hk (.exit id') X' st' a' w' h' hk'
      | goto l => exact hk (.goto l) X' st' a' w' h' hk'
      | ret => exact hk .ret X' st' a' w' h' hk'
    · rename_i st_ k_ c
      simp only [Code.loop.sizeOf_spec] at hn
      generalize E.keepOf (firstRegion c) = K at hr
      have rounds : ∀ (m : Nat) {st : St} {X : Cx} {a : Act} {w : World}, Rel P Z X st a w → loopN (aexec E c) K m st k = some y → Code.rounds P c Q m a w := by
        intro m
        induction m with
        | zero => intro st X a w h hr; cases hr
        | succ m ihm =>
          intro st X a w h hr
          simp only [loopN] at hr
          refine ih c (by omega) h hr fun e X' st' a' w' h' hk' => ?_
          cases e with
          | normal =>
            obtain ⟨X2, h2⟩ := h'.restrict K
            exact ihm h2 hk'
          | exit id => exact hk (.exit id) X' st' a' w' h' hk'
          | goto l => exact hk (.goto l) X' st' a' w' h' hk'
          | ret => exact hk .ret X' st' a' w' h' hk'
      obtain ⟨X2, h2⟩ := h.restrict K
      exact wp_loop_rounds _ (rounds _ h2 hr)
    · rename_i st_ k_ x l z
      simp only [Code.scope.sizeOf_spec, Code.seq.sizeOf_spec, Code.label.sizeOf_spec] at hn
      obtain ⟨hl, hr⟩ := cond_some hr
      have hl : findLabel x l = none := Option.isNone_iff_eq_none.1 hl
      generalize E.keepOf (10000 + l) = K at hr
      have hf : findLabel (.seq x (.seq (.label l) z)) l = some (.seq .skip z) := by
        simp [findLabel, hl]
      have zwp : ∀ (m : Nat) {st : St} {X : Cx} {a : Act} {w : World}, Rel P Z X st a w → gotoN (aexec E z) l K (m + 1) st k = some y → (∀ {st : St} {X : Cx} {a : Act} {w : World}, Rel P Z X st a w → gotoN (aexec E z) l K m st k = some y → Code.hops P (.seq .skip z) l Q m a w) →
          z.wp P (Exit.jump l (Code.hops P (.seq .skip z) l Q m) Q) a w := by
        intro m st X a w h hr hm'
        simp only [gotoN] at hr
        refine ih z (by omega) h hr fun e X' st' a' w' h' hk' => ?_
        cases e with
        | normal => exact hk .normal X' st' a' w' h' hk'
        | exit id => exact hk (.exit id) X' st' a' w' h' hk'
        | ret => exact hk .ret X' st' a' w' h' hk'
        | goto l' =>
          simp only at hk'
          obtain ⟨e1, e2⟩ := cond_some hk'
          have e1 := Nat.eq_of_beq_eq_true e1
          obtain ⟨X2, h2⟩ := h'.restrict K
          exact ⟨e1, hm' h2 e2⟩
      have hops : ∀ (m : Nat) {st : St} {X : Cx} {a : Act} {w : World}, Rel P Z X st a w → gotoN (aexec E z) l K m st k = some y → Code.hops P (.seq .skip z) l Q m a w := by
        intro m
        induction m with
        | zero => intro st X a w h hr; cases hr
        | succ m ihm =>
          intro st X a w h hr
          exact wp_seq (wp_skip (zwp m h hr ihm))
      refine wp_scope_hops l hf (wp_seq (ih x (by omega) h hr fun e X' st' a' w' h' hk' => ?_))
      cases e with
      | normal =>
        obtain ⟨X2, h2⟩ := h'.restrict K
        simp only at hk'
        refine wp_seq (wp_label ?_)
        show z.wp P _ a' w'
        cases hN : E.N with
        | zero => rw [hN] at hk'; cases hk'
        | succ m =>
          rw [hN] at hk'
          refine wp_mono (zwp m h2 hk' (hops m)) fun e' a2 w2 hq => ?_
          cases e' with
          | goto l' => exact ⟨hq.1, m, hq.2⟩
          | _ => exact hq
      | exit id => exact hk (.exit id) X' st' a' w' h' hk'
      | goto l' => cases hk'
      | ret => exact hk .ret X' st' a' w' h' hk'
    · rename_i st_ k_ id
      exact wp_exit (hk (.exit id) X _ a w h hr)
    · rename_i st_ k_ l
      exact wp_goto (hk (.goto l) X _ a w h hr)
    · exact wp_ret (hk .ret X _ a w h hr)
    · cases hr
end Go.PgAM

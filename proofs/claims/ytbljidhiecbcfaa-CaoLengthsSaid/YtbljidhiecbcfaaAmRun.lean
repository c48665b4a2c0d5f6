/-
  Operations one behind another, guarded stretches among them.
-/
import Derived.Test.YtbljidhiecbcfaaAmOpF
import Derived.Tactics
namespace Go.PgAM
open Go Go.RowKit
set_option linter.unusedVariables false
set_option linter.unusedSimpArgs false
variable {P : Program} {Z : At0} {X : Cx} {st st' : St} {a : Act} {w w' : World} {ops : Array Oper} {Q : Exit → Act → World → Prop}

theorem getD_put2 (a : Act) (d : Option Nat) (v : Value) (n : Nat) (h : d ≠ some n) : (a.put d v).tmps.getD n Go.undef = a.tmps.getD n Go.undef := by
  cases d with
  | none => rfl
  | some d =>
    have hne : d ≠ n := fun e => h (by rw [e])
    simp only [Act.put, Array.getD_eq_getD_getElem?, Array.getElem?_setIfInBounds, if_neg hne]
theorem getD_put_undef (a : Act) (d n : Nat) (h : n = d ∨ a.tmps.getD n Go.undef = Go.undef) : (a.put (some d) Go.undef).tmps.getD n Go.undef = Go.undef := by
  by_cases e : d = n
  · subst e
    simp only [Act.put, Array.getD_eq_getD_getElem?, Array.getElem?_setIfInBounds, if_true]
    by_cases e2 : d < a.tmps.size
    · rw [if_pos e2]; rfl
    · rw [if_neg e2]; rfl
  · rw [getD_put2 _ _ _ _ (fun h' => e (Option.some.inj h'))]
    rcases h with h | h
    · exact absurd h.symm e
    · exact h
/-- What a slot holds may be told. -/
theorem Rel.know (h : Rel P Z X st a w) {d : Nat} {pv : PV} (hv : RelP P X st.b w pv (a.tmps.getD d Go.undef)) : Rel P Z X (st.setT (some d) pv) a w := by
  refine { O := h.O, evo := h.evo, nt := h.nt, defers := h.defers, t := fun n pv' hn => ?_, r := h.r, b := h.b, rr := h.rr, rb := h.rb, bb := h.bb }
  simp only [St.setT, look_cons] at hn
  by_cases hnd : d = n
  · subst hnd; simp at hn; subst hn; exact hv
  · simp only [hnd, if_false] at hn
    exact h.t n pv' hn
theorem Rel.forgetT (h : Rel P Z X st a w) (d : Option Nat) : Rel P Z X (st.setT d (.s .dead)) a w := by
  cases d with
  | none => exact h
  | some d => exact h.know trivial
theorem Rel.deadDsts : ∀ (l : List Oper) {st : St}, Rel P Z X st a w → Rel P Z X (deadDsts st l) a w
  | [], _, h => h
  | o :: l, _, h => Rel.deadDsts l (h.forgetT o.dst)
def Dead (s : St) (l : List Oper) : Prop := ∀ o ∈ l, ∀ d, o.dst = some d → look s.t d = some (.s .dead)
theorem deadDsts_keep : ∀ (l : List Oper) {st : St} {d : Nat}, look st.t d = some (.s .dead) → look (deadDsts st l).t d = some (.s .dead)
  | [], _, _, h => h
  | o :: l, st, d, h => by
    refine deadDsts_keep l ?_
    cases o.dst with
    | none => exact h
    | some d' =>
      simp only [St.setT, look_cons]
      split
      · rfl
      · exact h
theorem deadDsts_dead : ∀ (l : List Oper) {st : St}, Dead (deadDsts st l) l
  | [], _ => fun o ho => by simp at ho
  | o :: l, st => by
    intro o' ho d hd
    rcases List.mem_cons.1 ho with rfl | ho
    · exact deadDsts_keep l (by simp [St.setT, hd, look_cons])
    · exact deadDsts_dead l o' ho d hd
theorem Rel.stable {s : St} (h : Rel P Z X s a w) {l : List Oper} (hd : Dead s l) {o : Oper} (ho : o ∈ l) (hnt : ∀ d, o.dst = some d → Z.ok d) (e : Ext w w') (v : Value) : Rel P Z X s (a.put o.dst v) w' := by
  have g : Rel P Z X s a w' := h.grow (F' := X.F) (e.evo h.fnew)
  cases hds : o.dst with
  | none => exact g
  | some d =>
    have g2 := g.put (v := v) (hnt d hds) (pv := .s .dead) trivial
    refine g2.congr (fun n pv hn => ?_) (fun _ _ h => h) (fun _ => rfl)
    simp only [St.setT, look_cons]
    split
    · rename_i e; subst e; rw [hd o ho d hds] at hn; exact hn
    · exact hn

/-- What is known of guards; none of some operations writes their slots. -/
def KnOk (ops : Array Oper) (kn : List (Nat × Bool)) (l : List Oper) (a : Act) : Prop :=
  ∀ j v, (j, v) ∈ kn → ∃ c, (nth ops.toList j).bind (·.dst) = some c ∧ a.tmps.getD c Go.undef = .bool v ∧ ∀ o ∈ l, o.dst ≠ some c
theorem KnOk.put {kn : List (Nat × Bool)} {o : Oper} {l : List Oper} (h : KnOk ops kn (o :: l) a) (v : Value) : KnOk ops kn l (a.put o.dst v) := by
  intro j u hj
  obtain ⟨c, h1, h2, h3⟩ := h j u hj
  exact ⟨c, h1, by rw [getD_put2 _ _ _ _ (h3 o (by simp))]; exact h2, fun o' ho => h3 o' (by simp [ho])⟩
theorem KnOk.sub {kn : List (Nat × Bool)} {l l' : List Oper} (h : KnOk ops kn l a) (hs : ∀ o ∈ l', o ∈ l) : KnOk ops kn l' a := by
  intro j u hj
  obtain ⟨c, h1, h2, h3⟩ := h j u hj
  exact ⟨c, h1, h2, fun o ho => h3 o (hs o ho)⟩
theorem known_mem : ∀ {kn : List (Nat × Bool)} {j : Nat} {v : Bool}, known kn j v = true → (j, v) ∈ kn
  | [], _, _, h => by cases h
  | (j', v') :: l, j, v, h => by
    simp only [known] at h
    cases e : Nat.beq j' j with
    | true =>
      rw [e] at h
      have e := Nat.eq_of_beq_eq_true e
      subst e
      cases e2 : v' == v with
      | true => simp at e2; subst e2; simp
      | false => rw [e2] at h; simp only [cond_true, cond_false] at h; exact List.mem_cons_of_mem _ (known_mem h)
    | false => rw [e] at h; simp only [cond_false] at h; exact List.mem_cons_of_mem _ (known_mem h)
theorem yielded_of {j c : Nat} {b : Bool} (h1 : (nth ops.toList j).bind (·.dst) = some c) (h2 : a.tmps.getD c Go.undef = .bool b) : yielded ops a.tmps j = some b := by
  rw [nth_eq, Array.getElem?_toList] at h1
  have h3 : a.tmps[c]? = some (.bool b) := by
    rw [Array.getD_eq_getD_getElem?] at h2
    cases e : a.tmps[c]? with
    | none => rw [e] at h2; cases h2
    | some v => rw [e] at h2; simp at h2; rw [h2]
  simp [yielded, h1, h3]
theorem yielded_undef {j c : Nat} (h1 : (nth ops.toList j).bind (·.dst) = some c) (h2 : a.tmps.getD c Go.undef = Go.undef) : yielded ops a.tmps j = none := by
  rw [nth_eq, Array.getElem?_toList] at h1
  unfold yielded
  rw [h1]
  simp only [Option.bind_some]
  cases e : a.tmps[c]? with
  | none => rfl
  | some v =>
    rw [Array.getD_eq_getD_getElem?, e] at h2
    simp at h2
    subst h2; rfl
theorem wanted_known {kn : List (Nat × Bool)} {l : List Oper} {o : Oper} (hk : KnOk ops kn l a) (h : guardKnown kn o.guard = true) : Region.wanted o (yielded ops a.tmps) = true := by
  unfold Region.wanted
  cases hg : o.guard with
  | none => rfl
  | some g =>
    obtain ⟨j, v⟩ := g
    rw [hg] at h
    obtain ⟨c, h1, h2, _⟩ := hk j v (known_mem h)
    simp [yielded_of h1 h2]

theorem splitPick_some {c : Nat} : ∀ {l grp rest : List Oper} {p : Oper}, splitPick c l = some (grp, p, rest) → l = grp ++ p :: rest ∧ ∃ x y, p.op = .pick (.tmp c) x y
  | [], _, _, _, h => by cases h
  | o :: l, grp, rest, p, h => by
    have recur : (match splitPick c l with
        | some (g, p, r) => some (o :: g, p, r)
        | none => none) = some (grp, p, rest) → o :: l = grp ++ p :: rest ∧ ∃ x y, p.op = .pick (.tmp c) x y := by
      intro h
      split at h
      · rename_i g p' r e
        have h := Option.some.inj h
        cases h
        obtain ⟨h1, h2⟩ := splitPick_some e
        exact ⟨by rw [h1]; rfl, h2⟩
      · cases h
    simp only [splitPick] at h
    split at h
    · rename_i c' x y ho
      cases e : Nat.beq c c' with
      | true =>
        rw [e] at h
        have e := Nat.eq_of_beq_eq_true e
        subst e
        have h := Option.some.inj h
        cases h
        exact ⟨rfl, x, y, ho⟩
      | false => rw [e] at h; exact recur h
    · exact recur h
theorem guardsOk_dst {all : List Oper} {j c : Nat} {want : Bool} : ∀ {l : List Oper} {own : List Nat}, guardsOk all j want c own l = true → ∀ o ∈ l, o.dst ≠ some c
  | [], _, _, o, ho => by simp at ho
  | o :: l, own, h, o', ho => by
    have key : cond (o.dst == some c) false (guardsOk all j want c (o.dst.toList ++ own) l) = true → o'.dst ≠ some c := by
      intro h
      cases e : o.dst == some c with
      | true => rw [e] at h; cases h
      | false =>
        rw [e] at h
        rcases List.mem_cons.1 ho with rfl | ho
        · intro e2; rw [e2] at e; simp at e
        · exact guardsOk_dst h o' ho
    simp only [guardsOk] at h
    split at h
    · rename_i i v _
      cases e1 : Nat.beq i j with
      | true =>
        rw [e1] at h
        cases e2 : v == want with
        | true => rw [e2] at h; exact key h
        | false => rw [e2] at h; cases h
      | false =>
        rw [e1] at h
        simp only [cond_false] at h
        split at h
        · rename_i d _
          cases e2 : memb own d with
          | true => rw [e2] at h; exact key h
          | false => rw [e2] at h; cases h
        · cases h
    · cases h
/-- A guarded stretch is passed by. -/
theorem skip_ok {j c : Nat} {want b : Bool} {tail : List Oper} (hb : b ≠ want) (hj : (nth ops.toList j).bind (·.dst) = some c) (J : Act → World → Prop) :
    ∀ {grp : List Oper} {own : List Nat} {a : Act}, guardsOk ops.toList j want c own grp = true → (∀ o ∈ grp, ∀ a' v, J a' w → J (a'.put o.dst v) w) → J a w → a.tmps.getD c Go.undef = .bool b → (∀ d ∈ own, a.tmps.getD d Go.undef = Go.undef) →
      (∀ a', J a' w → a'.tmps.getD c Go.undef = .bool b → wpList P ops Q tail a' w) → wpList P ops Q (grp ++ tail) a w
  | [], own, a, hg, hJ, h, hc, ho, hk => hk a h hc
  | o :: grp, own, a, hg, hJ, h, hc, ho, hk => by
    have hdst := guardsOk_dst hg o (by simp)
    have go : Region.wanted o (yielded ops a.tmps) = false → guardsOk ops.toList j want c (o.dst.toList ++ own) grp = true → wpList P ops Q (o :: grp ++ tail) a w := by
      intro hw hg'
      show wpList P ops Q (o :: (grp ++ tail)) a w
      unfold wpList
      rw [hw]
      simp only [Bool.false_eq_true, if_false]
      refine skip_ok hb hj J hg' (fun o' ho' => hJ o' (by simp [ho'])) (hJ o (by simp) a Go.undef h) (by rw [getD_put2 _ _ _ _ hdst]; exact hc) (fun d hd => ?_) hk
      cases hds : o.dst with
      | none =>
        rw [hds] at hd
        exact ho d (by simpa using hd)
      | some d' =>
        rw [hds] at hd
        refine getD_put_undef a d' d ?_
        rcases List.mem_append.1 hd with h1 | h1
        · left; simpa using h1
        · exact .inr (ho d h1)
    have key : cond (o.dst == some c) false (guardsOk ops.toList j want c (o.dst.toList ++ own) grp) = true → guardsOk ops.toList j want c (o.dst.toList ++ own) grp = true := fun h => by
      cases e : o.dst == some c with
      | true => rw [e] at h; cases h
      | false => rw [e] at h; exact h
    simp only [guardsOk] at hg
    split at hg
    · rename_i i v hgd
      cases e1 : Nat.beq i j with
      | true =>
        rw [e1] at hg
        have e1 := Nat.eq_of_beq_eq_true e1
        subst e1
        cases e2 : v == want with
        | true =>
          rw [e2] at hg
          have e2 : v = want := by simpa using e2
          subst e2
          refine go ?_ (key hg)
          unfold Region.wanted
          rw [hgd]
          show (yielded ops a.tmps i == some v) = false
          rw [yielded_of hj hc]
          simpa using hb
        | false => rw [e2] at hg; cases hg
      | false =>
        rw [e1] at hg
        simp only [cond_false] at hg
        split at hg
        · rename_i d hd
          cases e2 : memb own d with
          | true =>
            rw [e2] at hg
            refine go ?_ (key hg)
            unfold Region.wanted
            rw [hgd]
            show (yielded ops a.tmps i == some v) = false
            rw [yielded_undef hd (ho d (memb_iff.1 e2))]
            rfl
          | false => rw [e2] at hg; cases hg
        · cases hg
    · cases hg
theorem wpList_one {o : Oper} {rest : List Oper} (hw : Region.wanted o (yielded ops a.tmps) = true) (h : o.wp P a w (wpList P ops Q rest) Q) : wpList P ops Q (o :: rest) a w := by
  unfold wpList
  rw [hw]
  exact .inl h
theorem bind_some2 {α β : Type} {x : Option α} {f : α → Option β} {y : β} (h : x.bind f = some y) : ∃ z, x = some z ∧ f z = some y := Option.bind_eq_some_iff.1 h
theorem asBool_ok {bs : List (Nat × Buf)} {pv : PV} {v : Value} {b : Bool} (h : asBool pv = some b) (hv : RelP P X bs w pv v) : v = .bool b := by
  unfold asBool at h
  split at h
  · have h := Option.some.inj h
    subst h
    simpa only [RelP, RelC, RepS] using hv
  · cases h
theorem tmp_ok (h : Rel P Z X st a w) (c : Nat) : RelP P X st.b w (st.tmp c) (a.tmps.getD c Go.undef) := by
  unfold St.tmp
  cases hl : look st.t c with
  | none => trivial
  | some pv => exact h.t c pv hl

theorem all_tail {o : Oper} {l : List Oper} (h : (o :: l).all isQ = true) : isQ o = true ∧ l.all isQ = true := by
  simpa only [List.all_cons, Bool.and_eq_true] using h
theorem runOps_ok : ∀ (n : Nat) {E : Env} {R : Type} {kn : List (Nat × Bool)} {l : List Oper} {st : St} {X : Cx} {a : Act} {w : World} {k : St → Option R} {y : R} {tail : List Oper} (q : Prop) (J : Act → World → Prop),
    EnvOk P E Z → Rel P Z X st a w → KnOk ops kn l a → (∀ o ∈ l, dstOk E o = true) → runOps E ops.toList n R kn l st k = some y →
    (q → l.all isQ = true ∧ Quiet E) → (q → J a w ∧ ∀ o ∈ l, ∀ a w v w', J a w → Ext w w' → J (a.put o.dst v) w') →
    (∀ X' st' a' w', Rel P Z X' st' a' w' → k st' = some y → KnOk ops kn [] a' → (q → J a' w') → wpList P ops Q tail a' w') → wpList P ops Q (l ++ tail) a w
  | 0, E, R, kn, l, st, X, a, w, k, y, tail, q, J, hE, h, hkn, hd, hr, hq, hJ, hk => by cases hr
  | n + 1, E, R, kn, [], st, X, a, w, k, y, tail, q, J, hE, h, hkn, hd, hr, hq, hJ, hk => hk X st a w h hr hkn fun hq => (hJ hq).1
  | n + 1, E, R, kn, o :: rest, st, X, a, w, k, y, tail, q, J, hE, h, hkn, hd, hr, hq, hJ, hk => by
    have step : Region.wanted o (yielded ops a.tmps) = true → (step1 E o st fun st' => runOps E ops.toList n R kn rest st' k) = some y → wpList P ops Q (o :: rest ++ tail) a w := by
      intro hw hr
      rw [step1_bind] at hr
      obtain ⟨st', hs, hr⟩ := bind_some2 hr
      refine wpList_one (rest := rest ++ tail) hw (step1_ok hE h (hd o (by simp)) hs fun v X' w' h' hst => ?_)
      refine runOps_ok n q J hE h' (hkn.put v) (fun o' ho => hd o' (by simp [ho])) hr (fun hqq => ⟨(all_tail (hq hqq).1).2, (hq hqq).2⟩) (fun hqq => ?_) hk
      obtain ⟨j1, j2⟩ := hJ hqq
      exact ⟨j2 o (by simp) a w v w' j1 (hst (all_tail (hq hqq).1).1 (hq hqq).2).ext, fun o' ho => j2 o' (by simp [ho])⟩
    simp only [runOps] at hr
    split at hr
    · rename_i hg
      exact step (wanted_known hkn (by rw [hg]; rfl)) hr
    · rename_i j want hg
      cases hkw : known kn j want with
      | true =>
        rw [hkw] at hr
        exact step (wanted_known hkn (by rw [hg]; exact hkw)) hr
      | false =>
        rw [hkw] at hr
        simp only [cond_false] at hr
        split at hr
        · cases hr
        · rename_i c hc
          split at hr
          · rename_i b grp p rest' e1 e2
            obtain ⟨hcond, hr⟩ := cond_some hr
            simp only [Bool.and_eq_true] at hcond
            obtain ⟨⟨hgo, hgk⟩, hgq⟩ := hcond
            obtain ⟨hl, x0, y0, hp0⟩ := splitPick_some e2
            split at hr
            · rename_i cc x y' hp
              have hpc : p.op = .pick (.tmp c) x y' := by rw [hp0] at hp; cases hp; exact hp0
              obtain ⟨v, hv, hr⟩ := bind_some2 hr
              have hcv : a.tmps.getD c Go.undef = .bool b := asBool_ok e1 (tmp_ok h c)
              have hcg := guardsOk_dst hgo
              have hmem : ∀ o', o' ∈ grp → o' ∈ o :: rest := fun o' ho => by rw [hl]; simp [ho]
              have hpm : p ∈ o :: rest := by rw [hl]; simp
              have hrm : ∀ o', o' ∈ rest' → o' ∈ o :: rest := fun o' ho => by rw [hl]; simp [ho]
              have hsplit : o :: rest ++ tail = grp ++ (p :: rest' ++ tail) := by rw [hl, List.append_assoc]
              rw [hsplit]
              have behind : ∀ Xb a' w', Rel P Z Xb (deadDsts st grp) a' w' → a'.tmps.getD c Go.undef = .bool b → KnOk ops kn [] a' → a'.eval (cond (want == b) (cond want x y') (cond want y' x)) = .bool v →
                  (q → J a' w') → wpList P ops Q (p :: rest' ++ tail) a' w' := by
                intro Xb a' w' h' hc' hkn' hev hj'
                have hkn2 : KnOk ops kn (p :: rest') a' := by
                  intro j1 v1 hj1
                  obtain ⟨c1, q1, q2, _⟩ := hkn' j1 v1 hj1
                  obtain ⟨c2, q3, _, q4⟩ := hkn j1 v1 hj1
                  rw [q1] at q3; cases q3
                  exact ⟨c1, q1, q2, fun o' ho => q4 o' (by
                    rcases List.mem_cons.1 ho with rfl | ho
                    · exact hpm
                    · exact hrm _ ho)⟩
                refine wpList_one (rest := rest' ++ tail) (wanted_known hkn2 hgk) ?_
                have hval : (execOp a'.eval p).run P w' = .ok (.value (.bool v)) w' := by
                  unfold execOp
                  rw [hpc]
                  have e3 : a'.eval (.tmp c) = .bool b := hc'
                  simp only [e3, Go.asBool, Sem.run_bind, Sem.run_pure, Result.andThen_ok]
                  have : (if b = true then a'.eval x else a'.eval y') = .bool v := by
                    cases b <;> cases want <;> simpa using hev
                  rw [this]
                refine wp_value hval ?_
                have hdp := dst_lt hE (hd p hpm)
                have h2 := h'.put' (v := .bool v) (pv := .bo v) hdp (by simp only [PV.bo, RelP, RelC, RepS])
                refine runOps_ok n q J hE h2 (hkn2.put _) (fun o' ho => hd o' (hrm o' ho)) hr (fun hqq => ⟨List.all_eq_true.2 fun o' ho => List.all_eq_true.1 (hq hqq).1 o' (hrm o' ho), (hq hqq).2⟩) (fun hqq => ?_) hk
                obtain ⟨_, j2⟩ := hJ hqq
                exact ⟨j2 p hpm a' w' _ w' (hj' hqq) (Ext.refl _), fun o' ho => j2 o' (hrm o' ho)⟩
              by_cases hbw : b = want
              · subst hbw
                have hv' : runOps E.still ops.toList n Bool ((j, b) :: kn) grp (st.setT (some c) (.bo b)) (fun st' => (opv st' (cond b x y')).bind asBool) = some v := by
                  cases b <;> exact hv
                have hknow : Rel P Z X (st.setT (some c) (.bo b)) a w := h.know (by rw [hcv]; simp only [PV.bo, RelP, RelC, RepS])
                have hqs : Quiet E.still := ⟨(Tab.still_ok hE.C).2, rfl⟩
                refine runOps_ok n True (fun a w => (∃ Xb, Rel P Z Xb (deadDsts st grp) a w) ∧ (q → J a w)) hE.still hknow (fun j1 v1 hj1 => ?_) (fun o' ho => hd o' (hmem o' ho)) hv' (fun _ => ⟨hgq, hqs⟩)
                  (fun _ => ⟨⟨⟨X, h.deadDsts grp⟩, fun hqq => (hJ hqq).1⟩, fun o' ho a1 w1 v1 w2 hj1 he => ?_⟩) fun X2 st2 a2 w2 h2 hk2 hkn2 hj2 => ?_
                · rcases List.mem_cons.1 hj1 with e3 | hj1
                  · cases e3
                    exact ⟨c, hc, hcv, hcg⟩
                  · exact hkn.sub hmem j1 v1 hj1
                · obtain ⟨⟨Xb, hb⟩, hj3⟩ := hj1
                  exact ⟨⟨Xb, hb.stable (deadDsts_dead grp) ho (dst_lt hE (hd o' (hmem o' ho))) he v1⟩, fun hqq => (hJ hqq).2 o' (hmem o' ho) a1 w1 v1 w2 (hj3 hqq) he⟩
                · obtain ⟨⟨Xb, hb⟩, hj3⟩ := hj2 trivial
                  obtain ⟨c3, q1, q2, _⟩ := hkn2 j b (by simp)
                  rw [hc] at q1; cases q1
                  obtain ⟨pv, q3, q4⟩ := bind_some2 hk2
                  refine behind Xb a2 w2 hb q2 (fun j1 v1 hj1 => hkn2 j1 v1 (by simp [hj1])) ?_ hj3
                  have := asBool_ok q4 (opv_ok h2 q3)
                  simpa using this
              · have hv' : (opv (deadDsts st grp) (cond want y' x)).bind asBool = some v := by
                  cases b <;> cases want <;> first | exact hv | exact absurd rfl hbw
                obtain ⟨pv, q3, q4⟩ := bind_some2 hv'
                refine skip_ok hbw hc (fun a' w' => Rel P Z X (deadDsts st grp) a' w' ∧ KnOk ops kn grp a' ∧ (q → J a' w')) hgo (fun o' ho a' v1 hj1 => ?_) ⟨h.deadDsts grp, hkn.sub hmem, fun hqq => (hJ hqq).1⟩ hcv (by simp) fun a' hj1 hc' => ?_
                · obtain ⟨k1, k2, k3⟩ := hj1
                  refine ⟨k1.stable (deadDsts_dead grp) ho (dst_lt hE (hd o' (hmem o' ho))) (Ext.refl _) v1, fun j1 u1 hj1 => ?_, fun hqq => (hJ hqq).2 o' (hmem o' ho) a' w v1 w (k3 hqq) (Ext.refl _)⟩
                  obtain ⟨c1, q5, q6, q7⟩ := k2 j1 u1 hj1
                  exact ⟨c1, q5, by rw [getD_put2 _ _ _ _ (q7 o' ho)]; exact q6, q7⟩
                · obtain ⟨k1, k2, k3⟩ := hj1
                  refine behind X a' w k1 hc' (k2.sub (by simp)) ?_ k3
                  have := asBool_ok q4 (opv_ok k1 q3)
                  have hne : (want == b) = false := by
                    cases b <;> cases want <;> first | rfl | exact absurd rfl hbw
                  rw [hne]; exact this
            · cases hr
          · cases hr
end Go.PgAM

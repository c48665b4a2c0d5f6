/-
  What each operation of a region brings, whatever order they come in.
-/
import Derived.Test.YtbljidhiecbcfaaAmExec
namespace Go.PgAM
open Go Go.RowKit
set_option linter.unusedVariables false
set_option linter.unusedSimpArgs false

/-- Of each operation an entry, the last one first. -/
structure TOk (all : List Oper) (ds : List (Nat × Del)) (n : Nat) : Prop where
  ix : ds.map (·.1) = (List.range n).reverse
  d : ∀ j D, (j, D) ∈ ds → D.d = (nth all j).bind (·.dst)
def Below (all : List Oper) (T ds : List (Nat × Del)) : Prop := ∀ j D, (j, D) ∈ ds → (j, D) ∈ T ∨ ((∃ d, D = ⟨d, .s .dead, none, []⟩) ∧ ∃ o, nth all j = some o ∧ isQ o = true)
def GOn (T : List (Nat × Del)) (all : List Oper) (j : Nat) (b : Bool) : Prop := ∃ c D, (nth all j).bind (·.dst) = some c ∧ (j, D) ∈ T ∧ D.v = .bo b
def GOff (T : List (Nat × Del)) (all : List Oper) (j : Nat) (want : Bool) : Prop := ∃ c D, (nth all j).bind (·.dst) = some c ∧ (j, D) ∈ T ∧ (D.v = .bo (!want) ∨ D.v = .s .undef)
def GuardOn (T : List (Nat × Del)) (all : List Oper) (o : Oper) : Prop := ∀ j want, o.guard = some (j, want) → GOn T all j want
/-- Whatever a value names is there. -/
def Closed (ms : List Nat) (st0 : St) : List (Nat × Del) → Prop
  | [] => True
  | (j, D) :: ds => Closed ms st0 ds ∧ PV.allC (PC.okTok (D.bs ++ (putDels ((nth ms j).getD 0) ds st0).b)) D.v = true ∧ ∀ r cs, D.row = some (r, cs) → cs.all (PC.okTok (D.bs ++ (putDels ((nth ms j).getD 0) ds st0).b)) = true
theorem Closed.plain {ms : List Nat} {st0 : St} {ds : List (Nat × Del)} (h : Closed ms st0 ds) (j : Nat) (d : Option Nat) (v : PV) (hv : ∀ bs, PV.allC (PC.okTok bs) v = true) : Closed ms st0 ((j, ⟨d, v, none, []⟩) :: ds) :=
  ⟨h, hv _, fun r cs e => by cases e⟩
theorem safe_closed {o : Oper} {mi i : Nat} {dl : List (Nat × Nat)} {s : St} {D : Del} (h : Del.safe o mi i dl s D = true) :
    PV.allC (PC.okTok (D.bs ++ s.b)) D.v = true ∧ ∀ r cs, D.row = some (r, cs) → cs.all (PC.okTok (D.bs ++ s.b)) = true := by
  simp only [Del.safe, Bool.and_eq_true] at h
  obtain ⟨⟨⟨h1, h2⟩, h3⟩, h4⟩ := h
  refine ⟨(PV.allC_and h1).1, fun r cs e => ?_⟩
  rw [e] at h2
  simp only at h2
  exact List.all_eq_true.2 fun p hp => by
    have := List.all_eq_true.1 h2 p hp
    simp only [Bool.and_eq_true] at this
    exact this.1
/-- What an operation brings. -/
inductive Spec (E : Env) (all : List Oper) (ms : List Nat) (dl : List (Nat × Nat)) (st0 : St) (T : List (Nat × Del)) (i : Nat) (o : Oper) (D : Del) : Prop where
  | exec (ds : List (Nat × Del)) (st' : St) (hb : Below all T ds) (hcl : Closed ms st0 ds) (hk : TOk all ds i) (hg : GuardOn T all o) (h1 : step1 E.still o (putDels ((nth ms i).getD 0) ds st0) some = some st')
      (hx : sameX st'.b (putDels ((nth ms i).getD 0) ds st0).b (putDels ((nth ms i).getD 0) ds st0).b = true) (hD : D = delOf o (putDels ((nth ms i).getD 0) ds st0) st') (hs : Del.safe o ((nth ms i).getD 0) i dl (putDels ((nth ms i).getD 0) ds st0) D = true)
  | skip (j : Nat) (want : Bool) (hg : o.guard = some (j, want)) (ho : GOff T all j want) (hD : D = ⟨o.dst, .s .undef, none, []⟩)
  | pick (c j k : Nat) (x y : Operand) (b v : Bool) (ds : List (Nat × Del)) (ho : o.op = .pick (.tmp c) x y) (hb : Below all T ds) (hcl : Closed ms st0 ds) (hki : k ≤ i) (hk : TOk all ds k) (hg : GuardOn T all o) (hj : GOn T all j b) (hc : (nth all j).bind (·.dst) = some c)
      (hm : Nat.testBit ((nth ms i).getD 0) j = true) (hv : (opv (putDels ((nth ms i).getD 0) ds st0) (cond b x y)).bind asBool = some v) (hD : D = ⟨o.dst, .bo v, none, []⟩)

section
variable {E : Env} {all : List Oper} {ms : List Nat} {dl : List (Nat × Nat)} {st0 : St} {T T' ds : List (Nat × Del)} {i m : Nat} {o : Oper} {D : Del}

theorem GOn.mono {j : Nat} {b : Bool} (h : GOn T all j b) (hs : ∀ p, p ∈ T → p ∈ T') : GOn T' all j b := let ⟨c, D, h1, h2, h3⟩ := h; ⟨c, D, h1, hs _ h2, h3⟩
theorem GOff.mono {j : Nat} {b : Bool} (h : GOff T all j b) (hs : ∀ p, p ∈ T → p ∈ T') : GOff T' all j b := let ⟨c, D, h1, h2, h3⟩ := h; ⟨c, D, h1, hs _ h2, h3⟩
theorem Below.mono (h : Below all T ds) (hs : ∀ p, p ∈ T → p ∈ T') : Below all T' ds := fun j D hj => (h j D hj).imp (hs _) id
theorem Spec.mono (h : Spec E all ms dl st0 T i o D) (hs : ∀ p, p ∈ T → p ∈ T') : Spec E all ms dl st0 T' i o D := by
  cases h with
  | exec ds st' hb hcl hk hg h1 hx hD hsf => exact .exec ds st' (hb.mono hs) hcl hk (fun j want e => (hg j want e).mono hs) h1 hx hD hsf
  | skip j want hg ho hD => exact .skip j want hg (ho.mono hs) hD
  | pick c j k x y b v ds ho hb hcl hki hk hg hj hc hm hv hD => exact .pick c j k x y b v ds ho (hb.mono hs) hcl hki hk (fun j want e => (hg j want e).mono hs) (hj.mono hs) hc hm hv hD
theorem TOk.lt {n : Nat} (h : TOk all ds n) {j : Nat} {D : Del} (hj : (j, D) ∈ ds) : j < n := by
  have : j ∈ ds.map (·.1) := List.mem_map.2 ⟨_, hj, rfl⟩
  rw [h.ix] at this
  simpa using this
theorem nodup_fst : ∀ {l : List (Nat × Del)}, (l.map (·.1)).Nodup → ∀ {j : Nat} {D D' : Del}, (j, D) ∈ l → (j, D') ∈ l → D = D'
  | [], _, j, D, D', h, _ => by simp at h
  | (n, D0) :: l, hn, j, D, D', h1, h2 => by
    simp only [List.map_cons, List.nodup_cons] at hn
    rcases List.mem_cons.1 h1 with e1 | h1 <;> rcases List.mem_cons.1 h2 with e2 | h2
    · cases e1; cases e2; rfl
    · cases e1; exact absurd (List.mem_map.2 ⟨_, h2, rfl⟩) hn.1
    · cases e2; exact absurd (List.mem_map.2 ⟨_, h1, rfl⟩) hn.1
    · exact nodup_fst hn.2 h1 h2
theorem TOk.nodup {n : Nat} (h : TOk all ds n) : (ds.map (·.1)).Nodup := by
  rw [h.ix]
  exact List.pairwise_reverse.2 (List.nodup_range.imp fun h => Ne.symm h)
theorem TOk.cons {n : Nat} (h : TOk all ds n) {D : Del} (hd : D.d = (nth all n).bind (·.dst)) : TOk all ((n, D) :: ds) (n + 1) := by
  refine ⟨by simp [h.ix, List.range_succ], fun j D' hj => ?_⟩
  rcases List.mem_cons.1 hj with e | hj
  · cases e; exact hd
  · exact h.d j D' hj
theorem seg_nth {l tl : List Oper} (h : all.drop i = l ++ tl) (q : Nat) (hq : q < l.length) : nth all (i + q) = l[q]? := by
  rw [nth_eq]
  have : (all.drop i)[q]? = all[i + q]? := by simp
  rw [← this, h, List.getElem?_append_left hq]
theorem seg_head {l tl : List Oper} (h : all.drop i = (o :: l) ++ tl) : nth all i = some o := by
  simpa using seg_nth h 0 (by simp)
theorem seg_tail {l tl : List Oper} (h : all.drop i = (o :: l) ++ tl) : all.drop (i + 1) = l ++ tl := by
  rw [← List.drop_drop, h]; rfl
theorem seg_split {l l' tl : List Oper} (h : all.drop i = (l ++ l') ++ tl) : all.drop i = l ++ (l' ++ tl) ∧ all.drop (i + l.length) = l' ++ tl := by
  rw [List.append_assoc] at h
  refine ⟨h, ?_⟩
  rw [← List.drop_drop, h]; simp

theorem putDels_t {mask n : Nat} {pv : PV} {st : St} : ∀ {ds : List (Nat × Del)}, look (putDels mask ds st).t n = some pv → (∃ j D, (j, D) ∈ ds ∧ Nat.testBit mask j = true ∧ D.d = some n ∧ D.v = pv) ∨ look st.t n = some pv
  | [], h => .inr h
  | (j, D) :: ds, h => by
    simp only [putDels] at h
    have tl : look (putDels mask ds st).t n = some pv → (∃ j' D', (j', D') ∈ (j, D) :: ds ∧ Nat.testBit mask j' = true ∧ D'.d = some n ∧ D'.v = pv) ∨ look st.t n = some pv := fun h =>
      (putDels_t h).imp (fun ⟨j', D', h1, h2⟩ => ⟨j', D', by simp [h1], h2⟩) id
    cases e : Nat.testBit mask j with
    | false => rw [e] at h; exact tl h
    | true =>
      rw [e] at h
      simp only [cond_true, put_t] at h
      by_cases e2 : D.d = some n
      · rw [if_pos e2] at h
        cases h
        exact .inl ⟨j, D, by simp, e, e2, rfl⟩
      · rw [if_neg e2] at h; exact tl h
theorem setDel_same {j : Nat} {v : PV} : ∀ {ds : List (Nat × Del)}, (ds.map (·.1)).Nodup → (∃ D, (j, D) ∈ ds ∧ D.v = v) → setDel j v ds = ds
  | [], _, ⟨D, h, _⟩ => by simp at h
  | (n, D0) :: ds, hn, ⟨D, h, hv⟩ => by
    simp only [setDel]
    cases e : Nat.beq n j with
    | true =>
      have e := Nat.eq_of_beq_eq_true e
      subst e
      have : D = D0 := nodup_fst hn h (by simp)
      subst this; subst hv; rfl
    | false =>
      have hne : j ≠ n := fun e2 => by subst e2; simp at e
      simp only [List.map_cons, List.nodup_cons] at hn
      rcases List.mem_cons.1 h with e2 | h
      · cases e2; exact absurd rfl hne
      · simp only [cond_false]
        rw [setDel_same hn.2 ⟨D, h, hv⟩]
theorem deadDels_ok : ∀ {l tl : List Oper} {i : Nat} {ds : List (Nat × Del)}, all.drop i = l ++ tl → TOk all ds i → Below all T ds → Closed ms st0 ds → l.all isQ = true → TOk all (deadDels i l ds) (i + l.length) ∧ Below all T (deadDels i l ds) ∧ Closed ms st0 (deadDels i l ds)
  | [], tl, i, ds, hs, hk, hb, hcl, hq => ⟨hk, hb, hcl⟩
  | o :: l, tl, i, ds, hs, hk, hb, hcl, hq => by
    have hb' : Below all T ((i, ⟨o.dst, .s .dead, none, []⟩) :: ds) := by
      intro j D hj
      rcases List.mem_cons.1 hj with e | hj
      · cases e; exact .inr ⟨⟨_, rfl⟩, o, seg_head hs, (all_tail hq).1⟩
      · exact hb j D hj
    have := deadDels_ok (seg_tail hs) (hk.cons (D := ⟨o.dst, .s .dead, none, []⟩) (by rw [seg_head hs]; rfl)) hb' (hcl.plain i o.dst (.s .dead) fun _ => rfl) (all_tail hq).2
    simpa [deadDels, Nat.add_assoc, Nat.add_comm 1] using this

/-- What is so of all of a region's operations. -/
structure Reg (all : List Oper) (st0 : St) (m : Nat) : Prop where
  dst : ∀ j j' c, j < m → j' < m → (nth all j).bind (·.dst) = some c → (nth all j').bind (·.dst) = some c → j = j'
  dead : ∀ j c, j < m → (nth all j).bind (·.dst) = some c → look st0.t c = some (.s .dead)
  low : ∀ i o j want, nth all i = some o → o.guard = some (j, want) → j < i

theorem skip_tab {j c : Nat} {want b : Bool} (hR : Reg all st0 m) (hj : GOn T all j b) (hb : b ≠ want) :
    ∀ {grp tl : List Oper} {own : List Nat} {i : Nat} {T1 : List (Nat × Del)}, all.drop i = grp ++ tl → i + grp.length ≤ m → guardsOk all j want c own grp = true → TOk all T1 i → (∀ p, p ∈ T → p ∈ T1) → (∀ d ∈ own, ∃ i' D, (i', D) ∈ T1 ∧ D.d = some d ∧ D.v = .s .undef) →
      ∃ T2, TOk all T2 (i + grp.length) ∧ (∀ p, p ∈ T1 → p ∈ T2) ∧ ∀ q o, grp[q]? = some o → ∃ D, (i + q, D) ∈ T2 ∧ Spec E all ms dl st0 T2 (i + q) o D
  | [], tl, own, i, T1, hs, hm, hg, hk, hT, ho => ⟨T1, hk, fun _ h => h, fun q o h => by simp at h⟩
  | o :: grp, tl, own, i, T1, hs, hm, hg, hk, hT, ho => by
    simp only [List.length_cons] at hm
    have hbw : b = !want := by cases b <;> cases want <;> first | rfl | exact absurd rfl hb
    have go : ∀ j' v', o.guard = some (j', v') → GOff T1 all j' v' → guardsOk all j want c (o.dst.toList ++ own) grp = true →
        ∃ T2, TOk all T2 (i + (o :: grp).length) ∧ (∀ p, p ∈ T1 → p ∈ T2) ∧ ∀ q o', (o :: grp)[q]? = some o' → ∃ D, (i + q, D) ∈ T2 ∧ Spec E all ms dl st0 T2 (i + q) o' D := by
      intro j' v' hgd hoff hg'
      have hkc : TOk all ((i, ⟨o.dst, .s .undef, none, []⟩) :: T1) (i + 1) := hk.cons (by rw [seg_head hs]; rfl)
      obtain ⟨T2, k1, k2, k3⟩ := skip_tab hR hj hb (i := i + 1) (T1 := (i, ⟨o.dst, .s .undef, none, []⟩) :: T1) (seg_tail hs) (by omega) hg' hkc (fun p hp => by simp [hT p hp]) (fun d hd => by
        rcases List.mem_append.1 hd with h1 | h1
        · refine ⟨i, ⟨o.dst, .s .undef, none, []⟩, by simp, ?_, rfl⟩
          simpa using h1
        · obtain ⟨i', D, h2, h3⟩ := ho d h1
          exact ⟨i', D, by simp [h2], h3⟩)
      refine ⟨T2, by simpa [Nat.add_assoc, Nat.add_comm 1] using k1, fun p hp => k2 p (by simp [hp]), fun q o' hq => ?_⟩
      cases q with
      | zero =>
        simp at hq; subst hq
        refine ⟨_, k2 _ (by simp), .skip j' v' hgd (hoff.mono fun p hp => k2 p (by simp [hp])) rfl⟩
      | succ q =>
        have := k3 q o' (by simpa using hq)
        simpa [Nat.add_assoc, Nat.add_comm 1] using this
    have key : cond (o.dst == some c) false (guardsOk all j want c (o.dst.toList ++ own) grp) = true → guardsOk all j want c (o.dst.toList ++ own) grp = true := fun h => by
      cases e : o.dst == some c with
      | true => rw [e] at h; cases h
      | false => rw [e] at h; exact h
    simp only [guardsOk] at hg
    split at hg
    · rename_i j' v hgd
      cases e1 : Nat.beq j' j with
      | true =>
        rw [e1] at hg
        have e1 := Nat.eq_of_beq_eq_true e1
        subst e1
        cases e2 : v == want with
        | true =>
          rw [e2] at hg
          have e2 : v = want := by simpa using e2
          subst e2
          obtain ⟨c1, D, h1, h2, h3⟩ := hj
          exact go j' v hgd ⟨c1, D, h1, hT _ h2, .inl (by rw [h3, hbw])⟩ (key hg)
        | false => rw [e2] at hg; cases hg
      | false =>
        rw [e1] at hg
        simp only [cond_false] at hg
        split at hg
        · rename_i d hd
          cases e2 : memb own d with
          | true =>
            rw [e2] at hg
            obtain ⟨i', D, h1, h2, h3⟩ := ho d (memb_iff.1 e2)
            have hi' : i' < m := by have := hk.lt h1; omega
            have hj' : j' < m := by have := hR.low i o j' v (seg_head hs) hgd; omega
            have : i' = j' := hR.dst i' j' d hi' hj' (by rw [← hk.d i' D h1]; exact h2) hd
            subst this
            exact go i' v hgd ⟨d, D, hd, h1, .inr h3⟩ (key hg)
          | false => rw [e2] at hg; cases hg
        · cases hg
    · cases hg

theorem runE_ok (hR : Reg all st0 m) : ∀ (n : Nat) {R : Type} {kn : List (Nat × Bool)} {i : Nat} {l tl : List Oper} {ds T : List (Nat × Del)} {k : List (Nat × Del) → Option R} {y : R},
    runE E all ms dl st0 n R kn i l ds k = some y → all.drop i = l ++ tl → i + l.length ≤ m → Below all T ds → Closed ms st0 ds → TOk all ds i → TOk all T i → (∀ j v, (j, v) ∈ kn → GOn T all j v) →
    ∃ ds' T', k ds' = some y ∧ Below all T' ds' ∧ Closed ms st0 ds' ∧ TOk all ds' (i + l.length) ∧ TOk all T' (i + l.length) ∧ (∀ p, p ∈ T → p ∈ T') ∧ ∀ q o, l[q]? = some o → ∃ D, (i + q, D) ∈ T' ∧ Spec E all ms dl st0 T' (i + q) o D
  | 0, R, kn, i, l, tl, ds, T, k, y, hr, hs, hm, hb, hcl, hk, hT, hkn => by cases hr
  | n + 1, R, kn, i, [], tl, ds, T, k, y, hr, hs, hm, hb, hcl, hk, hT, hkn => ⟨ds, T, hr, hb, hcl, hk, hT, fun _ h => h, fun q o h => by simp at h⟩
  | n + 1, R, kn, i, o :: rest, tl, ds, T, k, y, hr, hs, hm, hb, hcl, hk, hT, hkn => by
    simp only [List.length_cons] at hm
    have hh := seg_head hs
    have go : (∀ j want, o.guard = some (j, want) → GOn T all j want) →
        (step1 E.still o (putDels ((nth ms i).getD 0) ds st0) fun st' => cond (sameX st'.b (putDels ((nth ms i).getD 0) ds st0).b (putDels ((nth ms i).getD 0) ds st0).b && Del.safe o ((nth ms i).getD 0) i dl (putDels ((nth ms i).getD 0) ds st0) (delOf o (putDels ((nth ms i).getD 0) ds st0) st'))
          (runE E all ms dl st0 n R kn (i + 1) rest ((i, delOf o (putDels ((nth ms i).getD 0) ds st0) st') :: ds) k) none) = some y →
        ∃ ds' T', k ds' = some y ∧ Below all T' ds' ∧ Closed ms st0 ds' ∧ TOk all ds' (i + (o :: rest).length) ∧ TOk all T' (i + (o :: rest).length) ∧ (∀ p, p ∈ T → p ∈ T') ∧ ∀ q o', (o :: rest)[q]? = some o' → ∃ D, (i + q, D) ∈ T' ∧ Spec E all ms dl st0 T' (i + q) o' D := by
      intro hg hr
      rw [step1_bind] at hr
      obtain ⟨st', h1, hr⟩ := bind_some2 hr
      obtain ⟨hc, hr⟩ := cond_some hr
      simp only [Bool.and_eq_true] at hc
      have hd : (delOf o (putDels ((nth ms i).getD 0) ds st0) st').d = (nth all i).bind (·.dst) := by rw [hh]; rfl
      generalize hDe : delOf o (putDels ((nth ms i).getD 0) ds st0) st' = D at hr hc hd
      have hcl' : Closed ms st0 ((i, D) :: ds) := ⟨hcl, safe_closed hc.2⟩
      have hb' : Below all ((i, D) :: T) ((i, D) :: ds) := by
        intro j D' hj
        rcases List.mem_cons.1 hj with e | hj
        · cases e; exact .inl (by simp)
        · exact (hb j D' hj).imp (fun h => by simp [h]) id
      obtain ⟨ds', T', k1, k2, kc, k3, k4, k5, k6⟩ := runE_ok hR n hr (seg_tail hs) (by omega) hb' hcl' (hk.cons hd) (hT.cons hd) fun j v hj => (hkn j v hj).mono fun p hp => by simp [hp]
      refine ⟨ds', T', k1, k2, kc, by simpa [Nat.add_assoc, Nat.add_comm 1] using k3, by simpa [Nat.add_assoc, Nat.add_comm 1] using k4, fun p hp => k5 p (by simp [hp]), fun q o' hq => ?_⟩
      cases q with
      | zero =>
        simp at hq; subst hq
        have hsub : ∀ p, p ∈ T → p ∈ T' := fun p hp => k5 p (by simp [hp])
        exact ⟨D, k5 _ (by simp), .exec ds st' (hb.mono hsub) hcl hk (fun j want e => (hg j want e).mono hsub) h1 hc.1 hDe.symm hc.2⟩
      | succ q =>
        have := k6 q o' (by simpa using hq)
        simpa [Nat.add_assoc, Nat.add_comm 1] using this
    simp only [runE] at hr
    split at hr
    · rename_i hg
      exact go (fun j want e => by rw [hg] at e; cases e) hr
    · rename_i j want hg
      cases hkw : known kn j want with
      | true =>
        rw [hkw] at hr
        exact go (fun j' want' e => by rw [hg] at e; cases e; exact hkn _ _ (known_mem hkw)) hr
      | false =>
        rw [hkw] at hr
        simp only [cond_false] at hr
        split at hr
        · cases hr
        · rename_i c hc
          split at hr
          · rename_i b grp p rest' e1 e2
            obtain ⟨hcond, hr⟩ := cond_some hr
            simp only [Bool.and_eq_true] at hcond
            obtain ⟨⟨⟨hgo, hgk⟩, hgq⟩, hmk⟩ := hcond
            obtain ⟨hl, x0, y0, hp0⟩ := splitPick_some e2
            split at hr
            · rename_i cc x y' hp
              have hpc : p.op = .pick (.tmp c) x y' := by rw [hp0] at hp; cases hp; exact hp0
              obtain ⟨v, hv, hr⟩ := bind_some2 hr
              have hji : j < i := hR.low i o j want hh hg
              -- the guard's own entry
              have hon : GOn T all j b := by
                unfold asBool at e1
                split at e1
                · rename_i b et
                  have e1 := Option.some.inj e1
                  subst e1
                  unfold St.tmp at et
                  cases el : look (putDels ((nth ms i).getD 0) ds st0).t c with
                  | none => rw [el] at et; cases et
                  | some pv =>
                    rw [el] at et
                    have et : pv = .s (.d ⟨.bool, b⟩) := et
                    subst et
                    rcases putDels_t el with ⟨j', D, h1, h2, h3, h4⟩ | h1
                    · have hj' : j' < m := by have := hk.lt h1; omega
                      have : j' = j := hR.dst j' j c hj' (by omega) (by rw [← hk.d j' D h1]; exact h3) hc
                      subst this
                      rcases hb j' D h1 with h5 | ⟨⟨d, rfl⟩, _⟩
                      · exact ⟨c, D, hc, h5, h4⟩
                      · cases h4
                    · rw [hR.dead j c (by omega) hc] at h1
                      cases h1
                · cases e1
              have hlen : (o :: rest).length = grp.length + 1 + rest'.length := by rw [hl]; simp; omega
              have hseg : all.drop i = grp ++ (p :: rest' ++ tl) ∧ all.drop (i + grp.length) = p :: rest' ++ tl := by
                have h0 : all.drop i = (grp ++ p :: rest') ++ tl := by rw [hs, hl]
                exact seg_split h0
              have hpn : nth all (i + grp.length) = some p := seg_head hseg.2
              have hgon : ∀ T1, (∀ q, q ∈ T → q ∈ T1) → GuardOn T1 all p := by
                intro T1 hT1 j1 w1 e3
                rw [e3] at hgk
                exact (hkn j1 w1 (known_mem hgk)).mono hT1
              -- behind the stretch
              have behind : ∀ T1, TOk all T1 (i + grp.length) → (∀ q, q ∈ T → q ∈ T1) → (∀ q o', grp[q]? = some o' → ∃ D, (i + q, D) ∈ T1 ∧ Spec E all ms dl st0 T1 (i + q) o' D) →
                  Spec E all ms dl st0 T1 (i + grp.length) p ⟨p.dst, .bo v, none, []⟩ →
                  ∃ ds' T', k ds' = some y ∧ Below all T' ds' ∧ Closed ms st0 ds' ∧ TOk all ds' (i + (o :: rest).length) ∧ TOk all T' (i + (o :: rest).length) ∧ (∀ p, p ∈ T → p ∈ T') ∧ ∀ q o', (o :: rest)[q]? = some o' → ∃ D, (i + q, D) ∈ T' ∧ Spec E all ms dl st0 T' (i + q) o' D := by
                intro T1 hT1 hsub hgs hps
                obtain ⟨d1, d2, d3⟩ := deadDels_ok (ms := ms) (st0 := st0) hseg.1 hk hb hcl hgq
                have hpd : (⟨p.dst, .bo v, none, []⟩ : Del).d = (nth all (i + grp.length)).bind (·.dst) := by rw [hpn]; rfl
                have hb2 : Below all ((i + grp.length, ⟨p.dst, .bo v, none, []⟩) :: T1) ((i + grp.length, ⟨p.dst, .bo v, none, []⟩) :: deadDels i grp ds) := by
                  intro j1 D1 hj1
                  rcases List.mem_cons.1 hj1 with e | hj1
                  · cases e; exact .inl (by simp)
                  · exact (d2 j1 D1 hj1).imp (fun h => by simp [hsub _ h]) id
                obtain ⟨ds', T', k1, k2, kc, k3, k4, k5, k6⟩ := runE_ok hR n hr (seg_tail hseg.2) (by simp only [List.length_cons] at hlen; omega) hb2 (d3.plain _ p.dst (.bo v) fun _ => rfl) (d1.cons hpd) (hT1.cons hpd) fun j1 v1 hj1 => (hkn j1 v1 hj1).mono fun q hq => by simp [hsub q hq]
                have hlen2 : i + grp.length + 1 + rest'.length = i + (o :: rest).length := by omega
                refine ⟨ds', T', k1, k2, kc, by rw [← hlen2]; exact k3, by rw [← hlen2]; exact k4, fun q hq => k5 q (by simp [hsub q hq]), fun q o' hq => ?_⟩
                have hsub1 : ∀ q, q ∈ T1 → q ∈ T' := fun q hq => k5 q (by simp [hq])
                rw [hl] at hq
                rcases Nat.lt_trichotomy q grp.length with h1 | h1 | h1
                · rw [List.getElem?_append_left h1] at hq
                  obtain ⟨D, q1, q2⟩ := hgs q o' hq
                  exact ⟨D, hsub1 _ q1, q2.mono hsub1⟩
                · subst h1
                  rw [List.getElem?_append_right (Nat.le_refl _)] at hq
                  simp at hq; subst hq
                  exact ⟨_, k5 _ (by simp), hps.mono hsub1⟩
                · rw [List.getElem?_append_right (by omega)] at hq
                  obtain ⟨q', hq'⟩ : ∃ q', q - grp.length = q' + 1 := ⟨q - grp.length - 1, by omega⟩
                  rw [hq'] at hq
                  have := k6 q' o' (by simpa using hq)
                  rwa [show i + grp.length + 1 + q' = i + q by omega] at this
              by_cases hbw : b = want
              · subst hbw
                have hset : setDel j (.bo b) ds = ds := by
                  refine setDel_same hk.nodup ?_
                  obtain ⟨c1, D, q1, q2, q3⟩ := hon
                  have : j ∈ ds.map (·.1) := by rw [hk.ix]; simpa using hji
                  obtain ⟨⟨j2, D2⟩, q4, q5⟩ := List.mem_map.1 this
                  simp only at q5; subst q5
                  rcases hb j2 D2 q4 with q6 | ⟨⟨d, rfl⟩, _⟩
                  · have : D2 = D := nodup_fst hT.nodup q6 q2
                    subst this
                    exact ⟨_, q4, q3⟩
                  · exfalso
                    unfold asBool at e1
                    split at e1
                    · rename_i b' et
                      unfold St.tmp at et
                      cases el : look (putDels ((nth ms i).getD 0) ds st0).t c with
                      | none => rw [el] at et; cases et
                      | some pv =>
                        rw [el] at et
                        have et : pv = .s (.d ⟨.bool, b'⟩) := et
                        subst et
                        rcases putDels_t el with ⟨j', D', h1, h2, h3, h4⟩ | h1
                        · have hj' : j' < m := by have := hk.lt h1; omega
                          have : j' = j2 := hR.dst j' j2 c hj' (by omega) (by rw [← hk.d j' D' h1]; exact h3) hc
                          subst this
                          have := nodup_fst hk.nodup h1 q4
                          subst this
                          cases h4
                        · rw [hR.dead j2 c (by omega) hc] at h1
                          cases h1
                    · cases e1
                rw [hset] at hv
                have hv' : (runE E all ms dl st0 n Bool ((j, b) :: kn) i grp ds fun ds' => (opv (putDels ((nth ms (i + grp.length)).getD 0) ds' st0) (cond b x y')).bind asBool) = some v := by
                  cases b <;> exact hv
                obtain ⟨ds1, T1, k1, k2, kc, k3, k4, k5, k6⟩ := runE_ok hR n hv' hseg.1 (by simp only [List.length_cons] at hlen; omega) hb hcl hk hT fun j1 v1 hj1 => by
                  rcases List.mem_cons.1 hj1 with e | hj1
                  · cases e; exact hon
                  · exact hkn j1 v1 hj1
                exact behind T1 k4 k5 k6 (.pick c j (i + grp.length) x y' b v ds1 hpc k2 kc (Nat.le_refl _) k3 (hgon T1 k5) (hon.mono k5) hc hmk k1 rfl)
              · have hv' : (opv (putDels ((nth ms (i + grp.length)).getD 0) ds st0) (cond want y' x)).bind asBool = some v := by
                  cases b <;> cases want <;> first | exact hv | exact absurd rfl hbw
                have hv2 : (opv (putDels ((nth ms (i + grp.length)).getD 0) ds st0) (cond b x y')).bind asBool = some v := by
                  cases b <;> cases want <;> first | exact hv' | exact absurd rfl hbw
                obtain ⟨T1, k1, k2, k3⟩ := skip_tab (E := E) (ms := ms) (dl := dl) hR hon hbw (c := c) (own := []) (T1 := T) hseg.1 (by simp only [List.length_cons] at hlen; omega) hgo hT (fun _ h => h) (by simp)
                exact behind T1 k1 k2 k3 (.pick c j i x y' b v ds hpc (hb.mono k2) hcl (by omega) hk (hgon T1 k2) (hon.mono k2) hc hmk hv2 rfl)
            · cases hr
          · cases hr
end
end Go.PgAM

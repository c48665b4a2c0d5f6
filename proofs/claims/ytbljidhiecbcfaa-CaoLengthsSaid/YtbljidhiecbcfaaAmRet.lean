/-
  Behind a call: what was given away is gone, memory has grown, results lie in their slots.
-/
import Derived.Test.YtbljidhiecbcfaaAmCon
namespace Go.PgAM
open Go Go.RowKit
set_option linter.unusedVariables false
variable {P : Program} {Z : At0} {X X' : Cx} {st st' : St} {a : Act} {w w' : World}

theorem look_dropTok (tok : Nat) : ∀ (l : List (Nat × Buf)) (t : Nat), look (dropTok tok l) t = if t = tok then none else look l t
  | [], t => by simp [dropTok, look]
  | (m, B) :: l, t => by
    simp only [dropTok]
    by_cases e : m = tok
    · subst e
      simp only [Nat.beq_refl, cond_true, look_cons]
      rw [look_dropTok m l t]
      by_cases e2 : t = m
      · simp [e2]
      · have e3 : ¬ m = t := fun x => e2 x.symm
        simp only [if_neg e2, if_neg e3]
    · have : Nat.beq m tok = false := by rw [Bool.eq_false_iff]; exact fun h' => e (Nat.eq_of_beq_eq_true h')
      simp only [this, cond_false, look_cons]
      rw [look_dropTok tok l t]
      by_cases e2 : m = t
      · subst e2; simp [e]
      · simp [e2]
theorem Rel.give (h : Rel P Z X st a w) (tok : Nat) : Rel P Z X (st.give tok) a w := by
  have m : Moves X X st.b (st.give tok).b w w (PC.atTok tok) := by
    refine ⟨rfl, fun _ => Nat.le_refl _, Keeps.refl _ _ _, fun _ _ _ _ => rfl, fun p t hp ht => ⟨rfl, fun B hB => ⟨B, ?_, rfl, rfl⟩⟩, fun _ _ _ _ _ _ _ _ _ => rfl⟩
    have hne : t ≠ tok := fun e => by subst e; rw [hp] at ht; simp at ht
    simp only [St.give, kill_b]
    rw [look_dropTok, if_neg hne]; exact hB
  have hl : ∀ t B, look (st.give tok).b t = some B → look st.b t = some B := by
    intro t B ht
    simp only [St.give, kill_b] at ht
    rw [look_dropTok] at ht
    split at ht
    · cases ht
    · exact ht
  refine { O := h.O, evo := h.evo, nt := h.nt, defers := h.defers, t := ?_, r := ?_, b := fun t B hB => h.b t B (hl t B hB), rr := ?_, rb := ?_, bb := fun t t' B B' b cap b' cap' h1 h2 => h.bb t t' B B' b cap b' cap' (hl _ _ h1) (hl _ _ h2) }
  · intro n pv hn
    obtain ⟨pv', hn', rfl⟩ := kill_t_some (st := st) (f := PC.atTok tok) hn
    exact RelP.kill_step m _ _ (h.t n _ hn')
  · intro r c hr
    obtain ⟨c', hr', rfl⟩ := kill_row_some (st := st) (f := PC.atTok tok) hr
    exact RowOk.kill_step m rfl rfl rfl (h.r r _ hr')
  · intro r r' c c' hr hr'
    obtain ⟨_, hr, _⟩ := kill_row_some (st := st) (f := PC.atTok tok) hr
    obtain ⟨_, hr', _⟩ := kill_row_some (st := st) (f := PC.atTok tok) hr'
    exact h.rr r r' _ _ hr hr'
  · intro r c t B b cap hr hB hb
    obtain ⟨_, hr, _⟩ := kill_row_some (st := st) (f := PC.atTok tok) hr
    exact h.rb r _ t B b cap hr (hl _ _ hB) hb
theorem give_look {st : St} {tok t : Nat} {B : Buf} (h : look (st.give tok).b t = some B) : t ≠ tok ∧ look st.b t = some B := by
  simp only [St.give, kill_b] at h
  rw [look_dropTok] at h
  split at h
  · cases h
  · rename_i e; exact ⟨e, h⟩
theorem give_row {st : St} {tok r : Nat} {c : List PC} (h : (st.give tok).row r = some c) : ∃ c', st.row r = some c' := by
  obtain ⟨c', h', _⟩ := kill_row_some (st := st) (f := PC.atTok tok) h
  exact ⟨c', h'⟩
theorem Rel.moved : ∀ (as : List AS) (vs : List PV) {st : St}, Rel P Z X st a w → Rel P Z X (st.moved as vs) a w ∧
    (∀ t B, look (st.moved as vs).b t = some B → t ∉ mvToks as vs ∧ look st.b t = some B) ∧ (∀ r c, (st.moved as vs).row r = some c → ∃ c', st.row r = some c')
  | [], vs, st, h => by
    have e : st.moved [] vs = st := by cases vs <;> rfl
    rw [e]; exact ⟨h, fun t B hB => ⟨by cases vs <;> simp [mvToks], hB⟩, fun r c hc => ⟨c, hc⟩⟩
  | c :: as, [], st, h => ⟨h, fun t B hB => ⟨by simp [mvToks], hB⟩, fun r c hc => ⟨c, hc⟩⟩
  | c :: as, v :: vs, st, h => by
    simp only [St.moved]
    cases e : mvTok c v with
    | none =>
      obtain ⟨h1, h2, h3⟩ := Rel.moved as vs h
      exact ⟨h1, fun t B hB => by simpa [mvToks, e] using h2 t B hB, h3⟩
    | some tok =>
      obtain ⟨h1, h2, h3⟩ := Rel.moved as vs (h.give tok)
      refine ⟨h1, fun t B hB => ?_, fun r c hc => ?_⟩
      · obtain ⟨n1, n2⟩ := h2 t B hB
        obtain ⟨n3, n4⟩ := give_look n2
        exact ⟨by simp [mvToks, e, n1, n3], n4⟩
      · obtain ⟨c', hc'⟩ := h3 r c hc
        exact give_row hc'

/-- A block that nothing of the state has. -/
structure Out (Z : At0) (X : Cx) (st : St) (b : Nat) : Prop where
  O : ¬ X.O b
  row : ∀ r c, st.row r = some c → X.ρ r ≠ b
  buf : ∀ t B cap, look st.b t = some B → X.β t ≠ some (b, cap)
theorem Rel.growM (h : Rel P Z X st a w) {M : List Nat} {F' : Nat → Nat} (e : Evo M X.F F' w w') (hM : ∀ b, b ∈ M → X.F b = 0 ∧ Out Z X st b) : Rel P Z { X with F := F' } st a w' := by
  have hrow : ∀ r c, st.row r = some c → X.ρ r ∉ M := fun r c hr hm => (hM _ hm).2.row r c hr rfl
  have hbuf : ∀ t B b cap, look st.b t = some B → X.β t = some (b, cap) → b ∉ M := fun t B b cap hB hb hm => (hM _ hm).2.buf t B cap hB hb
  have hK : Keeps X.O X.F w w' := by
    refine ⟨e.size, fun b hb => e.block b (h.oldO b hb) fun hm => (hM b hm).2.O hb, fun b o ho => cell_of_heap (e.block b ?_ fun hm => ?_)⟩
    · rcases Nat.lt_or_ge b w.heap.size with h' | h'
      · exact h'
      · have := h.fnew b h'; omega
    · have := (hM b hm).1; omega
  have m : Moves X { X with F := F' } st.b st.b w w' (fun _ => false) :=
    ⟨rfl, e.fge, hK, fun _ _ _ _ => rfl, fun _ t _ _ => ⟨rfl, fun B hB => ⟨B, hB, rfl, rfl⟩⟩, fun p t _ ht B b cap hB hb => e.block b (h.buf_lt hB hb) (hbuf t B b cap hB hb)⟩
  refine { O := h.O, evo := ?_, nt := h.nt, defers := h.defers, t := fun n pv hn => RelP.step m (h.t n pv hn), r := fun r c hr => ?_, b := fun t B hB => ?_, rr := h.rr, rb := h.rb, bb := h.bb }
  · have hO : ∀ b, b < Z.w0.heap.size → b ∉ Z.M0 → b ∉ M := fun b hb hm hmm => (hM b hmm).2.O (by rw [h.O]; exact ⟨hb, hm⟩)
    exact ⟨e.os.trans h.evo.os, e.tape.trans h.evo.tape, Nat.le_trans h.evo.drawn e.drawn, e.output.trans h.evo.output, Nat.le_trans h.evo.size e.size,
      fun b hb hm => (e.block b (Nat.lt_of_lt_of_le hb h.evo.size) (hO b hb hm)).trans (h.evo.block b hb hm),
      fun b hb hm => (e.fold b (Nat.lt_of_lt_of_le hb h.evo.size) (hO b hb hm)).trans (h.evo.fold b hb hm), fun b => Nat.le_trans (h.evo.fge b) (e.fge b), e.fnew⟩
  · exact RowOk.step m rfl (e.fold _ (h.row_lt hr) (hrow r c hr)) (e.block _ (h.row_lt hr) (hrow r c hr)) (h.r r c hr)
  · exact BufOk.step m rfl (fun b cap hb => ⟨e.fold _ (h.buf_lt hB hb) (hbuf t B b cap hB hb), e.block _ (h.buf_lt hB hb) (hbuf t B b cap hB hb)⟩) (h.b t B hB)

theorem look_newBuf (st : St) (tok : Nat) (B : Buf) (t : Nat) : look (st.newBuf tok B).b t = if t = tok then some B else look st.b t := by
  simp only [St.newBuf, Go.PgAM.put, look_cons, kill_b]
  by_cases e : tok = t
  · subst e; simp
  · rw [if_neg e, if_neg (fun x => e x.symm)]
theorem newBufs_append (l1 l2 : List (Nat × Buf)) : ∀ (st : St), newBufs st (l1 ++ l2) = newBufs (newBufs st l1) l2 := by
  induction l1 with
  | nil => intro st; rfl
  | cons x l1 ih => intro st; exact ih _
theorem RepV.dcells {O : Nat → Prop} {F : Nat → Nat} {cs : Scs} {x : cs.I} {cells : Array Value} {bs : List (Nat × Buf)} (hO : X.O = O) (hF : X.F = F) (hs : cells.size = cs.size) (h : RepCs P cs O F w x fun j => cells[j]?) :
    All2 (RelK P X bs w) ((cs.cells x).map .d) cells.toList := by
  have hl := cells_length cs x
  refine All2.of_get (by simp [hl, hs]) fun j p u hj hu => ?_
  simp only [List.getElem?_map, Option.map_eq_some_iff] at hj
  obtain ⟨c, hc, rfl⟩ := hj
  obtain ⟨u', hu', hr⟩ := RepCs.cells cs h j c hc
  have : u' = u := by
    simp at hu hu'
    rw [hu] at hu'; simpa using hu'.symm
  subst this
  subst hO; subst hF
  have hr : RelC P X bs w (.d c) u' := hr
  exact ⟨hr, hr.one (by simp) (by simp)⟩
theorem Rel.new1 (h : Rel P Z X st a w) (d : Nat) {r : RS} {x : r.I} {u : Value} {q : Option (Nat × Nat)} (hr : ResOk P X.F w r x u q) (ho : ∀ b cap, q = some (b, cap) → Out Z X st b) :
    ∃ X1, Rel P Z X1 (newBufs st (r.val d x).2) a w ∧ X1.O = X.O ∧ X1.F = X.F ∧ X1.ρ = X.ρ ∧ (∀ t, t ≠ d → X1.β t = X.β t ∧ look (newBufs st (r.val d x).2).b t = look st.b t) ∧
      (∀ r' c, (newBufs st (r.val d x).2).row r' = some c → ∃ c', st.row r' = some c') ∧
      (∀ b, Out Z X st b → (∀ cap, q ≠ some (b, cap)) → Out Z X1 (newBufs st (r.val d x).2) b) ∧
      (∀ B, look st.b d = none → look (newBufs st (r.val d x).2).b d = some B → X1.β d = q) ∧
      ∀ (X' : Cx) bs', X'.O = X.O → X'.F = X.F → X'.β d = X1.β d → look bs' d = look (newBufs st (r.val d x).2).b d → RelTC P X' bs' w (r.val d x).1 u := by
  cases r with
  | d v =>
    obtain ⟨_, g, hw, hv⟩ := hr
    have hv := RepV.mono (O' := X.O) (fun _ h => h.elim) (fun _ => Nat.le_refl _) (Keeps.refl _ _ _) v x g g (fun _ _ => rfl) hv
    have e : (RS.val d (.d v) x).2 = [] := by cases v <;> rfl
    rw [e]
    refine ⟨X, h, rfl, rfl, rfl, fun _ _ => ⟨rfl, rfl⟩, fun r' c hc => ⟨c, hc⟩, fun b hb _ => hb, (fun B h1 h2 => by rw [show look (newBufs st []).b d = look st.b d from rfl, h1] at h2; cases h2), fun X' bs' hO hF _ _ => ?_⟩
    cases v with
    | sc s =>
      simp only [Whole] at hw
      subst hw
      simp only [RepV] at hv
      obtain ⟨u', hu, hs⟩ := hv
      cases hu
      rw [← hO, ← hF] at hs
      have hs : RelC P X' bs' w (.d ⟨s, x⟩) u := hs
      exact ⟨⟨hs, hs.one (by simp) (by simp)⟩, trivial⟩
    | ag cs =>
      obtain ⟨cells, rfl, hsz, rfl⟩ := hw
      simp only [RepV] at hv
      exact ⟨cells, rfl, RepV.dcells hO hF hsz hv⟩
  | fresh e =>
    have key : ∀ q, BufVal P (fun _ => False) X.F w e x u q → (∀ b cap, q = some (b, cap) → Out Z X st b) → BufOk P { X with β := upd X.β d q } w d ⟨true, e, x⟩ ∧ SlAt (upd X.β d q) d (List.length (α := e.I) x) u := by
      intro q hq ho
      cases q with
      | none =>
        obtain ⟨h0, a', hu⟩ := hq
        simp only [BufOk, SlAt, upd_same]
        exact ⟨h0, h0, a', hu⟩
      | some q =>
        obtain ⟨b, cap⟩ := q
        obtain ⟨hu, hF, hle, cs, el, hh, hs, hel⟩ := hq
        simp only [BufOk, SlAt, upd_same]
        refine ⟨⟨(ho b cap rfl).O, by simp [hF], hle, cs, el, hh, hs, fun i hi => ?_⟩, hu⟩
        exact RepV.mono (O' := X.O) (fun _ h => h.elim) (fun _ => Nat.le_refl _) (Keeps.refl _ _ _) e _ _ _ (fun _ _ => rfl) (hel i hi)
    obtain ⟨k1, k2⟩ := key q hr ho
    have hst : newBufs st (RS.val d (.fresh e) x).2 = st.newBuf d ⟨true, e, x⟩ := rfl
    rw [hst]
    refine ⟨{ X with β := upd X.β d q }, h.newBuf d _ q k1 (fun b cap e r c hr => (ho b cap e).row r c hr) (fun b cap e t B' b' cap' ht hB' hb' e2 => ?_), rfl, rfl, rfl, fun t ht => ⟨upd_ne _ _ ht, by rw [look_newBuf, if_neg ht]⟩, fun r' c hc => ?_, fun b hb hq => ?_, fun _ _ _ => upd_same _ _ _, fun X' bs' hO hF hβ hl => ?_⟩
    · subst e2; exact (ho b' cap e).buf t B' cap' hB' hb'
    · obtain ⟨c', hc', _⟩ := kill_row_some (st := st) (f := PC.atTok d) hc
      exact ⟨c', hc'⟩
    · refine ⟨hb.O, fun r c hr => ?_, fun t B cap hB hβ => ?_⟩
      · obtain ⟨c', hr', _⟩ := kill_row_some (st := st) (f := PC.atTok d) hr
        exact hb.row r c' hr'
      · rw [look_newBuf] at hB
        by_cases e : t = d
        · subst e; simp only [upd_same] at hβ; exact hq cap hβ
        · rw [if_neg e] at hB
          simp only [upd_ne _ _ e] at hβ; exact hb.buf t B cap hB hβ
    · rw [look_newBuf, if_pos rfl] at hl
      have : RelC P X' bs' w (.own d) u := by
        refine ⟨_, hl, ?_⟩
        unfold SlAt at k2 ⊢
        rw [hβ]; exact k2
      exact ⟨⟨this, this.one (by simp) (by simp)⟩, trivial⟩
theorem nodup_split {q : Option (Nat × Nat)} {qs : List (Option (Nat × Nat))} (h : (blk (q :: qs)).Nodup) : (blk qs).Nodup ∧ ∀ b, b ∈ blk qs → ∀ cap, q ≠ some (b, cap) := by
  cases q with
  | none => exact ⟨h, fun _ _ _ e => by cases e⟩
  | some q =>
    obtain ⟨b, cap⟩ := q
    simp only [blk, List.nodup_cons] at h
    exact ⟨h.2, fun b' hb' cap' e => by cases e; exact h.1 hb'⟩
theorem Rel.news : ∀ (rs : List RS) (d : Nat) {X : Cx} {st : St} {y : RSs.I rs} {vs : List Value} {ps : List (Option (Nat × Nat))}, Rel P Z X st a w → RessOk P X.F w rs y vs ps → (blk ps).Nodup → (∀ b, b ∈ blk ps → Out Z X st b) →
    ∃ X', Rel P Z X' (newBufs st (RSs.vals d rs y).2) a w ∧ X'.O = X.O ∧ X'.F = X.F ∧ X'.ρ = X.ρ ∧ (∀ t, (t < d ∨ d + rs.length ≤ t) → X'.β t = X.β t ∧ look (newBufs st (RSs.vals d rs y).2).b t = look st.b t) ∧
      (∀ t B b cap, look st.b t = none → look (newBufs st (RSs.vals d rs y).2).b t = some B → X'.β t = some (b, cap) → b ∈ blk ps) ∧
      All2 (RelTC P X' (newBufs st (RSs.vals d rs y).2).b w) (RSs.vals d rs y).1 vs
  | [], d, X, st, y, vs, ps, h, hr, hn, ho => by
    obtain ⟨rfl, rfl⟩ := hr
    exact ⟨X, h, rfl, rfl, rfl, fun _ _ => ⟨rfl, rfl⟩, (fun t B b cap h1 h2 _ => by rw [show look (newBufs st (RSs.vals d [] y).2).b t = look st.b t from rfl, h1] at h2; cases h2), trivial⟩
  | [r], d, X, st, y, vs, ps, h, hr, hn, ho => by
    obtain ⟨u, q, rfl, rfl, hr⟩ := hr
    obtain ⟨X1, h1, h2, h3, h4, h5, _, _, h9, h8⟩ := h.new1 d hr fun b cap e => ho b (by subst e; simp [blk])
    refine ⟨X1, h1, h2, h3, h4, fun t ht => h5 t (by simp at ht; omega), fun t B b cap n1 n2 n3 => ?_, h8 X1 _ h2 h3 rfl rfl, trivial⟩
    by_cases e : t = d
    · subst e
      have := h9 B n1 n2
      rw [n3] at this; subst this; simp [blk]
    · have := (h5 t e).2
      rw [n1] at this
      exact absurd (n2.symm.trans this) (by simp)
  | r :: r' :: rs, d, X, st, y, vs, ps, h, hr, hn, ho => by
    obtain ⟨u, us', q, qs', rfl, rfl, hr, hr'⟩ := hr
    obtain ⟨n1, n2⟩ := nodup_split hn
    obtain ⟨X1, h1, h2, h3, h4, h5, h6, h7, h9, h8⟩ := h.new1 d hr fun b cap e => ho b (by subst e; simp [blk])
    obtain ⟨X', k1, k2, k3, k4, k5, k7, k6⟩ := Rel.news (r' :: rs) (d + 1) h1 (by rw [h3]; exact hr') n1 fun b hb => h7 b (ho b (by
      cases q with
      | none => exact hb
      | some q => simp [blk, hb])) (n2 b hb)
    have e : newBufs st (RSs.vals d (r :: r' :: rs) y).2 = newBufs (newBufs st (r.val d y.1).2) (RSs.vals (d + 1) (r' :: rs) y.2).2 := newBufs_append _ _ _
    rw [e]
    refine ⟨X', k1, k2.trans h2, k3.trans h3, k4.trans h4, fun t ht => ?_, fun t B b cap n1 n2 n3 => ?_, h8 X' _ (k2.trans h2) (k3.trans h3) (k5 d (.inl (by omega))).1 (k5 d (.inl (by omega))).2, k6⟩
    · have ht' : t < d + 1 ∨ d + 1 + (r' :: rs).length ≤ t := by simp at ht ⊢; omega
      have hne : t ≠ d := by simp at ht; omega
      exact ⟨(k5 t ht').1.trans (h5 t hne).1, (k5 t ht').2.trans (h5 t hne).2⟩
    · have tail : b ∈ blk qs' → b ∈ blk (q :: qs') := fun hb => by
        cases q with
        | none => exact hb
        | some q => simp [blk, hb]
      by_cases e : t = d
      · subst e
        have hk := k5 t (.inl (by omega))
        rw [hk.2] at n2
        have := h9 B n1 n2
        rw [hk.1, this] at n3
        subst n3; simp [blk]
      · exact tail (k7 t B b cap ((h5 t e).2.trans n1) n2 n3)
theorem pack_ok {bs : List (Nat × Buf)} {xs : List (Bool × List PC)} {us : List Value} (h : All2 (RelTC P X bs w) xs us) : RelP P X bs w (packPV xs) (packV us) := by
  have tup : (∀ u, us ≠ [u]) → RelP P X bs w (.tup xs) (packV us) := by
    intro hne
    have : packV us = .tuple us.toArray := by
      unfold packV; split
      · exact absurd rfl (hne _)
      · rfl
    rw [this]
    exact ⟨_, rfl, by simpa using h⟩
  match xs, us, h with
  | [], [], h => exact tup fun u e => by cases e
  | [x], [u], h =>
    obtain ⟨ag, ps⟩ := x
    obtain ⟨h, _⟩ := h
    cases ag with
    | true => exact h
    | false =>
      match ps, h with
      | [p], h => exact h.1.1
  | x :: x' :: xs, u :: u' :: us, h => 
    have : packPV (x :: x' :: xs) = .tup (x :: x' :: xs) := by
      unfold packPV; split
      · rename_i e; cases e
      · rename_i e; cases e
      · rfl
    rw [this]
    exact tup fun u e => by cases e
/-- Results in their slots. -/
theorem Rel.results (h : Rel P Z X st a w) {dst : Option Nat} (hd : ∀ n, dst = some n → Z.ok n) {rs : List RS} {y : RSs.I rs} {vs : List Value} {ps : List (Option (Nat × Nat))} (hr : RessOk P X.F w rs y vs ps) (hn : (blk ps).Nodup)
    (ho : ∀ b, b ∈ blk ps → Out Z X st b) : ∃ X', Rel P Z X' (st.results dst rs y) (a.put dst (packV vs)) w ∧ X'.F = X.F ∧ X'.ρ = X.ρ ∧
      (∀ t, (∀ d, dst = some d → t < RSs.tok d rs ∨ RSs.tok d rs + rs.length ≤ t) → X'.β t = X.β t ∧ look (st.results dst rs y).b t = look st.b t) ∧
      ∀ t B b cap, look st.b t = none → look (st.results dst rs y).b t = some B → X'.β t = some (b, cap) → b ∈ blk ps := by
  cases dst with
  | none => exact ⟨X, h, rfl, rfl, fun _ _ => ⟨rfl, rfl⟩, fun t B b cap h1 h2 _ => by rw [show look (st.results none rs y).b t = look st.b t from rfl, h1] at h2; cases h2⟩
  | some d =>
    obtain ⟨X', h1, _, h3, h4, h5, h7, h6⟩ := Rel.news rs (RSs.tok d rs) h hr hn ho
    exact ⟨X', h1.put (hd d rfl) (pack_ok h6), h3, h4, fun t ht => h5 t (ht d rfl), h7⟩
end Go.PgAM

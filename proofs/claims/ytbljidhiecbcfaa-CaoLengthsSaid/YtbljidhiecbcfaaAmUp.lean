/-
  The machine's state goes on: a slot, a variable's row, a buffer, the memory behind a call.
-/
import Derived.Test.YtbljidhiecbcfaaAmSt
import Derived.Laws.CopyRow
namespace Go.PgAM
open Go Go.RowKit
set_option linter.unusedVariables false

def upd {α : Type} (f : Nat → α) (n : Nat) (x : α) : Nat → α := fun m => if m = n then x else f m
theorem upd_same {α : Type} (f : Nat → α) (n : Nat) (x : α) : upd f n x n = x := by simp [upd]
theorem upd_ne {α : Type} (f : Nat → α) {n m : Nat} (x : α) (h : m ≠ n) : upd f n x m = f m := by simp [upd, h]

variable {P : Program} {Z : At0} {X X' : Cx} {st st' : St} {a : Act} {w w' : World}

theorem lt_of_heap {w : World} {b : Nat} {o : Obj} (h : w.heap[b]? = some o) : b < w.heap.size := (Array.getElem?_eq_some_iff.1 h).1
theorem Evo.keeps {F F' : Nat → Nat} (e : Evo [] F F' w w') {O : Nat → Prop} (hO : ∀ b, O b → b < w.heap.size) (hF : ∀ b, w.heap.size ≤ b → F b = 0) : Keeps O F w w' := by
  refine ⟨e.size, fun b hb => e.block b (hO b hb) (by simp), fun b o ho => ?_⟩
  have : b < w.heap.size := by
    rcases Nat.lt_or_ge b w.heap.size with h | h
    · exact h
    · have := hF b h; omega
  exact cell_of_heap (e.block b this (by simp))
theorem Evo.refl (M : List Nat) (F : Nat → Nat) (w : World) (hF : ∀ b, w.heap.size ≤ b → F b = 0) : Evo M F F w w :=
  ⟨rfl, rfl, Nat.le_refl _, rfl, Nat.le_refl _, fun _ _ _ => rfl, fun _ _ _ => rfl, fun _ => Nat.le_refl _, hF⟩
theorem Evo.trans {M : List Nat} {F F' F'' : Nat → Nat} {w w' w'' : World} (h : Evo M F F' w w') (k : Evo [] F' F'' w' w'') : Evo M F F'' w w'' :=
  ⟨k.os.trans h.os, k.tape.trans h.tape, Nat.le_trans h.drawn k.drawn, k.output.trans h.output, Nat.le_trans h.size k.size,
    fun b hb hm => (k.block b (Nat.lt_of_lt_of_le hb h.size) (by simp)).trans (h.block b hb hm),
    fun b hb hm => (k.fold b (Nat.lt_of_lt_of_le hb h.size) (by simp)).trans (h.fold b hb hm), fun b => Nat.le_trans (h.fge b) (k.fge b), k.fnew⟩

theorem Rel.fnew (h : Rel P Z X st a w) : ∀ b, w.heap.size ≤ b → X.F b = 0 := h.evo.fnew
theorem Rel.oldO (h : Rel P Z X st a w) : ∀ b, X.O b → b < w.heap.size := by
  intro b hb
  rw [h.O] at hb
  exact Nat.lt_of_lt_of_le hb.1 h.evo.size
theorem Rel.row_lt (h : Rel P Z X st a w) {r c} (hr : st.row r = some c) : X.ρ r < w.heap.size := by
  obtain ⟨_, _, cs, el, hh, _⟩ := h.r r c hr
  exact lt_of_heap hh
theorem Rel.buf_lt (h : Rel P Z X st a w) {t B b cap} (hB : look st.b t = some B) (hb : X.β t = some (b, cap)) : b < w.heap.size := by
  have := h.b t B hB
  simp only [BufOk, hb] at this
  obtain ⟨_, _, _, cs, el, hh, _⟩ := this
  exact lt_of_heap hh

theorem Moves.same (X : Cx) (bs : List (Nat × Buf)) (w : World) (f : PC → Bool) : Moves X X bs bs w w f :=
  ⟨rfl, fun _ => Nat.le_refl _, Keeps.refl _ _ _, fun _ _ _ _ => rfl, fun _ t _ _ => ⟨rfl, fun B hB => ⟨B, hB, rfl, rfl⟩⟩, fun _ _ _ _ _ _ _ _ _ => rfl⟩

theorem mapD_none : ∀ (pv : PV), pv.mapD (fun _ => false) = pv
  | .s p => rfl
  | .agg ps => by
    have : ps.map (PC.mapD fun _ => false) = ps := by
      have : (PC.mapD fun _ => false) = id := by funext p; rfl
      rw [this]; simp
    simp only [PV.mapD, this]
  | .tup vs => by
    have : (PC.mapD fun _ => false) = id := by funext p; rfl
    simp [PV.mapD, this]
theorem RelP.step {bs bs' : List (Nat × Buf)} (m : Moves X X' bs bs' w w' (fun _ => false)) {pv : PV} {v : Value} (h : RelP P X bs w pv v) : RelP P X' bs' w' pv v := by
  have := RelP.kill_step m pv v h
  rwa [mapD_none] at this
theorem RelK.step' {bs bs' : List (Nat × Buf)} (m : Moves X X' bs bs' w w' (fun _ => false)) {ps : List PC} {us : List Value} (h : All2 (RelK P X bs w) ps us) : All2 (RelK P X' bs' w') ps us :=
  All2.imp' (fun p v hx => ⟨RelC.step m p v rfl hx.1, hx.2⟩) h
theorem RowOk.step {bs bs' : List (Nat × Buf)} (m : Moves X X' bs bs' w w' (fun _ => false)) {r : Nat} {cells : List PC} (hρ : X'.ρ r = X.ρ r) (hF : X'.F (X.ρ r) = X.F (X.ρ r)) (hh : w'.heap[X.ρ r]? = w.heap[X.ρ r]?) (h : RowOk P X bs w r cells) :
    RowOk P X' bs' w' r cells := by
  obtain ⟨h1, h2, cs, el, h3, h4⟩ := h
  exact ⟨by rw [hρ, m.O]; exact h1, by rw [hρ, hF]; exact h2, cs, el, by rw [hρ, hh]; exact h3, RelK.step' m h4⟩

theorem kill_row_some {st : St} {f : PC → Bool} {r : Nat} {c : List PC} (h : (st.kill f).row r = some c) : ∃ c', st.row r = some c' ∧ c = c'.map (PC.mapD f) := by
  rw [kill_row] at h
  cases hr : st.row r with
  | none => simp [hr] at h
  | some c' => simp [hr] at h; exact ⟨c', rfl, h.symm⟩
theorem kill_t_some {st : St} {f : PC → Bool} {n : Nat} {pv : PV} (h : look (st.kill f).t n = some pv) : ∃ pv', look st.t n = some pv' ∧ pv = pv'.mapD f := by
  rw [kill_t] at h
  cases hr : look st.t n with
  | none => simp [hr] at h
  | some c' => simp [hr] at h; exact ⟨c', rfl, h.symm⟩

/-- What a test names is known no more. -/
theorem Rel.kill (h : Rel P Z X st a w) (f : PC → Bool) : Rel P Z X (st.kill f) a w := by
  have m := Moves.same X st.b w f
  refine { O := h.O, evo := h.evo, nt := h.nt, defers := h.defers, t := ?_, r := ?_, b := h.b, rr := ?_, rb := ?_, bb := h.bb }
  · intro n pv hn
    obtain ⟨pv', hn', rfl⟩ := kill_t_some hn
    exact RelP.kill_step m _ _ (h.t n _ hn')
  · intro r c hr
    obtain ⟨c', hr', rfl⟩ := kill_row_some hr
    exact RowOk.kill_step m rfl rfl rfl (h.r r _ hr')
  · intro r r' c c' hr hr'
    obtain ⟨_, hr, _⟩ := kill_row_some hr
    obtain ⟨_, hr', _⟩ := kill_row_some hr'
    exact h.rr r r' _ _ hr hr'
  · intro r c tok B b cap hr hB hb
    obtain ⟨_, hr, _⟩ := kill_row_some hr
    exact h.rb r _ tok B b cap hr hB hb

theorem getD_put (a : Act) (d : Nat) (v : Value) (n : Nat) (hd : d < a.tmps.size) : (a.put (some d) v).tmps.getD n Go.undef = if n = d then v else a.tmps.getD n Go.undef := by
  simp only [Act.put, Array.getD_eq_getD_getElem?, Array.getElem?_setIfInBounds]
  by_cases h : d = n
  · subst h; simp [hd]
  · have : ¬ n = d := fun e => h e.symm
    simp [h, this]
theorem size_put (a : Act) (d : Option Nat) (v : Value) : (a.put d v).tmps.size = a.tmps.size := by cases d <;> simp [Act.put]
theorem defers_put (a : Act) (d : Option Nat) (v : Value) : (a.put d v).defers = a.defers := by cases d <;> rfl

theorem Frm.put (h : Frm Z a) {d : Nat} (hd : Z.ok d) {v : Value} : Frm Z (a.put (some d) v) := by
  refine ⟨by rw [size_put]; exact h.size, fun n hn => ?_⟩
  rw [getD_put a d v n (Nat.lt_of_lt_of_le hd.1 h.size), if_neg (fun e => by have := hd.2; omega)]
  exact h.arg n hn
/-- A slot gets a value. -/
theorem Rel.put (h : Rel P Z X st a w) {d : Nat} (hd : Z.ok d) {pv : PV} {v : Value} (hv : RelP P X st.b w pv v) : Rel P Z X (st.setT (some d) pv) (a.put (some d) v) w := by
  refine { O := h.O, evo := h.evo, nt := h.nt.put hd, defers := by rw [defers_put]; exact h.defers, t := ?_, r := h.r, b := h.b, rr := h.rr, rb := h.rb, bb := h.bb }
  intro n pv' hn
  rw [getD_put a d v n (Nat.lt_of_lt_of_le hd.1 h.nt.size)]
  simp only [St.setT, look_cons] at hn
  by_cases hnd : d = n
  · subst hnd; simp at hn; subst hn; simp only [if_true]; exact hv
  · have : ¬ n = d := fun e => hnd e.symm
    simp only [hnd, if_false] at hn
    simp only [this, if_false]
    exact h.t n pv' hn
theorem Rel.put' (h : Rel P Z X st a w) {d : Option Nat} (hd : ∀ n, d = some n → Z.ok n) {pv : PV} {v : Value} (hv : RelP P X st.b w pv v) : Rel P Z X (st.setT d pv) (a.put d v) w := by
  cases d with
  | none => exact h
  | some d => exact h.put (hd d rfl) hv

theorem Rel.grow_moves (h : Rel P Z X st a w) {F' : Nat → Nat} (e : Evo [] X.F F' w w') (f : PC → Bool) : Moves X { X with F := F' } st.b st.b w w' f :=
  ⟨rfl, e.fge, e.keeps h.oldO h.fnew, fun _ _ _ _ => rfl, fun _ t _ _ => ⟨rfl, fun B hB => ⟨B, hB, rfl, rfl⟩⟩, fun p t _ ht B b cap hB hb => e.block b (h.buf_lt hB hb) (by simp)⟩
/-- New memory alone: all that was known is known. -/
theorem Rel.grow (h : Rel P Z X st a w) {F' : Nat → Nat} (e : Evo [] X.F F' w w') : Rel P Z { X with F := F' } st a w' := by
  have m := h.grow_moves e (fun _ => false)
  refine { O := h.O, evo := h.evo.trans e, nt := h.nt, defers := h.defers, t := fun n pv hn => RelP.step m (h.t n pv hn), r := fun r c hr => ?_, b := fun t B hB => ?_, rr := h.rr, rb := h.rb, bb := h.bb }
  · exact RowOk.step m rfl (e.fold _ (h.row_lt hr) (by simp)) (e.block _ (h.row_lt hr) (by simp)) (h.r r c hr)
  · exact BufOk.step m rfl (fun b cap hb => ⟨e.fold _ (h.buf_lt hB hb) (by simp), e.block _ (h.buf_lt hB hb) (by simp)⟩) (h.b t B hB)

theorem alloc_evo (F : Nat → Nat) (w : World) (o : Obj) (hF : ∀ b, w.heap.size ≤ b → F b = 0) : Evo [] F F w (w.alloc o) :=
  ⟨rfl, rfl, Nat.le_refl _, rfl, by simp, fun b hb _ => by
    have := World.alloc_eq w o
    simp only [World.alloc, Array.getElem?_push]
    rw [if_neg (by omega)], fun _ _ _ => rfl, fun _ => Nat.le_refl _, fun b hb => hF b (by simp at hb; omega)⟩
theorem alloc_new (w : World) (o : Obj) : (w.alloc o).heap[w.heap.size]? = some o := by simp only [World.alloc]; exact Array.getElem?_push_size

/-- A new variable, with cells that are known. -/
theorem Rel.newRow (h : Rel P Z X st a w) {d : Nat} (hd : Z.ok d) {cells : List PC} {cs : Array Value} (el : TypeId) (hc : All2 (RelK P X st.b w) cells cs.toList) :
    Rel P Z { X with ρ := upd X.ρ d w.heap.size } (st.newRow d cells) (a.put (some d) (.pointer (some ⟨w.heap.size, 0, none⟩))) (w.alloc (.cells cs el)) := by
  have e := alloc_evo X.F w (.cells cs el) h.fnew
  have m0 := h.grow_moves e (PC.atLoc d)
  have m : Moves X { X with ρ := upd X.ρ d w.heap.size } st.b st.b w (w.alloc (.cells cs el)) (PC.atLoc d) := by
    refine ⟨rfl, m0.F, m0.K, fun p r hp hr => ?_, m0.b1, m0.b2⟩
    refine upd_ne _ _ fun e => ?_
    subst e; rw [hp] at hr; simp at hr
  have hrow : ∀ r c, (st.newRow d cells).row r = some c → (r = d ∧ c = cells.map (PC.mapD (PC.atLoc d))) ∨ (r ≠ d ∧ ∃ c', st.row r = some c' ∧ c = c'.map (PC.mapD (PC.atLoc d))) := by
    intro r c hr
    simp only [St.newRow, St.row, look_cons] at hr
    by_cases hrd : d = r
    · subst hrd; simp at hr; exact .inl ⟨rfl, hr.symm⟩
    · simp only [hrd, if_false] at hr
      exact .inr ⟨fun e => hrd e.symm, kill_row_some (st := st) (f := PC.atLoc d) hr⟩
  have hρ : ∀ r c, st.row r = some c → X.ρ r ≠ w.heap.size := fun r c hr => by have := h.row_lt hr; omega
  refine { O := h.O, evo := h.evo.trans e, nt := h.nt.put hd, defers := by rw [defers_put]; exact h.defers, t := ?_, r := ?_, b := ?_, rr := ?_, rb := ?_, bb := h.bb }
  · intro n pv hn
    rw [getD_put a d _ n (Nat.lt_of_lt_of_le hd.1 h.nt.size)]
    simp only [St.newRow, look_cons] at hn
    by_cases hnd : d = n
    · subst hnd; simp at hn; subst hn; simp [RelP, RelC, upd_same]
    · have : ¬ n = d := fun e => hnd e.symm
      simp only [hnd, if_false] at hn
      simp only [this, if_false]
      obtain ⟨pv', hn', rfl⟩ := kill_t_some hn
      exact RelP.kill_step m _ _ (h.t n _ hn')
  · intro r c hr
    rcases hrow r c hr with ⟨rfl, rfl⟩ | ⟨hne, c', hr', rfl⟩
    · refine ⟨?_, ?_, cs, el, ?_, All2.kill_step m hc⟩
      · simp only [upd_same]; intro hO; exact absurd (h.oldO _ hO) (by omega)
      · simp only [upd_same]; exact h.fnew _ (Nat.le_refl _)
      · simp only [upd_same]; exact alloc_new w _
    · exact RowOk.kill_step m (upd_ne _ _ hne) rfl (e.block _ (h.row_lt hr') (by simp)) (h.r r c' hr')
  · intro t B hB
    exact BufOk.step m rfl (fun b cap hb => ⟨rfl, e.block _ (h.buf_lt hB hb) (by simp)⟩) (h.b t B hB)
  · intro r r' c c' hr hr' hne
    rcases hrow r c hr with ⟨rfl, _⟩ | ⟨h1, c1, hr1, _⟩ <;> rcases hrow r' c' hr' with ⟨rfl, _⟩ | ⟨h2, c2, hr2, _⟩
    · exact absurd rfl hne
    · simp only [upd_same, upd_ne _ _ h2]; exact fun e => hρ _ _ hr2 e.symm
    · simp only [upd_same, upd_ne _ _ h1]; exact hρ _ _ hr1
    · simp only [upd_ne _ _ h1, upd_ne _ _ h2]; exact h.rr r r' _ _ hr1 hr2 hne
  · intro r c tok B b cap hr hB hb
    rcases hrow r c hr with ⟨rfl, _⟩ | ⟨h1, c1, hr1, _⟩
    · simp only [upd_same]; have := h.buf_lt hB hb; omega
    · simp only [upd_ne _ _ h1]; exact h.rb r c1 tok B b cap hr1 hB hb

/-- A buffer's number gets a new buffer: nothing, or a block that nothing else has. -/
theorem Rel.newBuf (h : Rel P Z X st a w) (tok : Nat) (B : Buf) (q : Option (Nat × Nat)) (hB : BufOk P { X with β := upd X.β tok q } w tok B)
    (hr : ∀ b cap, q = some (b, cap) → ∀ r c, st.row r = some c → X.ρ r ≠ b) (hb : ∀ b cap, q = some (b, cap) → ∀ t B' b' cap', t ≠ tok → look st.b t = some B' → X.β t = some (b', cap') → b' ≠ b) :
    Rel P Z { X with β := upd X.β tok q } (st.newBuf tok B) a w := by
  have m : Moves X { X with β := upd X.β tok q } st.b (st.newBuf tok B).b w w (PC.atTok tok) := by
    refine ⟨rfl, fun _ => Nat.le_refl _, Keeps.refl _ _ _, fun _ _ _ _ => rfl, fun p t hp ht => ?_, fun _ _ _ _ _ _ _ _ _ => rfl⟩
    have hne : t ≠ tok := fun e => by subst e; rw [hp] at ht; simp at ht
    refine ⟨upd_ne _ _ hne, fun B' hB' => ⟨B', ?_, rfl, rfl⟩⟩
    simp only [St.newBuf, Go.PgAM.put, look_cons, kill_b]
    rw [if_neg (fun e => hne e.symm)]; exact hB'
  have hlook : ∀ t B', look (st.newBuf tok B).b t = some B' → (t = tok ∧ B' = B) ∨ (t ≠ tok ∧ look st.b t = some B') := by
    intro t B' ht
    simp only [St.newBuf, Go.PgAM.put, look_cons, kill_b] at ht
    by_cases e : tok = t
    · subst e; simp at ht; exact .inl ⟨rfl, ht.symm⟩
    · simp only [e, if_false] at ht; exact .inr ⟨fun x => e x.symm, ht⟩
  refine { O := h.O, evo := h.evo, nt := h.nt, defers := h.defers, t := ?_, r := ?_, b := ?_, rr := ?_, rb := ?_, bb := ?_ }
  · intro n pv hn
    obtain ⟨pv', hn', rfl⟩ := kill_t_some (st := st) (f := PC.atTok tok) hn
    exact RelP.kill_step m _ _ (h.t n _ hn')
  · intro r c hr
    obtain ⟨c', hr', rfl⟩ := kill_row_some (st := st) (f := PC.atTok tok) hr
    exact RowOk.kill_step m rfl rfl rfl (h.r r _ hr')
  · intro t B' ht
    rcases hlook t B' ht with ⟨rfl, rfl⟩ | ⟨hne, ht⟩
    · exact hB
    · exact BufOk.step m (upd_ne _ _ hne) (fun _ _ _ => ⟨rfl, rfl⟩) (h.b t B' ht)
  · intro r r' c c' hr hr'
    obtain ⟨_, hr, _⟩ := kill_row_some (st := st) (f := PC.atTok tok) hr
    obtain ⟨_, hr', _⟩ := kill_row_some (st := st) (f := PC.atTok tok) hr'
    exact h.rr r r' _ _ hr hr'
  · intro r c t B' b cap hr0 ht0 hβ
    obtain ⟨_, hr2, _⟩ := kill_row_some (st := st) (f := PC.atTok tok) hr0
    rcases hlook t B' ht0 with ⟨e1, e2⟩ | ⟨hne, ht⟩
    · subst e1; simp only [upd_same] at hβ; exact hr b cap hβ r _ hr2
    · simp only [upd_ne _ _ hne] at hβ; exact h.rb r _ t B' b cap hr2 ht hβ
  · intro t t' B1 B2 b cap b' cap' h1 h2 hβ hβ' hne
    rcases hlook t B1 h1 with ⟨e1, _⟩ | ⟨n1, k1⟩ <;> rcases hlook t' B2 h2 with ⟨e2, _⟩ | ⟨n2, k2⟩
    · exact absurd (e1.trans e2.symm) hne
    · subst e1; simp only [upd_same] at hβ; simp only [upd_ne _ _ n2] at hβ'
      exact fun e => hb b cap hβ t' B2 b' cap' n2 k2 hβ' e.symm
    · subst e2; simp only [upd_same] at hβ'; simp only [upd_ne _ _ n1] at hβ
      exact hb b' cap' hβ' t B1 b cap n1 k1 hβ
    · simp only [upd_ne _ _ n1] at hβ; simp only [upd_ne _ _ n2] at hβ'
      exact h.bb t t' B1 B2 b cap b' cap' k1 k2 hβ hβ' hne

theorem BufOk.nil (X : Cx) (w : World) (tok : Nat) (x : Bool) (e : VT) (h : X.β tok = none) : BufOk P X w tok ⟨x, e, []⟩ := by
  simp [BufOk, h]
theorem Rel.newNil (h : Rel P Z X st a w) (tok : Nat) (x : Bool) (e : VT) : Rel P Z { X with β := upd X.β tok none } (st.newBuf tok ⟨x, e, []⟩) a w :=
  h.newBuf tok _ none (BufOk.nil _ _ _ _ _ (upd_same _ _ _)) (by simp) (by simp)

theorem setRow_evo (M : List Nat) (F F' : Nat → Nat) (w : World) (b : Nat) (cs : Array Value) : (w.setRow b cs).heap.size = w.heap.size := setRow_size w b cs
/-- A variable's cells turn. -/
theorem Rel.setRow (h : Rel P Z X st a w) {r : Nat} {cells cells' : List PC} (hr : st.row r = some cells) {cs' : Array Value} (hc : All2 (RelK P X st.b w) cells' cs'.toList) :
    Rel P Z X { st with r := (r, some cells') :: st.r } a (w.setRow (X.ρ r) cs') := by
  obtain ⟨hO, hF, cs, el, hh, _⟩ := h.r r cells hr
  have hoth : ∀ b, b ≠ X.ρ r → (w.setRow (X.ρ r) cs').heap[b]? = w.heap[b]? := fun b hb => setRow_other w _ b _ hb
  have hK : Keeps X.O X.F w (w.setRow (X.ρ r) cs') := by
    refine ⟨by simp, fun b hb => hoth b fun e => hO (e ▸ hb), fun b o ho => cell_of_heap (hoth b fun e => ?_)⟩
    rw [e, hF] at ho; omega
  have m : Moves X X st.b st.b w (w.setRow (X.ρ r) cs') (fun _ => false) :=
    ⟨rfl, fun _ => Nat.le_refl _, hK, fun _ _ _ _ => rfl, fun _ t _ _ => ⟨rfl, fun B hB => ⟨B, hB, rfl, rfl⟩⟩, fun p t _ ht B b cap hB hb => hoth b fun e => h.rb r cells t B b cap hr hB hb e.symm⟩
  have hrow : ∀ r' c, ({ st with r := (r, some cells') :: st.r } : St).row r' = some c → (r' = r ∧ c = cells') ∨ (r' ≠ r ∧ st.row r' = some c) := by
    intro r' c hr'
    simp only [St.row, look_cons] at hr'
    by_cases e : r = r'
    · subst e; simp at hr'; exact .inl ⟨rfl, hr'.symm⟩
    · simp only [e, if_false] at hr'; exact .inr ⟨fun x => e x.symm, hr'⟩
  refine { O := h.O, evo := ?_, nt := h.nt, defers := h.defers, t := fun n pv hn => RelP.step m (h.t n pv hn), r := ?_, b := ?_, rr := ?_, rb := ?_, bb := h.bb }
  · refine ⟨h.evo.os, h.evo.tape, h.evo.drawn, h.evo.output, by simpa using h.evo.size, fun b hb hm => ?_, h.evo.fold, h.evo.fge, by simpa using h.evo.fnew⟩
    rw [hoth b fun e => hO (by rw [h.O]; exact ⟨e ▸ hb, e ▸ hm⟩)]
    exact h.evo.block b hb hm
  · intro r' c hr'
    rcases hrow r' c hr' with ⟨rfl, rfl⟩ | ⟨hne, hr'⟩
    · exact ⟨hO, hF, cs', el, setRow_heap w _ cs cs' el _ hh, RelK.step' m hc⟩
    · exact RowOk.step m rfl rfl (hoth _ fun e => h.rr r' r c cells hr' hr hne e) (h.r r' c hr')
  · intro t B hB
    exact BufOk.step m rfl (fun b cap hb => ⟨rfl, hoth b fun e => h.rb r cells t B b cap hr hB hb e.symm⟩) (h.b t B hB)
  · intro r1 r2 c1 c2 h1 h2 hne
    rcases hrow r1 c1 h1 with ⟨e1, _⟩ | ⟨n1, k1⟩ <;> rcases hrow r2 c2 h2 with ⟨e2, _⟩ | ⟨n2, k2⟩
    · exact absurd (e1.trans e2.symm) hne
    · subst e1; exact h.rr _ _ _ _ hr k2 hne
    · subst e2; exact h.rr _ _ _ _ k1 hr hne
    · exact h.rr _ _ _ _ k1 k2 hne
  · intro r1 c1 t B b cap h1 hB hb
    rcases hrow r1 c1 h1 with ⟨e1, _⟩ | ⟨n1, k1⟩
    · subst e1; exact h.rb _ _ t B b cap hr hB hb
    · exact h.rb _ _ t B b cap k1 hB hb

/-- A buffer's cells turn, behind what is frozen of them. -/
theorem Rel.setBuf (h : Rel P Z X st a w) {tok b cap : Nat} {B B' : Buf} (hB : look st.b tok = some B) (hb : X.β tok = some (b, cap)) (f : PC → Bool)
    {cs cs' : Array Value} {el : TypeId} (hh : w.heap[b]? = some (.cells cs el (0, 0))) (hfz : ∀ o, o < X.F b → cs'[o]? = cs[o]?)
    (hf1 : ∀ p, f p = false → PC.ptrTo tok p = false) (hf2 : ∀ p, f p = false → PC.atTok tok p = true → B'.xs.length = B.xs.length ∧ B'.e = B.e)
    (hB' : BufOk P X (w.setRow b cs') tok B') :
    Rel P Z X { st.kill f with b := (tok, B') :: st.b } a (w.setRow b cs') := by
  have hbok := h.b tok B hB
  simp only [BufOk, hb] at hbok
  obtain ⟨hO, _, _, _⟩ := hbok
  have hoth : ∀ b', b' ≠ b → (w.setRow b cs').heap[b']? = w.heap[b']? := fun b' hb' => setRow_other w _ b' _ hb'
  have hnew := setRow_heap w b cs cs' el (0, 0) hh
  have hK : Keeps X.O X.F w (w.setRow b cs') := by
    refine ⟨by simp, fun b' hb' => hoth b' fun e => hO (e ▸ hb'), fun b' o ho => ?_⟩
    by_cases e : b' = b
    · subst e; simp only [World.cell?, hnew, hh]; simpa using hfz o ho
    · exact cell_of_heap (hoth b' e)
  have hl : ∀ t, t ≠ tok → look ((tok, B') :: st.b) t = look st.b t := fun t ht => by rw [look_cons, if_neg (fun e => ht e.symm)]
  have m : Moves X X st.b ((tok, B') :: st.b) w (w.setRow b cs') f := by
    refine ⟨rfl, fun _ => Nat.le_refl _, hK, fun _ _ _ _ => rfl, fun p t hp ht => ⟨rfl, fun B1 hB1 => ?_⟩, fun p t hp ht B1 b1 cap1 hB1 hb1 => ?_⟩
    · by_cases e : t = tok
      · subst e
        obtain ⟨h1, h2⟩ := hf2 p hp ht
        rw [hB] at hB1; cases hB1
        exact ⟨B', by simp [look_cons], h1, h2⟩
      · exact ⟨B1, by rw [hl t e]; exact hB1, rfl, rfl⟩
    · refine hoth b1 fun e => ?_
      have hne : t ≠ tok := fun e => by subst e; rw [hf1 p hp] at ht; simp at ht
      exact h.bb t tok B1 B b1 cap1 b cap hB1 hB hb1 hb hne e
  have hlook : ∀ t B1, look ((tok, B') :: st.b) t = some B1 → (t = tok ∧ B1 = B') ∨ (t ≠ tok ∧ look st.b t = some B1) := by
    intro t B1 ht
    rw [look_cons] at ht
    by_cases e : tok = t
    · subst e; simp at ht; exact .inl ⟨rfl, ht.symm⟩
    · simp only [e, if_false] at ht; exact .inr ⟨fun x => e x.symm, ht⟩
  refine { O := h.O, evo := ?_, nt := h.nt, defers := h.defers, t := ?_, r := ?_, b := ?_, rr := ?_, rb := ?_, bb := ?_ }
  · refine ⟨h.evo.os, h.evo.tape, h.evo.drawn, h.evo.output, by simpa using h.evo.size, fun b' hb' hm => ?_, h.evo.fold, h.evo.fge, by simpa using h.evo.fnew⟩
    rw [hoth b' fun e => hO (by rw [h.O]; exact ⟨e ▸ hb', e ▸ hm⟩)]
    exact h.evo.block b' hb' hm
  · intro n pv hn
    obtain ⟨pv', hn', rfl⟩ := kill_t_some (st := st) (f := f) hn
    exact RelP.kill_step m _ _ (h.t n _ hn')
  · intro r c hr
    obtain ⟨c', hr', rfl⟩ := kill_row_some (st := st) (f := f) hr
    exact RowOk.kill_step m rfl rfl (hoth _ fun e => h.rb r c' tok B b cap hr' hB hb e) (h.r r _ hr')
  · intro t B1 ht
    rcases hlook t B1 ht with ⟨rfl, rfl⟩ | ⟨hne, ht⟩
    · exact hB'
    · exact BufOk.step m rfl (fun b1 cap1 hb1 => ⟨rfl, hoth b1 fun e => h.bb t tok B1 B b1 cap1 b cap ht hB hb1 hb hne e⟩) (h.b t B1 ht)
  · intro r r' c c' hr hr'
    obtain ⟨_, hr, _⟩ := kill_row_some (st := st) (f := f) hr
    obtain ⟨_, hr', _⟩ := kill_row_some (st := st) (f := f) hr'
    exact h.rr r r' _ _ hr hr'
  · intro r c t B1 b1 cap1 hr ht hβ
    obtain ⟨_, hr2, _⟩ := kill_row_some (st := st) (f := f) hr
    rcases hlook t B1 ht with ⟨e1, _⟩ | ⟨hne, k1⟩
    · subst e1; exact h.rb r _ t B b1 cap1 hr2 hB hβ
    · exact h.rb r _ t B1 b1 cap1 hr2 k1 hβ
  · intro t t' B1 B2 b1 cap1 b2 cap2 h1 h2 hβ hβ' hne
    rcases hlook t B1 h1 with ⟨e1, _⟩ | ⟨n1, k1⟩ <;> rcases hlook t' B2 h2 with ⟨e2, _⟩ | ⟨n2, k2⟩
    · exact absurd (e1.trans e2.symm) hne
    · subst e1; exact h.bb _ _ _ _ _ _ _ _ hB k2 hβ hβ' hne
    · subst e2; exact h.bb _ _ _ _ _ _ _ _ k1 hB hβ hβ' hne
    · exact h.bb _ _ _ _ _ _ _ _ k1 k2 hβ hβ' hne
end Go.PgAM
